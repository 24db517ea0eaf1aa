/- Label. -/
import Derived.Test.YtgoojcjfhghmgaaDoorBc
import Derived.StillTailTactics

namespace Go.Proofs.YtgoojcjfhghmgaaDoor
open Go.RowKit

theorem nm_zero {b : Bk} {item : Int} (h : nmR b item = 0) : vlR b = 0 ∧ 0 ≤ item ∧ item < b.its.length := by
  unfold nmR at h
  split at h
  · rename_i h0
    split at h
    · omega
    · rename_i h1; exact ⟨h0, by omega, by omega⟩
  · contradiction
theorem bl_short {x p : Nat} (hx : x < 2 ^ p) (hp : p ≤ 10) : (bl x).length ≤ 10 := Nat.le_trans (bl_length hx (by omega)) hp
/-- What Label returns. -/
def LbR (b : Bk) (item : Int) (base : Nat) (v : Value) (w : World) : Prop :=
  if nmR b item = 0 then ∃ x : Nat, Lbl b item.toNat x ∧ w.ownsRow base 3 1 v (bl x).length (natV (bl x)) else v = .slice none 0 0

set_option maxRecDepth 100000 in
set_option maxHeartbeats 2000000 in
theorem Label_any (AI AR : Option Addr) (cI cR B : Nat) (b : Bk) (item : Int) (w : World) (hB : B ≤ w.heap.size) (h : ItsAt B w AI b.its) (h' : RusAt B w AR b.rus) (hs : Short b) (hT : Tab w) :
    Calls Tryd.prog 28 #[.agg #[.int .i64 b.p, .slice AI b.its.length cI, .slice AR b.rus.length cR], .int .i64 item] w fun e w' => ∃ v, e = .returned (.tuple #[v, .int .i64 (nmR b item)]) ∧ LbR b item w.heap.size v w' ∧ Below w.heap.size w w' := by
  have hb0 := Blk.new w 25 #[.int .i64 b.p, .slice AI b.its.length cI, .slice AR b.rus.length cR]
  have hw0 : Below w.heap.size w (w.alloc (.cells #[.int .i64 b.p, .slice AI b.its.length cI, .slice AR b.rus.length cR] 25)) := (Below.refl _ _).alloc (Nat.le_refl _) _
  obtain ⟨W0, hW0⟩ : ∃ W0, W0 = w.alloc (.cells #[.int .i64 b.p, .slice AI b.its.length cI, .slice AR b.rus.length cR] 25) := ⟨_, rfl⟩
  rw [← hW0] at hb0 hw0
  have hlt : w.heap.size < W0.heap.size := hb0.lt
  have hI := (h.below (Below.refl _ _) hB).below hw0 (Nat.le_of_lt hlt)
  have hR := (h'.below (Below.refl _ _) hB).below hw0 (Nat.le_of_lt hlt)
  have hT0 := hT.below hw0 hT.2
  have cn := Lib.hid (named_any AI AR cI cR _ b item W0 (Nat.le_refl _) hI hR hs)
  have Hsh := Lib.hid (fun e0 (he : e0 = nmR b item) => show ∀ v W, LbR b item w.heap.size v W ↔ (if e0 = 0 then ∃ x : Nat, Lbl b item.toNat x ∧ W.ownsRow w.heap.size 3 1 v (bl x).length (natV (bl x)) else v = .slice none 0 0) from fun v W => by rw [he]; rfl)
  have HB := Lib.hid hb0
  have Hw := Lib.hid hw0
  by_cases h0 : nmR b item = 0
  · obtain ⟨hv0, hi0, hi1⟩ := nm_zero h0
    have hv := vl_zero hv0
    have hp := hv.p1
    have cl := Lib.hid (fun W (hW : Below W0.heap.size W0 W) => label_any AI AR cI cR W0.heap.size b item.toNat W hW.size (hI.below hW (Nat.le_refl _)) (hR.below hW (Nat.le_refl _)) hs hv (by omega) (hT0.below hW hT0.2))
    rw [Int.toNat_of_nonneg hi0] at cl
    have HT := Lib.hid hT0
    have Hp := Lib.hid (show ∀ x, Lbl b item.toNat x → x < 1152921504606846976 ∧ (bl x).length ≤ 1000 from fun x hx => ⟨Nat.lt_of_lt_of_le hx.2 (Nat.le_trans (Nat.pow_le_pow_right (by decide) (show b.p.toNat ≤ 10 by omega)) (by decide)), Nat.le_trans (bl_short hx.2 (by omega)) (by decide)⟩)
    have Hs0 := Lib.hid ((Hsh.out 0 h0.symm))
    rw [h0] at cn
    have Hz := Lib.hid h0
    clear h h' hs hI hR hb0 hw0 hT hT0 hv hv0 hp Hsh h0 hi0 hi1 hB
    go_enter Tryd.func28, Tryd.ntmps28
    have tok := Lib.hid (Nat.le_refl 0)
    go_wp2_with (first
      | (have tk := tok; clear tok; go_at_call 67; rw [← hW0]; clear hW0; refine cn.out.mono ?_; rintro e w1 ⟨rfl, hd⟩; have tok2 := tk; have hx1 := HB.out.below hd hlt; have z0 := hx1.cell 0; have z1 := hx1.cell 1; have z2 := hx1.cell 2)
      | (have tk2 := tok2; clear tok2; go_at_call 72; refine (cl.out _ hd).mono ?_; rintro e w2 ⟨x, rfl, hx, hd2⟩; have tok3 := tk2; have hd02 := hd.trans (hd2.mono hd.size); obtain ⟨hx60, hx10⟩ := Hp.out x hx)
      | (have tk3 := tok3; clear tok3; go_at_call 65; refine (list_any x hx60 _ (HT.out.below hd02 HT.out.2) hx10).mono ?_; rintro e w3 ⟨v, rfl, ho, hd3⟩))
    go_ret2
    refine ⟨v, by rw [Hz.out]; rfl, ?_, ?_⟩
    · rw [Hs0.out, if_pos trivial]
      exact ⟨x, hx, own_base ho (Nat.le_trans (Nat.le_of_lt hlt) hd02.size)⟩
    · exact (Hw.out.trans (hd02.mono Hw.out.size)).trans (hd3.mono (Nat.le_trans (Nat.le_of_lt hlt) hd02.size))
  · have he1 : (nmR b item == 0) = false := by simpa using h0
    have he2 : (nmR b item != 0) = true := by simpa using h0
    have Hs0 := Lib.hid ((Hsh.out _ rfl))
    generalize nmR b item = e0 at *
    clear h h' hs hI hR hb0 hw0 hT hT0 Hsh hB
    go_enter Tryd.func28, Tryd.ntmps28
    have tok := Lib.hid (Nat.le_refl 0)
    go_wp2_with (have tk := tok; clear tok; go_at_call 67; rw [← hW0]; clear hW0; refine cn.out.mono ?_; rintro e w1 ⟨rfl, hd⟩; have hx1 := HB.out.below hd hlt; have z0 := hx1.cell 0; have z1 := hx1.cell 1; have z2 := hx1.cell 2)
    go_ret2
    refine ⟨_, rfl, ?_, Hw.out.trans (hd.mono Hw.out.size)⟩
    rw [Hs0.out, if_neg h0]
    rfl
end Go.Proofs.YtgoojcjfhghmgaaDoor

/- Plain: bits and lists; tables. -/
namespace Go.Proofs.YtgoojcjfhghmgaaDoor
open Go.RowKit

theorem ctz_le {m : Nat} (h0 : m ≠ 0) (hm : m < 18446744073709551616) {i : Nat} (h : m.testBit i = true) : Lib.ctz 64 m ≤ i := by
  obtain ⟨q, hq, _⟩ := Lib.ctzFrom_spec 64 m (by omega) hm
  have hc : Lib.ctz 64 m = Lib.ctzFrom 64 m := by unfold Lib.ctz; rw [if_neg h0]
  rw [hc]
  apply Classical.byContradiction
  intro hn
  rw [hq, Nat.testBit_two_pow_mul] at h
  simp at h
  omega
theorem bl_asc : ∀ (m : Nat) (_ : m < 18446744073709551616), (bl m).Pairwise (· < ·) := by
  intro m
  induction m using Nat.strongRecOn with
  | _ m ih =>
    intro hm
    by_cases h0 : m = 0
    · subst h0; rw [bl_zero]; exact .nil
    · rw [bl_pos h0, List.pairwise_cons]
      have hlt := clear_lt h0
      refine ⟨fun i hi => ?_, ih _ hlt (by omega)⟩
      rw [mem_bl _ (by omega), clear_bit h0 hm, Bool.and_eq_true, decide_eq_true_eq] at hi
      have := ctz_le h0 hm hi.1
      omega
theorem asc_ext : ∀ {a b : List Nat}, a.Pairwise (· < ·) → b.Pairwise (· < ·) → (∀ i, i ∈ a ↔ i ∈ b) → a = b
  | [], [], _, _, _ => rfl
  | [], y :: b, _, _, h => by have := (h y).2 (by simp); simp at this
  | x :: a, [], _, _, h => by have := (h x).1 (by simp); simp at this
  | x :: a, y :: b, ha, hb, h => by
    rw [List.pairwise_cons] at ha hb
    have e : x = y := by
      have h1 := (h x).1 (by simp)
      have h2 := (h y).2 (by simp)
      rcases List.mem_cons.1 h1 with rfl | h1
      · rfl
      · rcases List.mem_cons.1 h2 with rfl | h2
        · rfl
        · have := ha.1 y h2; have := hb.1 x h1; omega
    subst e
    congr 1
    refine asc_ext ha.2 hb.2 fun i => ?_
    constructor
    · intro hi
      rcases List.mem_cons.1 ((h i).1 (List.mem_cons_of_mem _ hi)) with rfl | h1
      · have := ha.1 i hi; omega
      · exact h1
    · intro hi
      rcases List.mem_cons.1 ((h i).2 (List.mem_cons_of_mem _ hi)) with rfl | h1
      · have := hb.1 i hi; omega
      · exact h1
theorem filter_asc (n : Nat) (p : Nat → Bool) : ((List.range n).filter p).Pairwise (· < ·) := List.Pairwise.filter _ List.pairwise_lt_range
theorem bl_filter {m n : Nat} (hm : m < 2 ^ n) (hn : n ≤ 60) : bl m = (List.range n).filter fun i => m.testBit i := by
  have h1 : m < 18446744073709551616 := Nat.lt_of_lt_of_le hm (Nat.le_trans (Nat.pow_le_pow_right (by decide) hn) (by decide))
  refine asc_ext (bl_asc m h1) (filter_asc _ _) fun i => ?_
  rw [List.mem_filter, List.mem_range, mem_bl m h1]
  exact ⟨fun h => ⟨bl_lt hm hn ((mem_bl m h1 i).2 h), h⟩, fun h => h.2⟩
/-- Bits of a list of places. -/
theorem bits_ext {x y p : Nat} (hx : x < 2 ^ p) (hy : y < 2 ^ p) (h : ∀ i, i < p → x.testBit i = y.testBit i) : x = y := by
  apply Nat.eq_of_testBit_eq
  intro i
  by_cases hi : i < p
  · exact h i hi
  · rw [Nat.testBit_lt_two_pow (Nat.lt_of_lt_of_le hx (Nat.pow_le_pow_right (by decide) (by omega))), Nat.testBit_lt_two_pow (Nat.lt_of_lt_of_le hy (Nat.pow_le_pow_right (by decide) (by omega)))]
/-- The number whose bits below k are those that are ok. -/
def sumTo (ok : Nat → Bool) : Nat → Nat
  | 0 => 0
  | k + 1 => sumTo ok k + if ok k then 2 ^ k else 0
theorem sumTo_lt (ok : Nat → Bool) : ∀ k, sumTo ok k < 2 ^ k
  | 0 => by simp [sumTo]
  | k + 1 => by
    have := sumTo_lt ok k
    have h2 : 2 ^ (k + 1) = 2 ^ k + 2 ^ k := by rw [Nat.pow_succ]; omega
    simp only [sumTo]
    split <;> omega
theorem sumTo_or (ok : Nat → Bool) (k : Nat) : sumTo ok k ||| 2 ^ k = sumTo ok k + 2 ^ k := by
  have := Nat.two_pow_add_eq_or_of_lt (sumTo_lt ok k) 1
  rw [Nat.mul_one] at this
  rw [Nat.or_comm, ← this, Nat.add_comm]
theorem sumTo_bit (ok : Nat → Bool) : ∀ k q, (sumTo ok k).testBit q = (decide (q < k) && ok q)
  | 0, q => by simp [sumTo]
  | k + 1, q => by
    have ih := sumTo_bit ok k q
    simp only [sumTo]
    cases hk : ok k with
    | false =>
      rw [if_neg (by simp), Nat.add_zero, ih]
      by_cases e : q = k
      · subst e; simp [hk]
      · congr 1; rw [decide_eq_decide]; omega
    | true =>
      rw [if_pos rfl, ← sumTo_or, Nat.testBit_or, ih, Nat.testBit_two_pow]
      by_cases e : q = k
      · subst e; simp [hk]
      · have : decide (k = q) = false := by simpa using Ne.symm e
        rw [this, Bool.or_false]
        congr 1; rw [decide_eq_decide]; omega
theorem sumTo_congr {f g : Nat → Bool} : ∀ k, (∀ q, q < k → f q = g q) → sumTo f k = sumTo g k
  | 0, _ => rfl
  | k + 1, h => by simp only [sumTo]; rw [sumTo_congr k fun q hq => h q (by omega), h k (by omega)]
/-- The dishes that all children of a set can eat. -/
def etF (l : List Nat) (m : Nat) (L : List Nat) : Nat := L.foldl (fun m i => m &&& l[i]?.getD 0) m
theorem etF_bit (l : List Nat) (q : Nat) : ∀ (L : List Nat) (m : Nat), (etF l m L).testBit q = (m.testBit q && L.all fun i => (l[i]?.getD 0).testBit q)
  | [], m => by simp [etF]
  | i :: L, m => by
    have := etF_bit l q L (m &&& l[i]?.getD 0)
    unfold etF at this ⊢
    rw [List.foldl_cons, this, Nat.testBit_and, List.all_cons, Bool.and_assoc]
theorem etF_le (l : List Nat) : ∀ (L : List Nat) (m : Nat), etF l m L ≤ m
  | [], m => by simp [etF]
  | i :: L, m => by
    have := etF_le l L (m &&& l[i]?.getD 0)
    have h2 := Nat.and_le_left (n := m) (m := l[i]?.getD 0)
    unfold etF at this ⊢
    rw [List.foldl_cons]
    omega
def okD (l : List Nat) (c q : Nat) : Bool := (List.range l.length).all fun i => !c.testBit i || (l[i]?.getD 0).testBit q
def okC (l : List Nat) (d m i : Nat) : Bool := (List.range d).all fun q => !m.testBit q || (l[i]?.getD 0).testBit q
/-- What all of some children can eat; who can eat all of a set. -/
def comS (l : List Nat) (d c : Nat) : Nat := sumTo (okD l c) d
def eaS (l : List Nat) (d m : Nat) : Nat := sumTo (okC l d m) l.length
theorem comS_eq {l : List Nat} {d c : Nat} (hl : l.length ≤ 60) (hc : c < 2 ^ l.length) : etF l (2 ^ d - 1) (bl c) = comS l d c := by
  have h0 := Nat.two_pow_pos d
  refine bits_ext (p := d) (Nat.lt_of_le_of_lt (etF_le _ _ _) (by omega)) (sumTo_lt _ _) fun q hq => ?_
  rw [etF_bit, comS, sumTo_bit, Nat.testBit_two_pow_sub_one, bl_filter hc hl, okD, List.all_filter]
theorem comS_bit {l : List Nat} {d c q : Nat} : (comS l d c).testBit q = true ↔ q < d ∧ ∀ i, i < l.length → c.testBit i = true → (l[i]?.getD 0).testBit q = true := by
  rw [comS, sumTo_bit, Bool.and_eq_true, decide_eq_true_eq, okD, List.all_eq_true]
  simp only [List.mem_range]
  refine and_congr_right fun _ => ⟨fun h i hi hb => ?_, fun h i hi => ?_⟩
  · have := h i hi; rwa [hb] at this
  · cases hb : c.testBit i with
    | false => rfl
    | true => exact h i hi hb
theorem eaS_bit {l : List Nat} {d m i : Nat} : (eaS l d m).testBit i = true ↔ i < l.length ∧ ∀ q, q < d → m.testBit q = true → (l[i]?.getD 0).testBit q = true := by
  rw [eaS, sumTo_bit, Bool.and_eq_true, decide_eq_true_eq, okC, List.all_eq_true]
  simp only [List.mem_range]
  refine and_congr_right fun _ => ⟨fun h i hi hb => ?_, fun h i hi => ?_⟩
  · have := h i hi; rwa [hb] at this
  · cases hb : m.testBit i with
    | false => rfl
    | true => exact h i hi hb
/-- Fewer children: no fewer dishes. -/
theorem comS_less {l : List Nat} {d c c' : Nat} (h : ∀ i, c'.testBit i = true → c.testBit i = true) (q : Nat) (hq : (comS l d c).testBit q = true) : (comS l d c').testBit q = true := by
  rw [comS_bit] at hq ⊢
  exact ⟨hq.1, fun i hi hb => hq.2 i hi (h i hb)⟩
theorem eaS_less {l : List Nat} {d m m' : Nat} (h : ∀ q, m'.testBit q = true → m.testBit q = true) (i : Nat) (hi : (eaS l d m).testBit i = true) : (eaS l d m').testBit i = true := by
  rw [eaS_bit] at hi ⊢
  exact ⟨hi.1, fun q hq hb => hi.2 q hq (h q hb)⟩
theorem gal1 {l : List Nat} {d c : Nat} (hc : c < 2 ^ l.length) (i : Nat) (h : c.testBit i = true) : (eaS l d (comS l d c)).testBit i = true := by
  rw [eaS_bit]
  have hi : i < l.length := by
    apply Classical.byContradiction
    intro hn
    rw [Nat.testBit_lt_two_pow (Nat.lt_of_lt_of_le hc (Nat.pow_le_pow_right (by decide) (by omega)))] at h
    cases h
  exact ⟨hi, fun q _ hb => (comS_bit.1 hb).2 i hi h⟩
theorem gal2 {l : List Nat} {d m : Nat} (hm : m < 2 ^ d) (q : Nat) (h : m.testBit q = true) : (comS l d (eaS l d m)).testBit q = true := by
  rw [comS_bit]
  have hq : q < d := by
    apply Classical.byContradiction
    intro hn
    rw [Nat.testBit_lt_two_pow (Nat.lt_of_lt_of_le hm (Nat.pow_le_pow_right (by decide) (by omega)))] at h
    cases h
  exact ⟨hq, fun i _ hb => (eaS_bit.1 hb).2 q hq h⟩
theorem bits_eq {x y : Nat} (h1 : ∀ q, x.testBit q = true → y.testBit q = true) (h2 : ∀ q, y.testBit q = true → x.testBit q = true) : x = y := by
  apply Nat.eq_of_testBit_eq
  intro i
  rw [Bool.eq_iff_iff]
  exact ⟨h1 i, h2 i⟩
theorem com_com {l : List Nat} {d c : Nat} (hc : c < 2 ^ l.length) : comS l d (eaS l d (comS l d c)) = comS l d c :=
  bits_eq (comS_less (gal1 hc)) (gal2 (sumTo_lt _ _))
theorem sub_and {x y : Nat} (h : ∀ q, x.testBit q = true → y.testBit q = true) : y &&& x = x := by
  apply Nat.eq_of_testBit_eq
  intro i
  rw [Nat.testBit_and]
  cases hx : x.testBit i with
  | false => simp
  | true => rw [h i hx]; rfl
theorem and_sub {x y : Nat} (h : y &&& x = x) (q : Nat) (hq : x.testBit q = true) : y.testBit q = true := by
  rw [← h, Nat.testBit_and, Bool.and_eq_true] at hq
  exact hq.1
end Go.Proofs.YtgoojcjfhghmgaaDoor

/- known. -/
namespace Go.Proofs.YtgoojcjfhghmgaaDoor
open Go.RowKit

theorem IntsAt.of_blk {W : World} {g : Nat} {t : TypeId} {cs : Array Value} (l : List Int) (h : Blk W g t cs) (hc : cs.toList = l.map (Value.int .i64)) : IntsAt W.heap.size W (some ⟨g, 0, none⟩) l := by
  intro k hk
  refine ⟨g, 0, rfl, h.lt, fun j hj => ?_⟩
  obtain rfl : j = 0 := by omega
  rw [Nat.mul_one, Nat.add_zero, Nat.zero_add, h.cell k, ← Array.getElem?_toList, hc]
  simp [hk]
/-- A slice that a call owns, read as one of ints. -/
theorem IntsAt.of_nat {w : World} {base e : Nat} {v : Value} {ds : List Nat} (h : w.ownsRow base e 1 v ds.length (natV ds)) : ∃ A c, v = .slice A (intL ds).length c ∧ IntsAt w.heap.size w A (intL ds) := by
  have hl : (intL ds).length = ds.length := by simp [intL]
  have hm : natV ds = (intL ds).map (Value.int .i64) := by simp [natV, intL]
  rw [hm, ← hl] at h
  exact IntsAt.of_own' h

def b0 : Bk := ⟨3, [([], [0]), ([], [1]), ([0, 1], [])], [([0, 1], 2)]⟩
def kw (w : World) : World := (((((((w.alloc (.cells #[.int .i64 0] 3)).alloc (.cells #[.int .i64 1] 3)).alloc (.cells #[.int .i64 0, .int .i64 1] 3)).alloc
  (.cells #[.slice none 0 0, .slice (some ⟨w.heap.size, 0, none⟩) 1 1, .slice none 0 0, .slice (some ⟨w.heap.size + 1, 0, none⟩) 1 1, .slice (some ⟨w.heap.size + 1 + 1, 0, none⟩) 2 2, .slice none 0 0] 84)).alloc
  (.cells #[.int .i64 0, .int .i64 1] 3)).alloc (.cells #[.slice (some ⟨w.heap.size + 1 + 1 + 1 + 1, 0, none⟩) 2 2, .int .i64 2] 42)).alloc
  (.cells #[.int .i64 3, .slice (some ⟨w.heap.size + 1 + 1 + 1, 0, none⟩) 3 3, .slice (some ⟨w.heap.size + 1 + 1 + 1 + 1 + 1, 0, none⟩) 1 1] 25))
theorem kw_below (w : World) : Below w.heap.size w (kw w) := by
  unfold kw
  have h0 := Below.refl w.heap.size w
  have h1 := balloc h0 (.cells #[.int .i64 0] 3)
  have h2 := balloc h1 (.cells #[.int .i64 1] 3)
  have h3 := balloc h2 (.cells #[.int .i64 0, .int .i64 1] 3)
  exact balloc (balloc (balloc (balloc h3 _) _) _) _
theorem kw_its (w : World) : ItsAt (kw w).heap.size (kw w) (some ⟨w.heap.size + 1 + 1 + 1, 0, none⟩) b0.its ∧ RusAt (kw w).heap.size (kw w) (some ⟨w.heap.size + 1 + 1 + 1 + 1 + 1, 0, none⟩) b0.rus := by
  have hA : Blk (kw w) w.heap.size 3 #[.int .i64 0] := ((((((Blk.new w 3 #[.int .i64 0]).alloc _).alloc _).alloc _).alloc _).alloc _).alloc _
  have hB : Blk (kw w) (w.heap.size + 1) 3 #[.int .i64 1] := (((((blk_new' (by simp only [World.size_alloc])).alloc _).alloc _).alloc _).alloc _).alloc _
  have hC : Blk (kw w) (w.heap.size + 1 + 1) 3 #[.int .i64 0, .int .i64 1] := ((((blk_new' (by simp only [World.size_alloc])).alloc _).alloc _).alloc _).alloc _
  have hD : Blk (kw w) (w.heap.size + 1 + 1 + 1) 84 #[.slice none 0 0, .slice (some ⟨w.heap.size, 0, none⟩) 1 1, .slice none 0 0, .slice (some ⟨w.heap.size + 1, 0, none⟩) 1 1, .slice (some ⟨w.heap.size + 1 + 1, 0, none⟩) 2 2, .slice none 0 0] := (((blk_new' (by simp only [World.size_alloc])).alloc _).alloc _).alloc _
  have hE : Blk (kw w) (w.heap.size + 1 + 1 + 1 + 1) 3 #[.int .i64 0, .int .i64 1] := ((blk_new' (by simp only [World.size_alloc])).alloc _).alloc _
  have hF : Blk (kw w) (w.heap.size + 1 + 1 + 1 + 1 + 1) 42 #[.slice (some ⟨w.heap.size + 1 + 1 + 1 + 1, 0, none⟩) 2 2, .int .i64 2] := (blk_new' (by simp only [World.size_alloc])).alloc _
  have iA := IntsAt.of_blk [0] hA rfl
  have iB := IntsAt.of_blk [1] hB rfl
  have iC := IntsAt.of_blk [0, 1] hC rfl
  have iE := IntsAt.of_blk [0, 1] hE rfl
  constructor
  · intro k hk
    have hk3 : k < 3 := hk
    match k, hk3 with
    | 0, _ => exact ⟨_, 0, none, 0, _, 1, rfl, hD.lt, hD.cell 0, hD.cell 1, IntsAt.nil _ _ _, iA⟩
    | 1, _ => exact ⟨_, 0, none, 0, _, 1, rfl, hD.lt, hD.cell 2, hD.cell 3, IntsAt.nil _ _ _, iB⟩
    | 2, _ => exact ⟨_, 0, _, 2, none, 0, rfl, hD.lt, hD.cell 4, hD.cell 5, iC, IntsAt.nil _ _ _⟩
  · intro k hk
    have hk1 : k < 1 := hk
    match k, hk1 with
    | 0, _ => exact ⟨_, 0, _, 2, rfl, hF.lt, hF.cell 0, hF.cell 1, iE⟩
theorem b0_short : Short b0 := by
  refine ⟨by decide, by decide, ?_, ?_⟩ <;> decide
theorem isS_nil (n : Int) : isS [] n = true := rfl
theorem b0_vl : vlR b0 = 0 := by decide +kernel
theorem b0_nm : nmR b0 2 = 0 := by
  rw [nmR, b0_vl]; decide
theorem bl7 : bl 7 = [0, 1, 2] := by
  rw [bl_filter (m := 7) (n := 3) (by decide) (by decide)]; decide
theorem b0_bs : bsS b0 2 = 3 := by
  have h : cnS b0 2 = 7 := by decide +kernel
  rw [bsS, h, bl7]
  decide +kernel
theorem b0_lbl {x : Nat} (h : Lbl b0 (2 : Int).toNat x) : x = 7 := by
  obtain ⟨⟨⟨h1, _⟩, h2⟩, h3⟩ := h
  have e : bsS b0 (2 : Int).toNat = 3 := b0_bs
  rw [e] at h1
  have hx : x < 8 := h3
  have q0 := h1 0 (by decide)
  have q1 := h1 1 (by decide)
  have q2 := h2 ([0, 1], 2) (by simp [b0])
  have q3 : x.testBit 2 = true := q2 (by show allB x (natL [0, 1]) = true; simp [allB, natL, q0, q1]) rfl
  have key : ∀ x, x < 8 → (x.testBit 0 && x.testBit 1 && x.testBit 2) = true → x = 7 := by decide
  exact key x hx (by rw [q0, q1, q3]; rfl)
theorem b0_menus : mnTo [3, 6] (2 ^ 3) = [2, 5] := by
  have h0 : bl 0 = [] := bl_zero
  have h1 : bl 1 = [0] := by rw [bl_filter (m := 1) (n := 3) (by decide) (by decide)]; decide
  have h2 : bl 2 = [1] := by rw [bl_filter (m := 2) (n := 3) (by decide) (by decide)]; decide
  have h3 : bl 3 = [0, 1] := by rw [bl_filter (m := 3) (n := 3) (by decide) (by decide)]; decide
  have h4 : bl 4 = [2] := by rw [bl_filter (m := 4) (n := 3) (by decide) (by decide)]; decide
  have h5 : bl 5 = [0, 2] := by rw [bl_filter (m := 5) (n := 3) (by decide) (by decide)]; decide
  have h6 : bl 6 = [1, 2] := by rw [bl_filter (m := 6) (n := 3) (by decide) (by decide)]; decide
  have hr : List.range (2 ^ 3) = [0, 1, 2, 3, 4, 5, 6, 7] := by decide
  unfold mnTo
  rw [hr]
  simp only [List.filter, lsM, h0, h1, h2, h3, h4, h5, h6, bl7]
  decide +kernel

set_option maxRecDepth 100000 in
set_option maxHeartbeats 2000000 in
theorem known_any (w : World) (hT : Tab w) : Calls Tryd.prog 18 #[] w fun e w' => e = .returned (.bool true) ∧ Below w.heap.size w w' := by
  obtain ⟨hI, hR⟩ := kw_its w
  have hb := kw_below w
  have cl := Lib.hid (Label_any (some ⟨w.heap.size + 1 + 1 + 1, 0, none⟩) (some ⟨w.heap.size + 1 + 1 + 1 + 1 + 1, 0, none⟩) 3 1 _ b0 2 (kw w) (Nat.le_refl _) hI hR b0_short (hT.below hb hT.2))
  have HB := Lib.hid hb
  have HT := Lib.hid hT
  clear hI hR hb hT
  have tok := Lib.hid (Nat.le_refl 0)
  go_enter Tryd.func18, Tryd.ntmps18
  go_wp2_with (first
    | (have tk := tok; clear tok; go_at_call 28; refine cl.out.mono ?_; rintro e w1 ⟨v1, rfl, hv, hd⟩; rw [LbR, b0_nm, if_pos rfl] at hv; obtain ⟨x, hx, ho⟩ := hv; obtain rfl := b0_lbl hx; rw [bl7] at ho; rw [b0_nm]; obtain ⟨A1, c1, rfl, i1⟩ := IntsAt.of_nat ho; have tok2 := tk; have hb1 := HB.out.trans (hd.mono HB.out.size))
    | (have tk2 := tok2; clear tok2; go_at_call 23; refine (Menus_any (some ⟨w1.heap.size, 0, none⟩) 2 _ [3, 6] 3 _ (Nat.le_refl _) (IntsAt.of_blk (intL [3, 6]) (Blk.new w1 3 _) rfl) (by decide) (HT.out.below (hb1.alloc hb1.size _) HT.out.2) (by decide) (by decide) (by decide)).mono ?_; rintro e w2 ⟨v2, rfl, ho2, hd2⟩; rw [b0_menus] at ho2; obtain ⟨A2, c2, rfl, i2⟩ := IntsAt.of_nat ho2; have tok3 := tk2; have d12 := (balloc (Below.refl _ w1) _).trans (hd2.mono (balloc (Below.refl _ w1) _).size); have hb2 := hb1.trans (d12.mono hb1.size))
    | (have tk3 := tok3; clear tok3; go_at_call 25; refine (sameInts_ref A1 _ c1 3 _ (intL [0, 1, 2]) (intL [0, 1, 2]) _ (i1.below (balloc d12 _) (balloc d12 _).size) (IntsAt.of_blk (intL [0, 1, 2]) (Blk.new w2 3 _) rfl) (by decide)).mono ?_; rintro e w3 ⟨rfl, hd3⟩; have tok4 := tk3; have d23 := (balloc (Below.refl _ w2) _).trans (hd3.below _); have hb3 := hb2.trans (d23.mono hb2.size))
    | (have tk4 := tok4; clear tok4; go_at_call 25; refine (sameInts_ref A2 _ c2 2 _ (intL [2, 5]) (intL [2, 5]) _ (i2.below (balloc d23 _) (balloc d23 _).size) (IntsAt.of_blk (intL [2, 5]) (Blk.new w3 3 _) rfl) (by decide)).mono ?_; rintro e w4 ⟨rfl, hd4⟩; have hb4 := hb3.trans ((balloc (Below.refl _ w3) _).trans (hd4.below _) |>.mono hb3.size)))
  go_ret
  exact ⟨rfl, hb4⟩
end Go.Proofs.YtgoojcjfhghmgaaDoor

/- Long. -/
namespace Go.Proofs.YtgoojcjfhghmgaaDoor
open Go.RowKit

instance (b : Bk) : Decidable (Short b) := by unfold Short; infer_instance
/-- Whether a book has long lists. -/
def lgR (b : Bk) : Bool := !decide (Short b)
theorem lg_true {b : Bk} (h : ¬ Short b) : lgR b = true := by unfold lgR; rw [decide_eq_false h]; rfl
theorem lg_false {b : Bk} (h : Short b) : lgR b = false := by unfold lgR; rw [decide_eq_true h]; rfl
theorem lg_short {b : Bk} (h : lgR b = false) : Short b := by
  unfold lgR at h
  simpa using h

set_option maxRecDepth 100000 in
set_option maxHeartbeats 2000000 in
theorem Long_any (AI AR : Option Addr) (cI cR B : Nat) (b : Bk) (w : World) (hB : B ≤ w.heap.size) (h : ItsAt B w AI b.its) (h' : RusAt B w AR b.rus) :
    Calls Tryd.prog 17 #[.agg #[.int .i64 b.p, .slice AI b.its.length cI, .slice AR b.rus.length cR]] w fun e w' => e = .returned (.bool (lgR b)) ∧ Below w.heap.size w w' := by
  have HT := Lib.hid (fun h : ¬ Short b => lg_true h)
  have HF := Lib.hid (fun h : Short b => lg_false h)
  have HS := Lib.hid (show Short b ↔ (b.its.length ≤ 60 ∧ b.rus.length ≤ 60 ∧ (∀ x ∈ b.its, x.1.length ≤ 40 ∧ x.2.length ≤ 40) ∧ ∀ x ∈ b.rus, x.1.length ≤ 40) from Iff.rfl)
  generalize lgR b = r at HT HF ⊢
  generalize Short b = S at HT HF HS
  obtain ⟨p, its, rus⟩ := b
  simp only at h h' HS ⊢
  have hw0 : Below w.heap.size w (w.alloc (.cells #[.int .i64 p, .slice AI its.length cI, .slice AR rus.length cR] 25)) := (Below.refl _ _).alloc (Nat.le_refl _) _
  have hb0 := Blk.new w 25 #[.int .i64 p, .slice AI its.length cI, .slice AR rus.length cR]
  have y0 := hb0.cell 0
  have y1 := hb0.cell 1
  have y2 := hb0.cell 2
  by_cases h1 : 60 < its.length
  · have Hr := Lib.hid (HT.out (fun hs => by have := (HS.out.1 hs).1; omega))
    have hd : decide ((60 : Int) < (its.length : Int)) = true := by simp; omega
    clear h h' hb0 HT HF HS
    go_enter Tryd.func17, Tryd.ntmps17
    go_wp2_with fail
    go_ret
    exact ⟨by rw [Hr.out]; rfl, hw0⟩
  · have hd : decide ((60 : Int) < (its.length : Int)) = false := by simp; omega
    by_cases h2 : 60 < rus.length
    · have Hr := Lib.hid (HT.out (fun hs => by have := (HS.out.1 hs).2.1; omega))
      have hd2 : decide ((60 : Int) < (rus.length : Int)) = true := by simp; omega
      clear h h' hb0 HT HF HS
      go_enter Tryd.func17, Tryd.ntmps17
      go_wp2_with fail
      go_ret
      exact ⟨by rw [Hr.out]; rfl, hw0⟩
    · have hd2 : decide ((60 : Int) < (rus.length : Int)) = false := by simp; omega
      have hl1 : its.length ≤ 60 := by omega
      have hl2 : rus.length ≤ 60 := by omega
      have H := Lib.hid ((h.below (Below.refl _ _) hB).below hw0 (Nat.le_refl _))
      have H' := Lib.hid ((h'.below (Below.refl _ _) hB).below hw0 (Nat.le_refl _))
      have Hw := Lib.hid hw0
      clear h h' hb0 hw0
      go_enter Tryd.func17, Tryd.ntmps17
      go_wp2_with fail
      go_loop [3] (fun i => ∃ k : Nat, k ≤ its.length ∧ i = .int .i64 k ∧ ∀ j (hj : j < its.length), j < k → its[j].1.length ≤ 40 ∧ its[j].2.length ≤ 40) (fun i => its.length - (intOf i).toNat)
      case atStart => exact ⟨0, Nat.zero_le _, rfl, fun j _ hk => absurd hk (Nat.not_lt_zero j)⟩
      case round =>
        obtain ⟨k, hk, rfl, hn⟩ := hrel
        by_cases hlt : k < its.length
        · obtain ⟨bb, off, A1, c1, A2, c2, rfl, hbB, e0, e1, i1, i2⟩ := H.out k hlt
          have Hn := Lib.hid hn
          have Hbad := Lib.hid (fun hx : ¬ (its[k].1.length ≤ 40 ∧ its[k].2.length ≤ 40) => HT.out (fun hs => hx ((HS.out.1 hs).2.2.1 its[k] (List.getElem_mem hlt))))
          have Hgood := Lib.hid (fun hx : its[k].1.length ≤ 40 ∧ its[k].2.length ≤ 40 => show ∀ j (hj : j < its.length), j < k + 1 → its[j].1.length ≤ 40 ∧ its[j].2.length ≤ 40 from fun j hj hjk => by
            by_cases e : j = k
            · subst e; exact hx
            · exact Hn.out j hj (by omega))
          clear i1 i2 hn
          generalize its[k].1.length = n1 at e0 Hbad Hgood
          generalize its[k].2.length = n2 at e1 Hbad Hgood
          by_cases g1 : 40 < n1
          · have gd : decide ((40 : Int) < (n1 : Int)) = true := by simp; omega
            have Hr := Lib.hid (Hbad.out (by omega))
            clear HF HT Hbad Hgood
            go_wp2_with fail
            go_ret
            exact ⟨by rw [Hr.out]; rfl, Hw.out⟩
          · have gd : decide ((40 : Int) < (n1 : Int)) = false := by simp; omega
            by_cases g2 : 40 < n2
            · have gd2 : decide ((40 : Int) < (n2 : Int)) = true := by simp; omega
              have Hr := Lib.hid (Hbad.out (by omega))
              clear HF HT Hbad Hgood
              go_wp2_with fail
              go_ret
              exact ⟨by rw [Hr.out]; rfl, Hw.out⟩
            · have gd2 : decide ((40 : Int) < (n2 : Int)) = false := by simp; omega
              have Hg := Lib.hid (Hgood.out ⟨by omega, by omega⟩)
              clear HF HT Hbad Hgood
              go_wp2_with fail
              go_round
              case rel => exact ⟨k + 1, by omega, by go_num, Hg.out⟩
              case measure => simp [intOf]; omega
        · obtain rfl : k = its.length := by omega
          have Hits := Lib.hid (show ∀ x ∈ its, x.1.length ≤ 40 ∧ x.2.length ≤ 40 from fun x hx => by
            obtain ⟨j, hj, rfl⟩ := List.getElem_of_mem hx
            exact hn j hj hj)
          clear hn
          go_wp2_with fail
          go_loop [4] (fun i => ∃ k : Nat, k ≤ rus.length ∧ i = .int .i64 k ∧ ∀ j (hj : j < rus.length), j < k → rus[j].1.length ≤ 40) (fun i => rus.length - (intOf i).toNat)
          case atStart => exact ⟨0, Nat.zero_le _, rfl, fun j _ hk => absurd hk (Nat.not_lt_zero j)⟩
          case round =>
            obtain ⟨k, hk, rfl, hn⟩ := hrel
            by_cases hlt : k < rus.length
            · obtain ⟨bb, off, A1, c1, rfl, hbB, e0, e1, i1⟩ := H'.out k hlt
              have Hn := Lib.hid hn
              have Hbad := Lib.hid (fun hx : ¬ (rus[k].1.length ≤ 40) => HT.out (fun hs => hx ((HS.out.1 hs).2.2.2 rus[k] (List.getElem_mem hlt))))
              have Hgood := Lib.hid (fun hx : rus[k].1.length ≤ 40 => show ∀ j (hj : j < rus.length), j < k + 1 → rus[j].1.length ≤ 40 from fun j hj hjk => by
                by_cases e : j = k
                · subst e; exact hx
                · exact Hn.out j hj (by omega))
              clear i1 hn
              generalize rus[k].1.length = n1 at e0 Hbad Hgood
              by_cases g1 : 40 < n1
              · have gd : decide ((40 : Int) < (n1 : Int)) = true := by simp; omega
                have Hr := Lib.hid (Hbad.out (by omega))
                clear HF HT Hbad Hgood
                go_wp2_with fail
                go_ret
                exact ⟨by rw [Hr.out]; rfl, Hw.out⟩
              · have gd : decide ((40 : Int) < (n1 : Int)) = false := by simp; omega
                have Hg := Lib.hid (Hgood.out (by omega))
                clear HF HT Hbad Hgood
                go_wp2_with fail
                go_round
                case rel => exact ⟨k + 1, by omega, by go_num, Hg.out⟩
                case measure => simp [intOf]; omega
            · obtain rfl : k = rus.length := by omega
              have Hr := Lib.hid (HF.out (HS.out.2 ⟨hl1, hl2, Hits.out, fun x hx => by
                obtain ⟨j, hj, rfl⟩ := List.getElem_of_mem hx
                exact hn j hj hj⟩))
              clear hn HF HT HS Hits
              go_wp2_with fail
              go_ret
              exact ⟨by rw [Hr.out]; rfl, Hw.out⟩
end Go.Proofs.YtgoojcjfhghmgaaDoor

/- The reference's IsSet, ruleOK. -/
namespace Go.Proofs.YtgoojcjfhghmgaaDoor
open Go.RowKit

theorem isS_iff (l : List Int) (m : Int) : isS l (m + 1) = true ↔ ∀ j (hj : j < l.length), (0 ≤ l[j] ∧ l[j] ≤ m) ∧ ∀ i (hi : j = i + 1), l[i] < l[j] := by
  unfold isS
  rw [Bool.and_eq_true, decide_eq_true_eq, List.all_eq_true]
  constructor
  · rintro ⟨h1, h2⟩ j hj
    have h3 := h2 l[j] (List.getElem_mem hj)
    rw [decide_eq_true_eq] at h3
    exact ⟨⟨h3.1, by omega⟩, fun i hi => List.pairwise_iff_getElem.1 h1 i j (by omega) hj (by omega)⟩
  · intro h
    refine ⟨List.pairwise_iff_getElem.2 ?_, fun x hx => ?_⟩
    · intro i j hi hj hij
      induction j with
      | zero => omega
      | succ j ih =>
        have h1 := (h (j + 1) hj).2 j rfl
        by_cases e : i = j
        · subst e; exact h1
        · have := ih (by omega) (by omega); omega
    · obtain ⟨j, hj, rfl⟩ := List.getElem_of_mem hx
      rw [decide_eq_true_eq]
      have := (h j hj).1
      omega

set_option maxRecDepth 100000 in
theorem within_ref (n lo hi : Int) (w : World) : Calls Tryd.prog 106 #[.int .i64 n, .int .i64 lo, .int .i64 hi] w fun e w' => e = .returned (.bool (decide (lo ≤ n) && decide (n ≤ hi))) ∧ w' = w := by
  cases h : decide (lo ≤ n)
  all_goals
    go_enter Tryd.func106, Tryd.ntmps106
    go_wp2_with fail
    go_ret
    exact ⟨rfl, rfl⟩

set_option maxRecDepth 100000 in
set_option maxHeartbeats 2000000 in
theorem IsSet_ref (A : Option Addr) (c B : Nat) (l : List Int) (m : Int) (w : World) (h : IntsAt B w A l) (hm : l.length ≤ 1000) :
    Calls Tryd.prog 61 #[.slice A l.length c, .int .i64 m] w fun e w' => e = .returned (.bool (isS l (m + 1))) ∧ Drew w w' := by
  have HI := Lib.hid (isS_iff l m)
  generalize isS l (m + 1) = r at HI ⊢
  go_enter Tryd.func61, Tryd.ntmps61
  go_wp2_with fail
  go_loopw [5] (fun i wr => ∃ k : Nat, k ≤ l.length ∧ i = .int .i64 k ∧ (∀ j (hj : j < l.length), j < k → (0 ≤ l[j] ∧ l[j] ≤ m) ∧ ∀ i (hi : j = i + 1), l[i] < l[j]) ∧ Drew w wr) (fun i _ => l.length - (intOf i).toNat)
  case atStart => exact ⟨0, Nat.zero_le _, rfl, fun j _ hk => absurd hk (Nat.not_lt_zero j), 0, rfl⟩
  case round =>
    obtain ⟨k, hk, rfl, hn, hb⟩ := hrel
    have Hb := Lib.hid hb
    have Hn := Lib.hid hn
    clear hb hn
    by_cases hlt : k < l.length
    · obtain ⟨b, off, rfl, hbB, hc⟩ := h.at hlt
      have d0 := (Hb.out.cell _).trans hc
      have k0 : (0 : Int) ≤ (k : Int) := by omega
      have k1 : (k : Int) < (l.length : Int) := by omega
      have Hbad := Lib.hid (fun hx : ¬ ((0 ≤ l[k] ∧ l[k] ≤ m) ∧ ∀ i (hi : k = i + 1), l[i] < l[k]) => show r = false from by
        cases hr : r with
        | false => rfl
        | true => exact absurd (HI.out.1 hr k hlt) hx)
      have Hgood := Lib.hid (fun hx : (0 ≤ l[k] ∧ l[k] ≤ m) ∧ ∀ i (hi : k = i + 1), l[i] < l[k] => show ∀ j (hj : j < l.length), j < k + 1 → (0 ≤ l[j] ∧ l[j] ≤ m) ∧ ∀ i (hi : j = i + 1), l[i] < l[j] from fun j hj hjk => by
        by_cases e : j = k
        · subst e; exact hx
        · exact Hn.out j hj (by omega))
      clear hc HI
      have cw := Lib.hid (fun W => within_ref l[k] 0 m W)
      by_cases hw : 0 ≤ l[k] ∧ l[k] ≤ m
      · have hwd : (decide (0 ≤ l[k]) && decide (l[k] ≤ m)) = true := by simp [hw]
        rw [hwd] at cw
        by_cases hk0 : k = 0
        · have Hg := Lib.hid (Hgood.out ⟨hw, fun i hi => by omega⟩)
          have hd : decide (0 < k) = false := by simp; omega
          clear hw hwd Hbad Hgood Hn hk0
          go_wp2_with fail
          go_quiet ((go_at_call 106; exact Calls.quiet_of_same (cw.out _)))
          go_wp2_with fail
          go_roundw
          case rel => exact ⟨k + 1, by omega, by go_num, Hg.out, Hb.out.drewN _⟩
          case measure => simp [intOf]; omega
        · obtain ⟨j, hj⟩ : ∃ j, k = j + 1 := ⟨k - 1, by omega⟩
          have hjl : j < l.length := by omega
          obtain ⟨b', off', e', hbB', hc'⟩ := h.at hjl
          cases e'
          have d1 := (Hb.out.cell _).trans hc'
          have hd : decide (0 < k) = true := by simp; omega
          have j0 : (0 : Int) ≤ (j : Int) := by omega
          have j1 : (j : Int) < (l.length : Int) := by omega
          have jw : IntKind.i64.wrap ((k : Int) - 1) = (j : Int) := by rw [IntKind.wrap_i64]; omega
          by_cases hlj : l[j] < l[k]
          · have Hg := Lib.hid (Hgood.out ⟨hw, fun i hi => by have e : i = j := (by omega); subst e; exact hlj⟩)
            have hd2 : decide (l[k] ≤ l[j]) = false := by simpa using hlj
            clear hw hwd Hbad Hgood Hn hk0 hj hc' hlj
            go_wp2_with fail
            go_quiet ((go_at_call 106; exact Calls.quiet_of_same (cw.out _)))
            go_wp2_with fail
            go_roundw
            case rel => exact ⟨k + 1, by omega, by go_num, Hg.out, Hb.out.drewN _⟩
            case measure => simp [intOf]; omega
          · have Hr := Lib.hid (Hbad.out (fun hx => hlj (hx.2 j hj)))
            have hd2 : decide (l[k] ≤ l[j]) = true := by simp; omega
            clear hw hwd Hbad Hgood Hn hk0 hj hc' hlj
            go_wp2_with fail
            go_quiet ((go_at_call 106; exact Calls.quiet_of_same (cw.out _)))
            go_wp2_with fail
            go_ret
            exact ⟨by rw [Hr.out]; rfl, Hb.out.drewN _⟩
      · have hwd : (decide (0 ≤ l[k]) && decide (l[k] ≤ m)) = false := by simp; omega
        rw [hwd] at cw
        have Hr := Lib.hid (Hbad.out (fun hx => hw hx.1))
        clear hw hwd Hbad Hgood Hn
        go_wp2_with fail
        go_quiet ((go_at_call 106; exact Calls.quiet_of_same (cw.out _)))
        go_wp2_with fail
        go_ret
        exact ⟨by rw [Hr.out]; rfl, Hb.out.drewN _⟩
    · obtain rfl : k = l.length := by omega
      have Hr := Lib.hid (HI.out.2 (fun j hj => Hn.out j hj hj))
      clear HI Hn
      go_wp2_with fail
      go_ret
      exact ⟨by rw [Hr.out]; rfl, Hb.out⟩
end Go.Proofs.YtgoojcjfhghmgaaDoor

/- The reference's ruleOK, Validate. -/
namespace Go.Proofs.YtgoojcjfhghmgaaDoor
open Go.RowKit

theorem Drew.belowOf {w W W' : World} (h : Below w.heap.size w W) (hd : Drew W W') : Below w.heap.size w W' := h.trans (hd.below _)
set_option maxRecDepth 100000 in
set_option maxHeartbeats 2000000 in
theorem ruleOK_ref (A : Option Addr) (c B : Nat) (x : Ru) (p : Int) (w : World) (hB : B ≤ w.heap.size) (h : IntsAt B w A x.1) (hm : x.1.length ≤ 1000) (hp : 0 ≤ p ∧ p ≤ 10) :
    Calls Tryd.prog 62 #[.agg #[.slice A x.1.length c, .int .i64 x.2], .int .i64 p] w fun e w' => e = .returned (.bool (ruOk p x)) ∧ Below w.heap.size w w' := by
  obtain ⟨l, t⟩ := x
  have hw0 : Below w.heap.size w (w.alloc (.cells #[.slice A l.length c, .int .i64 t] 42)) := (Below.refl _ _).alloc (Nat.le_refl _) _
  have hb0 := Blk.new w 42 #[.slice A l.length c, .int .i64 t]
  have hlt : w.heap.size < (w.alloc (.cells #[.slice A l.length c, .int .i64 t] 42)).heap.size := hb0.lt
  have jw : wrap64 (p - 1) = p - 1 := by unfold wrap64; omega
  have cs0 := IsSet_ref A c w.heap.size l (p - 1) _ ((h.below (Below.refl _ _) hB).below hw0 (Nat.le_refl _)) hm
  rw [show p - 1 + 1 = p by omega] at cs0
  have cs := Lib.hid cs0
  have Hr := Lib.hid (show ruOk p (l, t) = (isS l p && decide (0 ≤ t) && decide (t < p)) from rfl)
  have Hw := Lib.hid hw0
  have HB := Lib.hid hb0
  simp only at h ⊢
  clear h cs0 hw0 hb0 hp
  generalize ruOk p (l, t) = r at Hr ⊢
  generalize isS l p = s at cs Hr
  cases s
  · go_enter Tryd.func62, Tryd.ntmps62
    go_wp2_with (go_at_call 61; try rw [jw]; refine cs.out.mono ?_; rintro e w1 ⟨rfl, hd⟩; have hx1 := HB.out.below (hd.below _) hlt; have z1 := hx1.cell 1)
    go_ret
    exact ⟨by rw [Hr.out]; rfl, Drew.belowOf Hw.out hd⟩
  · by_cases h0 : 0 ≤ t
    · have h0d : decide (0 ≤ t) = true := by simpa using h0
      go_enter Tryd.func62, Tryd.ntmps62
      go_wp2_with (go_at_call 61; try rw [jw]; refine cs.out.mono ?_; rintro e w1 ⟨rfl, hd⟩; have hx1 := HB.out.below (hd.below _) hlt; have z1 := hx1.cell 1)
      go_ret
      exact ⟨by rw [Hr.out, h0d]; rfl, Drew.belowOf Hw.out hd⟩
    · have h0d : decide (0 ≤ t) = false := by simpa using h0
      go_enter Tryd.func62, Tryd.ntmps62
      go_wp2_with (go_at_call 61; try rw [jw]; refine cs.out.mono ?_; rintro e w1 ⟨rfl, hd⟩; have hx1 := HB.out.below (hd.below _) hlt; have z1 := hx1.cell 1)
      go_ret
      exact ⟨by rw [Hr.out, h0d]; rfl, Drew.belowOf Hw.out hd⟩
theorem quiet_drew {P : Program} {f : FuncId} {args : Array Value} {w : World} {n : Nat} {v : Value} (h : Calls P f args (w.drewN n) fun e w' => e = .returned v ∧ Drew (w.drewN n) w') : Calls P f args (w.drewN n) fun e w'' => e = .returned v ∧ ∃ m, w'' = w.drewN m := Calls.quiet_of h

set_option maxRecDepth 100000 in
set_option maxHeartbeats 2000000 in
theorem Validate_ref (AI AR : Option Addr) (cI cR B : Nat) (b : Bk) (w : World) (hB : B ≤ w.heap.size) (h : ItsAt B w AI b.its) (h' : RusAt B w AR b.rus) (hs : Short b) :
    Calls Tryd.prog 21 #[.agg #[.int .i64 b.p, .slice AI b.its.length cI, .slice AR b.rus.length cR]] w fun e w' => e = .returned (.int .i64 (vlR b)) ∧ Below w.heap.size w w' := by
  obtain ⟨p, its, rus⟩ := b
  obtain ⟨s1, s2, s3, s4⟩ := hs
  simp only at h h' s1 s2 s3 s4 ⊢
  have hw0 : Below w.heap.size w (w.alloc (.cells #[.int .i64 p, .slice AI its.length cI, .slice AR rus.length cR] 25)) := (Below.refl _ _).alloc (Nat.le_refl _) _
  have hb0 := Blk.new w 25 #[.int .i64 p, .slice AI its.length cI, .slice AR rus.length cR]
  by_cases h1 : p < 0 ∨ 10 < p
  · have Hr := Lib.hid (show vlR ⟨p, its, rus⟩ = 1 from if_pos h1)
    clear h h' s3 s4
    by_cases h2 : p < 0
    · go_enter Tryd.func21, Tryd.ntmps21
      go_wp2_with fail
      go_ret
      exact ⟨by rw [Hr.out]; rfl, hw0⟩
    · have h3 : 10 < p := by omega
      go_enter Tryd.func21, Tryd.ntmps21
      go_wp2_with fail
      go_ret
      exact ⟨by rw [Hr.out]; rfl, hw0⟩
  · have h1' := Lib.hid h1
    have h1a : 0 ≤ p := by omega
    have h1b : p ≤ 10 := by omega
    clear h1
    by_cases h2 : 20 < its.length ∨ 16 < rus.length
    · have Hr := Lib.hid (show vlR ⟨p, its, rus⟩ = 4 by rw [vlR, if_neg h1'.out, if_pos h2])
      clear h h' s3 s4
      by_cases h3 : 20 < its.length
      · go_enter Tryd.func21, Tryd.ntmps21
        go_wp2_with fail
        go_ret
        exact ⟨by rw [Hr.out]; rfl, hw0⟩
      · have h4 : 16 < rus.length := by omega
        go_enter Tryd.func21, Tryd.ntmps21
        go_wp2_with fail
        go_ret
        exact ⟨by rw [Hr.out]; rfl, hw0⟩
    · have hl1 : its.length ≤ 20 := by omega
      have hl2 : rus.length ≤ 16 := by omega
      have Hr := Lib.hid (show vlR ⟨p, its, rus⟩ = if itsE p 0 its = 0 then (if rus.all (ruOk p) then 0 else 1) else itsE p 0 its by rw [vlR, if_neg h1'.out, if_neg h2])
      have H := Lib.hid (h.below (Below.refl _ _) hB)
      have H' := Lib.hid (h'.below (Below.refl _ _) hB)
      have HB0 := Lib.hid hb0
      have jp : IntKind.i64.wrap (p - 1) = p - 1 := by rw [IntKind.wrap_i64]; omega
      clear h h' h2 hb0
      go_enter Tryd.func21, Tryd.ntmps21
      go_wp2_with fail
      go_loopw [3] (fun i wr => ∃ k : Nat, k ≤ its.length ∧ i = .int .i64 k ∧ itsE p 0 its = itsE p k (its.drop k) ∧ Below w.heap.size w wr ∧ Blk wr w.heap.size 25 #[.int .i64 p, .slice AI its.length cI, .slice AR rus.length cR]) (fun i _ => its.length - (intOf i).toNat)
      case atStart => exact ⟨0, Nat.zero_le _, rfl, rfl, hw0, HB0.out⟩
      case round =>
        obtain ⟨k, hk, rfl, he, hb, hblk⟩ := hrel
        obtain ⟨y0, y1, y2, _⟩ := blk3 hblk
        by_cases hlt : k < its.length
        · obtain ⟨bb, off, A1, c1, A2, c2, rfl, hbB, e0, e1, i1, i2⟩ := H.out k hlt
          obtain ⟨m1, m2⟩ := s3 its[k] (List.getElem_mem hlt)
          have d0 := (hb.cell (p := ⟨bb, off + k * 2, none⟩) hbB).trans e0
          have d1 := (hb.cell (p := ⟨bb, off + k * 2 + 1, none⟩) hbB).trans e1
          have He := Lib.hid (he.trans (itsE_step hlt))
          have Hi := Lib.hid (show itE p k its[k] = if 6 < its[k].1.length then 4 else if isS its[k].1 k && isS its[k].2 p then 0 else 1 from rfl)
          have HK := Lib.hid hblk
          have Hb := Lib.hid hb
          have jk : IntKind.i64.wrap ((k : Int) - 1) = (k : Int) - 1 := by rw [IntKind.wrap_i64]; omega
          have k0 : (0 : Int) ≤ (k : Int) := by omega
          have k1 : (k : Int) < (its.length : Int) := by omega
          have q1 := fun W (hW : Below w.heap.size w W) => IsSet_ref A1 c1 w.heap.size its[k].1 ((k : Int) - 1) W (i1.below hW (Nat.le_refl _)) (by omega)
          rw [show (k : Int) - 1 + 1 = k by omega] at q1
          have q2 := fun W (hW : Below w.heap.size w W) => IsSet_ref A2 c2 w.heap.size its[k].2 (p - 1) W (i2.below hW (Nat.le_refl _)) (by omega)
          rw [show p - 1 + 1 = p by omega] at q2
          have cs1 := Lib.hid q1
          have cs2 := Lib.hid q2
          clear e0 e1 i1 i2 he hblk hb q1 q2
          generalize its[k].1.length = n1 at d0 cs1 Hi m1
          generalize its[k].2.length = n2 at d1 cs2 m2
          by_cases h6 : 6 < n1
          · have Hz := Lib.hid (show itE p k its[k] = 4 by rw [Hi.out, if_pos h6])
            clear cs1 cs2
            go_wp2_with fail
            go_ret
            exact ⟨by rw [Hr.out, He.out, Hz.out]; rfl, Hb.out⟩
          · have Hz := Lib.hid (show itE p k its[k] = if isS its[k].1 k && isS its[k].2 p then 0 else 1 by rw [Hi.out, if_neg h6])
            clear Hi
            generalize isS its[k].1 k = s at cs1 Hz
            generalize isS its[k].2 p = t at cs2 Hz
            cases s
            · clear cs2
              go_wp2_with fail
              go_quiet ((go_at_call 61; exact quiet_drew (cs1.out _ (below_drewN Hb.out _))))
              go_wp2_with fail
              go_ret
              exact ⟨by rw [Hr.out, He.out, Hz.out]; rfl, below_drewN Hb.out _⟩
            · have tok := Lib.hid (Nat.le_refl 0)
              cases t
              all_goals
                go_wp2_with fail
                go_quiet ((first
                  | (go_at_call_of 61 (Value.slice A1 n1 c1); exact quiet_drew (cs1.out _ (below_drewN Hb.out _)))
                  | (go_at_call_of 61 (Value.slice A2 n2 c2); exact quiet_drew (cs2.out _ (below_drewN Hb.out _)))))
                go_wp2_with fail
              · go_ret
                exact ⟨by rw [Hr.out, He.out, Hz.out]; rfl, below_drewN Hb.out _⟩
              · go_roundw
                case rel => exact ⟨k + 1, by omega, by go_num, by rw [He.out, Hz.out]; rfl, below_drewN Hb.out _, HK.out.drewN _⟩
                case measure => simp [intOf]; omega
        · obtain rfl : k = its.length := by omega
          rw [List.drop_length] at he
          have He := Lib.hid (show itsE p 0 its = 0 from he)
          clear he
          go_wp2_with fail
          go_loopw [4] (fun i wr => ∃ k : Nat, k ≤ rus.length ∧ i = .int .i64 k ∧ (∀ j (hj : j < rus.length), j < k → ruOk p rus[j] = true) ∧ Below w.heap.size w wr ∧ Blk wr w.heap.size 25 #[.int .i64 p, .slice AI its.length cI, .slice AR rus.length cR]) (fun i _ => rus.length - (intOf i).toNat)
          case atStart => exact ⟨0, Nat.zero_le _, rfl, fun j hj hk => by omega, hb, hblk⟩
          case round =>
            obtain ⟨k, hk, rfl, hn, hb2, hblk2⟩ := hrel
            obtain ⟨y0, y1, y2, _⟩ := blk3 hblk2
            by_cases hlt2 : k < rus.length
            · obtain ⟨bb, off, A1, c1, rfl, hbB, e0, e1, i1⟩ := H'.out k hlt2
              have m1 := s4 rus[k] (List.getElem_mem hlt2)
              have d0 := (hb2.cell (p := ⟨bb, off + k * 2, none⟩) hbB).trans e0
              have d1 := (hb2.cell (p := ⟨bb, off + k * 2 + 1, none⟩) hbB).trans e1
              have cs := Lib.hid (fun W (hW : Below w.heap.size w W) => ruleOK_ref A1 c1 w.heap.size rus[k] p W hW.size (i1.below hW (Nat.le_refl _)) (by omega) ⟨h1a, h1b⟩)
              have Hn := Lib.hid hn
              have Hb2 := Lib.hid hb2
              have HK := Lib.hid hblk2
              have k0 : (0 : Int) ≤ (k : Int) := by omega
              have k1 : (k : Int) < (rus.length : Int) := by omega
              clear e0 e1 i1 hn hb2 hblk2
              cases hr : ruOk p rus[k] with
              | false =>
                have Ha := Lib.hid (show rus.all (ruOk p) = false by
                  rw [List.all_eq_false]; exact ⟨rus[k], List.getElem_mem hlt2, by rw [hr]; simp⟩)
                rw [hr] at cs
                clear hr
                go_wp2_with fail
                go_still_tail 7, (by kernel_rfl)
                change wpList _ _ _ _ _ wr.drew
                have hbd := Hb2.out.drew
                have HKd := HK.out.drew
                generalize wr.drew = W1 at hbd HKd ⊢
                go_wp2_with (go_at_call 62; refine (cs.out _ hbd).mono ?_; rintro e w3 ⟨rfl, hd⟩)
                go_ret
                exact ⟨by rw [Hr.out, He.out, Ha.out]; rfl, hbd.trans (hd.mono hbd.size)⟩
              | true =>
                rw [hr] at cs
                have Hru := Lib.hid hr
                clear hr
                go_wp2_with fail
                go_still_tail 7, (by kernel_rfl)
                change wpList _ _ _ _ _ wr.drew
                have hbd := Hb2.out.drew
                have HKd := HK.out.drew
                generalize wr.drew = W1 at hbd HKd ⊢
                go_wp2_with (go_at_call 62; refine (cs.out _ hbd).mono ?_; rintro e w3 ⟨rfl, hd⟩)
                go_roundw
                case rel =>
                  refine ⟨k + 1, by omega, by go_num, fun j hj hjk => ?_, hbd.trans (hd.mono hbd.size), HKd.below hd HKd.lt⟩
                  by_cases e : j = k
                  · subst e; exact Hru.out
                  · exact Hn.out j hj (by omega)
                case measure => simp [intOf]; omega
            · obtain rfl : k = rus.length := by omega
              have Ha := Lib.hid (show rus.all (ruOk p) = true by
                rw [List.all_eq_true]
                intro x hx
                obtain ⟨i, hi, rfl⟩ := List.getElem_of_mem hx
                exact hn i hi hi)
              clear hn
              go_wp2_with fail
              go_ret
              exact ⟨by rw [Hr.out, He.out, Ha.out]; rfl, hb2⟩
end Go.Proofs.YtgoojcjfhghmgaaDoor
