/- TopLabels returns true for every input, and its arguments read as they did; the library's tables start as its text lays them. -/
import Derived.Test.YtgoojcjfhghmgaaDoorDisEe
import Derived.Test.YtgoojcjfhghmgaaDoorDisHc
import Derived.Test.YtgoojcjfhghmgaaDoorDisIa
import Derived.Test.YtgoojcjfhghmgaaDoorU1
import Derived.Test.YtgoojcjfhghmgaaDoorU2
import Derived.Test.YtgoojcjfhghmgaaDoorU3
import Derived.Test.YtgoojcjfhghmgaaDoorDisY
import Derived.Test.YtgoojcjfhghmgaaDoorOpen
import Derived.Test.YtgoojcjfhghmgaaDoorDisI
import Derived.Test.YtgoojcjfhghmgaaDoorRows
import Derived.Test.YtgoojcjfhghmgaaDoorCards
import Derived.Test.YtgoojcjfhghmgaaDoorTie
import Derived.Test.YtgoojcjfhghmgaaDoorOpen4
import Derived.Test.YtgoojcjfhghmgaaDoorOpenM
import Derived.Carry
import Derived.ShutString

set_option linter.unusedSimpArgs false
set_option linter.unusedVariables false
namespace Go.Proofs.YtgoojcjfhghmgaaDoor
open Go Go.RowKit

/-- What an item has does not lean on the rules. -/
theorem cnF_its {b : Bk} {m : List Ru} : ∀ i x, cnF ⟨b.p, b.its, m⟩ i x = cnF b i x
  | 0, _ => rfl
  | i + 1, x => by
    show cnF ⟨b.p, b.its, m⟩ i (if x.testBit i then x ||| mk (prt b i) else x) = cnF b i (if x.testBit i then x ||| mk (prt b i) else x)
    exact cnF_its i _
theorem bsS_its {b : Bk} {m : List Ru} (k : Nat) : bsS ⟨b.p, b.its, m⟩ k = bsS b k := by
  unfold bsS cnS
  rw [cnF_its]
  rfl
/-- The label after rules were left out. -/
theorem lbl_red {b : Bk} {m : List Ru} {k x : Nat} (hs : ∀ y, Shut m allW y ↔ Shut b.rus allW y) : Lbl ⟨b.p, b.its, m⟩ k x ↔ Lbl b k x := by
  unfold Lbl
  rw [bsS_its]
  exact and_congr (cl_shut hs) Iff.rfl
theorem nm_red {b : Bk} {m : List Ru} {item : Int} (h : vlR b = 0) (hm : m.Sublist b.rus) : nmR ⟨b.p, b.its, m⟩ item = nmR b item := by
  unfold nmR
  rw [if_pos h, if_pos (vl_sub h hm)]
/-- A label follows within itself. -/
theorem lbl_gd {b : Bk} {k x : Nat} (hx : Lbl b k x) : Gd b k x := by
  have hb : Sub (bsS b k) x := hx.1.1.1
  refine ⟨⟨fun q hq => by rw [Nat.testBit_and, Bool.and_eq_true] at hq; exact hq.2, fun z hz hs q hq => ?_⟩, fun r hr ha _ => hx.1.2 r hr ha rfl⟩
  have := hx.1.1.2 (z &&& x) (fun q hq => by
    rw [Nat.testBit_and, Bool.and_eq_true]
    exact ⟨hz q (by rw [Nat.testBit_and, Bool.and_eq_true]; exact ⟨hq, hb q hq⟩), hb q hq⟩) (fun r hr ha _ => by
    have hxr := hx.1.2 r hr (allB_sub (fun q hq => by rw [Nat.testBit_and, Bool.and_eq_true] at hq; exact hq.2) ha) rfl
    rw [Nat.testBit_and, Bool.and_eq_true]
    exact ⟨hs r hr (allB_sub (fun q hq => by rw [Nat.testBit_and, Bool.and_eq_true] at hq; exact hq.1) ha) hxr, hxr⟩) q hq
  rw [Nat.testBit_and, Bool.and_eq_true] at this
  exact this.1
theorem cnt_range (x : Nat) : ∀ n, ((List.range n).filter fun i => x.testBit i).length = cntB x n
  | 0 => rfl
  | n + 1 => by
    rw [List.range_succ, List.filter_append, List.length_append, cnt_range x n]
    show _ = cntB x n + (if x.testBit n then 1 else 0)
    cases hb : x.testBit n <;> simp [hb]
theorem cnt_bl {x n : Nat} (hx : x < 2 ^ n) (hn : n ≤ 60) : (bl x).length = cntB x n := by rw [bl_filter hx hn, cnt_range]
theorem has_label {b : Bk} {item k x : Nat} (hp : b.p ≤ 10) (hx : Lbl b item x) : (intL (bl x)).contains (k : Int) = x.testBit k := by
  rw [Bool.eq_iff_iff, List.contains_iff_mem, mem_intL (by omega), Int.toNat_natCast]
  exact mem_bl x (Nat.lt_of_lt_of_le hx.2 (Nat.le_trans (Nat.pow_le_pow_right (by decide) (show b.p.toNat ≤ 60 by omega)) (by decide))) k
/-- What a round of the law looks at. -/
theorem top_round {b : Bk} {item : Int} {x k : Nat} {g : Nat → Bool} (h0 : nmR b item = 0) (hx : Lbl b item.toNat x) (hg : ∀ s, g s = true ↔ Gd b item.toNat s) (hk : (k : Int) < b.p) :
    akR b item k = 0 ∧ (intL (bl x)).contains (k : Int) = x.testBit k ∧ decide (0 < shR g b item k) = x.testBit k ∧ (x.testBit k = true → 1 ≤ shR g b item k ∧ shR g b item k ≤ (bl x).length) ∧
    (∀ ok l, ExR b item k ok l → ok = x.testBit k ∧ (x.testBit k = true → cpR b item k l = 0)) ∧ ∀ l, cpR b item k l = 0 → x.testBit k = true := by
  obtain ⟨hv0, hi0, hi1⟩ := nm_zero h0
  have hv := vl_zero hv0
  have hp1 := hv.p1
  have ha : akR b item k = 0 := by
    unfold akR
    rw [if_pos h0, if_neg (by omega)]
  have hsh : shR g b item k = bestN g k b.p.toNat (2 ^ b.p.toNat) := by
    unfold shR
    rw [if_pos ha, Int.toNat_natCast]
  have hkp : k < b.p.toNat := by omega
  refine ⟨ha, has_label hp1 hx, ?_, fun hb => ?_, fun ok l he => ?_, fun l hl => ?_⟩
  · rw [hsh, Bool.eq_iff_iff, decide_eq_true_eq]
    constructor
    · intro h
      obtain ⟨s, h1, h2, h3, _⟩ := best_at _ (show bestN g k b.p.toNat (2 ^ b.p.toNat) ≠ 0 by omega)
      exact gd_label ((hg s).1 h3) hx _ h2
    · intro hb
      exact (best_le hkp _ x hx.2 hb ((hg x).2 (lbl_gd hx))).1
  · rw [hsh, cnt_bl hx.2 (by omega)]
    exact best_le hkp _ x hx.2 hb ((hg x).2 (lbl_gd hx))
  · have he' := he
    unfold ExR at he'
    rw [if_pos ha, Int.toNat_natCast] at he'
    have h1 := he'.1 x hx
    refine ⟨h1, fun hb => ?_⟩
    rw [h1, hb] at he
    exact he.accepted
  · obtain ⟨_, hP, hl'⟩ := cp_zero hl
    obtain ⟨s, hs, hsk⟩ := lastP_mem hl' (by omega)
    have := hP.all hv (by omega) hx s.1.toNat (kS_mem hs)
    rwa [hsk, Int.toNat_natCast] at this
/-- The book of one item. -/
def oneB : Bk := ⟨1, [([], [0])], []⟩
theorem one_nm : nmR oneB 0 = 0 := by
  have hv : vlR oneB = 0 := by
    refine vl_of ⟨by decide, by decide, by decide, by decide, fun k hk => ?_, fun x hx => by simp [oneB] at hx⟩ ?_
    · have hk1 : k < 1 := hk
      match k, hk1 with
      | 0, _ => exact (show ([] : List Int).length ≤ 6 ∧ isS [] ((0 : Nat) : Int) = true ∧ isS [0] 1 = true by decide)
    · decide
  unfold nmR
  rw [if_pos hv, if_neg (by decide)]
theorem one_bl : bl 1 = [0] := by rw [bl_filter (n := 1) (by decide) (by decide)]; decide
theorem one_lbl {x : Nat} (hx : Lbl oneB 0 x) : intL (bl x) = [0] := by
  have hb : bsS oneB 0 = 1 := by
    unfold bsS
    rw [show cnS oneB 0 = 1 by decide, one_bl]
    decide
  have h1 : x = 1 := by
    have := hx.1
    rw [hb] at this
    exact this.unique ⟨⟨fun q hq => hq, fun y hy _ => hy⟩, fun r hr => by simp [oneB] at hr⟩
  rw [h1, one_bl]
  rfl
theorem one_short : Short oneB := by
  refine ⟨by decide, by decide, fun x hx => ?_, fun x hx => by simp [oneB] at hx⟩
  simp only [oneB, List.mem_singleton] at hx
  subst hx
  decide
end Go.Proofs.YtgoojcjfhghmgaaDoor


set_option linter.unusedSimpArgs false
set_option linter.unusedVariables false
namespace Go.Proofs.YtgoojcjfhghmgaaDoor
open Go Go.RowKit

theorem lab_list {b : Bk} {item : Int} {base x : Nat} {v : Value} {W : World} (h : LbR b item base v W) (h0 : nmR b item = 0) (hx : Lbl b item.toNat x) : ∃ A c, v = .slice A (intL (bl x)).length c ∧ IntsAt W.heap.size W A (intL (bl x)) := by
  unfold LbR at h
  rw [if_pos h0] at h
  obtain ⟨y, hy, ho⟩ := h
  obtain rfl := Cl.unique hx.1 hy.1
  obtain ⟨A, c, e, i⟩ := IntsAt.of_nat ho
  exact ⟨A, c, e, i⟩
theorem lab_len {b : Bk} {k x : Nat} (hp : b.p ≤ 10) (hx : Lbl b k x) : (intL (bl x)).length ≤ 10 := by
  have := bl_length hx.2 (by omega)
  have e : (intL (bl x)).length = (bl x).length := by simp [intL]
  omega
theorem label_good (AI AR : Option Addr) (cI cR B : Nat) (b : Bk) (item : Int) (x : Nat) (w : World) (hB : B ≤ w.heap.size) (h : ItsAt B w AI b.its) (h' : RusAt B w AR b.rus) (hs : Short b) (hT : Tab w) (h0 : nmR b item = 0) (hx : Lbl b item.toNat x) :
    Calls Tryd.prog 28 #[.agg #[.int .i64 b.p, .slice AI b.its.length cI, .slice AR b.rus.length cR], .int .i64 item] w fun e w' => ∃ A c, e = .returned (.tuple #[.slice A (intL (bl x)).length c, .int .i64 0]) ∧ IntsAt w'.heap.size w' A (intL (bl x)) ∧ Below w.heap.size w w' := by
  refine (Label_any AI AR cI cR B b item w hB h h' hs hT).mono ?_
  rintro e w' ⟨v, rfl, hv, hd⟩
  obtain ⟨A, c, rfl, hi⟩ := lab_list hv h0 hx
  exact ⟨A, c, by rw [h0], hi, hd⟩
theorem label_bad (AI AR : Option Addr) (cI cR B : Nat) (b : Bk) (item : Int) (w : World) (hB : B ≤ w.heap.size) (h : ItsAt B w AI b.its) (h' : RusAt B w AR b.rus) (hs : Short b) (hT : Tab w) (h0 : nmR b item ≠ 0) :
    Calls Tryd.prog 28 #[.agg #[.int .i64 b.p, .slice AI b.its.length cI, .slice AR b.rus.length cR], .int .i64 item] w fun e w' => e = .returned (.tuple #[.slice none 0 0, .int .i64 (nmR b item)]) ∧ Below w.heap.size w w' := by
  refine (Label_any AI AR cI cR B b item w hB h h' hs hT).mono ?_
  rintro e w' ⟨v, rfl, hv, hd⟩
  unfold LbR at hv
  rw [if_neg h0] at hv
  rw [hv]
  exact ⟨rfl, hd⟩
theorem label_one (A1 : Option Addr) (c1 : Nat) (w : World) (h : ItsAt w.heap.size w A1 oneB.its) (hT : Tab w) :
    Calls Tryd.prog 28 #[.agg #[.int .i64 1, .slice A1 1 c1, .slice none 0 0], .int .i64 0] w fun e w' => ∃ A c, e = .returned (.tuple #[.slice A 1 c, .int .i64 0]) ∧ IntsAt w'.heap.size w' A [0] ∧ Below w.heap.size w w' := by
  obtain ⟨x, hx⟩ := lbl_exists (b := oneB) (m := 0) (vl_zero (nm_zero one_nm).1) (by decide)
  refine (label_good A1 none c1 0 w.heap.size oneB 0 x w (Nat.le_refl _) h (fun k hk => by simp [oneB] at hk) one_short hT one_nm hx).mono ?_
  rw [one_lbl hx]
  rintro e w' ⟨A, c, he, hi, hd⟩
  exact ⟨A, c, he, hi, hd⟩
/-- A book after Reduce has the label that it had. -/
theorem reduce_label (AI AR : Option Addr) (cI cR B : Nat) (b : Bk) (item : Int) (x : Nat) (w : World) (hB : B ≤ w.heap.size) (h : ItsAt B w AI b.its) (h' : RusAt B w AR b.rus) (hs : Short b) (hT : Tab w) (h0 : nmR b item = 0) (hx : Lbl b item.toNat x) :
    Calls Tryd.prog 47 #[.agg #[.int .i64 b.p, .slice AI b.its.length cI, .slice AR b.rus.length cR]] w fun e w' => ∃ AI' AR' cI' cR' n, e = .returned (.tuple #[.agg #[.int .i64 b.p, .slice AI' b.its.length cI', .slice AR' n cR'], .int .i64 0]) ∧ Below w.heap.size w w' ∧
      ∀ W, Below w'.heap.size w' W → Calls Tryd.prog 28 #[.agg #[.int .i64 b.p, .slice AI' b.its.length cI', .slice AR' n cR'], .int .i64 item] W fun e W' => ∃ A c, e = .returned (.tuple #[.slice A (intL (bl x)).length c, .int .i64 0]) ∧ IntsAt W'.heap.size W' A (intL (bl x)) ∧ Below W.heap.size W W' := by
  have hv0 := (nm_zero h0).1
  refine (Reduce_any AI AR cI cR B b w hB h h' hs hv0).mono ?_
  rintro e w' ⟨AI', AR', cI', cR', qs, m, rfl, hi, hm, hr, hd⟩
  refine ⟨AI', AR', cI', cR', m.length, rfl, hd, fun W hW => ?_⟩
  exact label_good AI' AR' cI' cR' w'.heap.size ⟨b.p, b.its, m⟩ item x W hW.size (hi.below hW (Nat.le_refl _)) ((hr.at rfl).below hW (Nat.le_refl _)) (short_sub hs hm.sub) ((hT.below hd hT.2).below hW (Nat.lt_of_lt_of_le hT.2 hd.size)) (by rw [nm_red hv0 hm.sub]; exact h0) ((lbl_red (hm.shut (Nat.le_refl _))).2 hx)
/-- The calls of a round, for a property of the book. -/
theorem explain_round (AI AR : Option Addr) (cI cR B : Nat) (b : Bk) (item : Int) (x k : Nat) (w : World) (hB : B ≤ w.heap.size) (h : ItsAt B w AI b.its) (h' : RusAt B w AR b.rus) (hs : Short b) (hT : Tab w) (h0 : nmR b item = 0) (hx : Lbl b item.toNat x) (hk : (k : Int) < b.p) :
    Calls Tryd.prog 41 #[.agg #[.int .i64 b.p, .slice AI b.its.length cI, .slice AR b.rus.length cR], .int .i64 item, .int .i64 k] w
      fun e w' => ∃ A c n, e = .returned (.tuple #[.slice A n c, .bool (x.testBit k), .int .i64 0]) ∧ Below w.heap.size w w' ∧
        (x.testBit k = true → ∀ W, Below w'.heap.size w' W → Calls Tryd.prog 46 #[.agg #[.int .i64 b.p, .slice AI b.its.length cI, .slice AR b.rus.length cR], .int .i64 item, .int .i64 k, .slice A n c] W fun e W' => e = .returned (.int .i64 0) ∧ Below W.heap.size W W') := by
  obtain ⟨g, hg⟩ : ∃ g : Nat → Bool, ∀ s, g s = true ↔ Gd b item.toNat s := ⟨fun s => @decide _ (Classical.propDecidable (Gd b item.toNat s)), fun s => by simp⟩
  obtain ⟨ha, _, _, _, hE, _⟩ := top_round h0 hx hg hk
  refine (Explain_any AI AR cI cR B b item k w hB h h' hs hT).mono ?_
  rintro e w' ⟨A, c, ok, l, rfl, hl, he, hd⟩
  obtain ⟨rfl, h1⟩ := hE ok l he
  refine ⟨A, c, l.length, by rw [ha], hd, fun hb W hW => ?_⟩
  have hhB : Below B w w' := hd.mono hB
  have := CheckProof_any AI AR A cI cR c w'.heap.size b item k l W hW.size ((h.below hhB (Nat.le_trans hB hd.size)).below hW (Nat.le_refl _)) ((h'.below hhB (Nat.le_trans hB hd.size)).below hW (Nat.le_refl _)) (hl.below hW (Nat.le_refl _)) hs
  rw [h1 hb] at this
  exact this
theorem shortest_round (AI AR : Option Addr) (cI cR B : Nat) (b : Bk) (item : Int) (x k : Nat) (w : World) (hB : B ≤ w.heap.size) (h : ItsAt B w AI b.its) (h' : RusAt B w AR b.rus) (hs : Short b) (hT : Tab w) (h0 : nmR b item = 0) (hx : Lbl b item.toNat x) (hk : (k : Int) < b.p) :
    Calls Tryd.prog 53 #[.agg #[.int .i64 b.p, .slice AI b.its.length cI, .slice AR b.rus.length cR], .int .i64 item, .int .i64 k] w
      fun e w' => ∃ n : Nat, e = .returned (.tuple #[.int .i64 n, .bool (x.testBit k), .int .i64 0]) ∧ (x.testBit k = true → 1 ≤ n ∧ n ≤ (intL (bl x)).length) ∧ Below w.heap.size w w' := by
  obtain ⟨g, hg⟩ : ∃ g : Nat → Bool, ∀ s, g s = true ↔ Gd b item.toNat s := ⟨fun s => @decide _ (Classical.propDecidable (Gd b item.toNat s)), fun s => by simp⟩
  obtain ⟨ha, _, hd, hb, _, _⟩ := top_round h0 hx hg hk
  refine (Shortest_any AI AR cI cR B b item k g w hB h h' hs hT hg).mono ?_
  rintro e w' ⟨rfl, hw⟩
  exact ⟨shR g b item k, by rw [hd, ha], fun h => ⟨(hb h).1, by rw [show (intL (bl x)).length = (bl x).length by simp [intL]]; exact (hb h).2⟩, hw⟩
theorem check_round (AI AR A : Option Addr) (cI cR c B : Nat) (b : Bk) (item : Int) (x k : Nat) (l : List St) (w : World) (hB : B ≤ w.heap.size) (h : ItsAt B w AI b.its) (h' : RusAt B w AR b.rus) (hl : StAt B w A l) (hs : Short b) (h0 : nmR b item = 0) (hx : Lbl b item.toNat x) (hk : (k : Int) < b.p) :
    Calls Tryd.prog 46 #[.agg #[.int .i64 b.p, .slice AI b.its.length cI, .slice AR b.rus.length cR], .int .i64 item, .int .i64 k, .slice A l.length c] w fun e w' => ∃ r : Int, e = .returned (.int .i64 r) ∧ (x.testBit k = false → (r == 0) = false) ∧ Below w.heap.size w w' := by
  obtain ⟨g, hg⟩ : ∃ g : Nat → Bool, ∀ s, g s = true ↔ Gd b item.toNat s := ⟨fun s => @decide _ (Classical.propDecidable (Gd b item.toNat s)), fun s => by simp⟩
  obtain ⟨_, _, _, _, _, hc⟩ := top_round h0 hx hg hk
  refine (CheckProof_any AI AR A cI cR c B b item k l w hB h h' hl hs).mono ?_
  rintro e w' ⟨rfl, hw⟩
  refine ⟨_, rfl, fun hb => ?_, hw⟩
  have : cpR b item k l ≠ 0 := fun e => by rw [hc l e] at hb; cases hb
  simpa using this
end Go.Proofs.YtgoojcjfhghmgaaDoor


set_option linter.unusedSimpArgs false
set_option linter.unusedVariables false
namespace Go.Proofs.YtgoojcjfhghmgaaDoor
open Go Go.RowKit

/-- A world in which the book of one item was made. -/
def kone (w : World) (n : Nat) : World := ((w.alloc (.cells #[.int .i64 0] 3)).alloc (.cells #[.slice none 0 0, .slice (some ⟨n, 0, none⟩) 1 1] 84)).alloc (.cells #[.int .i64 1, .slice (some ⟨n + 1, 0, none⟩) 1 1, .slice none 0 0] 25)
theorem kone_below {w : World} {n : Nat} : Below w.heap.size w (kone w n) := balloc (balloc (balloc (Below.refl _ _) _) _) _
theorem kone_blk {w : World} {n : Nat} (hn : w.heap.size = n) : Blk (kone w n) (n + 1 + 1) 25 #[.int .i64 1, .slice (some ⟨n + 1, 0, none⟩) 1 1, .slice none 0 0] := blk_new' (by simp only [World.size_alloc, hn])
theorem kone_its {w : World} {n : Nat} (hn : w.heap.size = n) : ItsAt (kone w n).heap.size (kone w n) (some ⟨n + 1, 0, none⟩) oneB.its := by
  have hA : Blk (kone w n) n 3 #[.int .i64 0] := ((blk_new' hn).alloc _).alloc _
  have hD : Blk (kone w n) (n + 1) 84 #[.slice none 0 0, .slice (some ⟨n, 0, none⟩) 1 1] := (blk_new' (by simp only [World.size_alloc, hn])).alloc _
  intro k hk
  have hk1 : k < 1 := hk
  match k, hk1 with
  | 0, _ => exact ⟨_, 0, none, 0, _, 1, rfl, hD.lt, hD.cell 0, hD.cell 1, IntsAt.nil _ _ _, IntsAt.of_blk [0] hA rfl⟩

set_option maxRecDepth 100000 in
set_option maxHeartbeats 16000000 in
theorem law_labels2 (AI AR : Option Addr) (cI cR : Nat) (A : Option Addr) (c : Nat) (A2 : Option Addr) (c2 : Nat) (b : Bk) (item : Int) (st : List St) (ss : List (Int × Int)) (w : World) (h : ItsAt w.heap.size w AI b.its) (h' : RusAt w.heap.size w AR b.rus) (hi : StAt w.heap.size w A st) (hp : PairsAt w.heap.size w A2 ss) (hT : Tab w) :
    Calls Tryd.prog 16 #[.agg #[.int .i64 b.p, .slice AI b.its.length cI, .slice AR b.rus.length cR], .agg #[.int .i64 item, .slice A st.length c], .slice A2 ss.length c2] w fun e w' => e = .returned (.bool true) ∧ Below w.heap.size w w' := by
  obtain ⟨W0, hW0⟩ : ∃ W0, W0 = (w.alloc (.cells #[.int .i64 b.p, .slice AI b.its.length cI, .slice AR b.rus.length cR] 25)).alloc (.cells #[.int .i64 item, .slice A st.length c] 82) := ⟨_, rfl⟩
  have hb0 : Blk W0 w.heap.size 25 #[.int .i64 b.p, .slice AI b.its.length cI, .slice AR b.rus.length cR] := by rw [hW0]; exact (Blk.new _ _ _).alloc _
  have hb1 : Blk W0 (w.heap.size + 1) 82 #[.int .i64 item, .slice A st.length c] := by rw [hW0]; exact blk_new' (by simp)
  have hw0 : Below w.heap.size w W0 := by rw [hW0]; exact balloc (balloc (Below.refl _ _) _) _
  have hlt : w.heap.size < W0.heap.size := hb0.lt
  have hlt1 : w.heap.size + 1 < W0.heap.size := hb1.lt
  have hI := h.below hw0 (Nat.le_of_lt hlt)
  have hR := h'.below hw0 (Nat.le_of_lt hlt)
  have hA := hi.below hw0 (Nat.le_of_lt hlt)
  have hP := hp.below hw0 (Nat.le_of_lt hlt)
  have hT0 := hT.below hw0 hT.2
  have clg := Lib.hid (fun W (hW : Below W0.heap.size W0 W) => Long_any AI AR cI cR W0.heap.size b W hW.size (hI.below hW (Nat.le_refl _)) (hR.below hW (Nat.le_refl _)))
  have cl1 := Lib.hid (fun A1 c1 W (hI1 : ItsAt W.heap.size W A1 oneB.its) (hW : Below W0.heap.size W0 W) => label_one A1 c1 W hI1 (hT0.below hW hT0.2))
  have Hw := Lib.hid hw0
  have HX := Lib.hid (fun W (hW : Below W0.heap.size W0 W) => blk3 (hb0.below hW hlt))
  have HW0 := Lib.hid (Below.refl W0.heap.size W0)
  have Hsz := Lib.hid (show W0.heap.size = w.heap.size + 1 + 1 by rw [hW0]; simp only [World.size_alloc])
  have y0 := hb1.cell 0
  have y1 := hb1.cell 1
  obtain ⟨z0, z1, z2, _⟩ := HX.out _ HW0.out
  rw [hW0] at y0 y1 z0 z1 z2
  clear h h' hi hp hT hb0 hb1 hw0
  go_enter Tryd.func16, Tryd.ntmps16
  go_wp2_with fail
  go_quiet (fail)
  go_wp2_with fail
  go_at_call 28
  rw [← hW0]
  clear hW0 y0 y1 z0 z1 z2
  have hd0 := below_drewN HW0.out nq
  have hs0 : (W0.drewN nq).heap.size = w.heap.size + 1 + 1 := Hsz.out
  generalize W0.drewN nq = W1 at hd0 hs0 ⊢
  have hk1 : Below W0.heap.size W0 (kone W1 (w.heap.size + 1 + 1)) := hd0.trans (kone_below.mono hd0.size)
  refine (cl1.out (some ⟨w.heap.size + 1 + 1 + 1, 0, none⟩) 1 (kone W1 (w.heap.size + 1 + 1)) (kone_its hs0) hk1).mono ?_
  rintro e w1 ⟨A3, c3, rfl, hi3, hd1⟩
  have hb1 := hk1.trans (hd1.mono hk1.size)
  have HI3 := Lib.hid hi3
  clear hk1 hd0 hs0 hd1 hi3
  go_wp2_with fail
  go_at_call 25
  refine (sameInts_ref A3 _ c3 1 _ [0] [0] _ (HI3.out.below (balloc (Below.refl _ w1) _) (balloc (Below.refl _ w1) _).size) (IntsAt.of_blk [0] (Blk.new w1 3 _) rfl) (by decide)).mono ?_
  rintro e w2 ⟨rfl, hd2⟩
  have hb2 := hb1.trans (((balloc (Below.refl _ w1) (.cells #[.int .i64 0] 3)).trans (hd2.below _)).mono hb1.size)
  obtain ⟨z0, z1, z2, _⟩ := HX.out _ hb2
  clear hd2 hb1 HI3
  go_wp2_with fail
  go_at_call 17
  refine (clg.out _ hb2).mono ?_
  rintro e w3 ⟨rfl, hd3⟩
  have HB3 := Lib.hid (hb2.trans (hd3.mono hb2.size))
  clear hb2 hd3 z0 z1 z2
  cases hlg : lgR b with
  | true =>
    clear hlg
    go_wp2_with fail
    go_ret
    exact ⟨rfl, Hw.out.trans (HB3.out.mono Hw.out.size)⟩
  | false =>
    by_cases h60 : 60 < st.length
    · have hld : decide ((60 : Int) < (st.length : Int)) = true := by simp; omega
      clear hlg
      go_wp2_with fail
      go_ret
      exact ⟨rfl, Hw.out.trans (HB3.out.mono Hw.out.size)⟩
    by_cases h40 : 40 < ss.length
    · have hld : decide ((60 : Int) < (st.length : Int)) = false := by simp; omega
      have hld2 : decide ((40 : Int) < (ss.length : Int)) = true := by simp; omega
      clear hlg
      go_wp2_with fail
      go_ret
      exact ⟨rfl, Hw.out.trans (HB3.out.mono Hw.out.size)⟩
    have hld : decide ((60 : Int) < (st.length : Int)) = false := by simp; omega
    have hld2 : decide ((40 : Int) < (ss.length : Int)) = false := by simp; omega
    have hs := lg_short hlg
    obtain ⟨z0, z1, z2, _⟩ := HX.out _ HB3.out
    by_cases h0 : nmR b item = 0
    · obtain ⟨hv0, hi0, hi1⟩ := nm_zero h0
      have hv := vl_zero hv0
      have hp0 := hv.p0
      have hp1 := hv.p1
      obtain ⟨x, hx⟩ := lbl_exists hv (m := item.toNat) (by omega)
      have hL10 := lab_len hp1 hx
      have HI := Lib.hid (fun W (hW : Below W0.heap.size W0 W) => hI.below hW (Nat.le_refl _))
      have HR := Lib.hid (fun W (hW : Below W0.heap.size W0 W) => hR.below hW (Nat.le_refl _))
      have HT := Lib.hid (fun W (hW : Below W0.heap.size W0 W) => hT0.below hW hT0.2)
      have c28 := Lib.hid (fun W (hW : Below W0.heap.size W0 W) => label_good AI AR cI cR W0.heap.size b item x W hW.size (HI.out W hW) (HR.out W hW) hs (HT.out W hW) h0 hx)
      have c47 := Lib.hid (fun W (hW : Below W0.heap.size W0 W) => reduce_label AI AR cI cR W0.heap.size b item x W hW.size (HI.out W hW) (HR.out W hW) hs (HT.out W hW) h0 hx)
      have c41 := Lib.hid (fun (k : Nat) W (hW : Below W0.heap.size W0 W) (hk : (k : Int) < b.p) => explain_round AI AR cI cR W0.heap.size b item x k W hW.size (HI.out W hW) (HR.out W hW) hs (HT.out W hW) h0 hx hk)
      have c53 := Lib.hid (fun (k : Nat) W (hW : Below W0.heap.size W0 W) (hk : (k : Int) < b.p) => shortest_round AI AR cI cR W0.heap.size b item x k W hW.size (HI.out W hW) (HR.out W hW) hs (HT.out W hW) h0 hx hk)
      have c46 := Lib.hid (fun (k : Nat) W (hW : Below W0.heap.size W0 W) (hk : (k : Int) < b.p) => check_round AI AR A cI cR c W0.heap.size b item x k st W hW.size (HI.out W hW) (HR.out W hW) (hA.below hW (Nat.le_refl _)) hs h0 hx hk)
      have c55 := Lib.hid (fun A5 c5 W (hW : Below W0.heap.size W0 W) (h3 : IntsAt W.heap.size W A5 (intL (bl x))) => Fewest_any AI AR cI cR A5 c5 A2 c2 W.heap.size b item (intL (bl x)) ss W (Nat.le_refl _) ((HI.out W hW).below (Below.refl _ _) hW.size) ((HR.out W hW).below (Below.refl _ _) hW.size) hs h3 (by omega) ((hP.below hW (Nat.le_refl _)).below (Below.refl _ _) hW.size) (by omega) (HT.out W hW))
      have c51 := Lib.hid (fun (A3 : Option Addr) (c3 k : Nat) W (hW : Below W0.heap.size W0 W) (hk : k < 2 ^ ss.length) (h8 : ss.length ≤ 8) (h3 : PairsAt W.heap.size W A3 (chS ss k)) => show Calls Tryd.prog 51 #[.agg #[.int .i64 b.p, .slice AI b.its.length cI, .slice AR b.rus.length cR], .slice A3 (bl k).length c3] W _ by
        have := Exchange_any AI AR cI cR A3 c3 W.heap.size b (chS ss k) W (Nat.le_refl _) ((HI.out W hW).below (Below.refl _ _) hW.size) ((HR.out W hW).below (Below.refl _ _) hW.size) hs h3 (by rw [chS_length]; have := (chS_facts h8 hk).2.1; omega)
        rw [chS_length] at this
        exact this)
      have c28e := Lib.hid (fun (mm : List It) (y : Nat) (AI' AR' : Option Addr) (cI' cR' : Nat) W (hW : Below W0.heap.size W0 W) (g1 : ItsAt W.heap.size W AI' mm) (g2 : RusAt W.heap.size W AR' b.rus) (hv' : VBk ⟨b.p, mm, b.rus⟩) (hn : nmR ⟨b.p, mm, b.rus⟩ item = 0) (hml : mm.length = b.its.length) (hy : Lbl ⟨b.p, mm, b.rus⟩ item.toNat y) => show Calls Tryd.prog 28 #[.agg #[.int .i64 b.p, .slice AI' b.its.length cI', .slice AR' b.rus.length cR'], .int .i64 item] W fun e w' => ∃ A' c', e = .returned (.tuple #[.slice A' (intL (bl y)).length c', .int .i64 0]) ∧ IntsAt w'.heap.size w' A' (intL (bl y)) ∧ Below W.heap.size W w' by
        have := label_good AI' AR' cI' cR' W.heap.size ⟨b.p, mm, b.rus⟩ item y W (Nat.le_refl _) g1 g2 (vbk_short hv') (HT.out W hW) hn hy
        dsimp only at this
        rw [hml] at this
        exact this)
      have HFe := Lib.hid (fun l (hl : feV b item (intL (bl x)) ss = some l) => And.intro (feV_some hl).1 (fe_facts hl))
      have HHas := Lib.hid (fun k => has_label (k := k) hp1 hx)
      clear hI hR hA hT0 hs hlg h60 h40 hv hx h0 hv0 hi0 hi1 cl1 clg
      generalize intL (bl x) = L at *
      generalize feV b item L ss = o at *
      generalize feE b item L ss = e0 at *
      go_wp2_with fail
      go_at_call 28
      refine (c28.out _ HB3.out).mono ?_
      rintro e w4 ⟨A5, c5, rfl, hi5, hd4⟩
      have hb4 := HB3.out.trans (hd4.mono HB3.out.size)
      have HI5 := Lib.hid hi5
      clear hi5 hd4 z0 z1 z2 HB3 c28
      obtain ⟨z0, z1, z2, _⟩ := HX.out _ hb4
      go_wp2_with fail
      go_at_call 47
      refine (c47.out _ hb4).mono ?_
      rintro e w5 ⟨AI6, AR6, cI6, cR6, n6, rfl, hd5, c6⟩
      have C6 := Lib.hid c6
      clear c6 c47 z0 z1 z2
      obtain ⟨W6, hW6⟩ : ∃ W6, W6 = w5.alloc (.cells #[.int .i64 b.p, .slice AI6 b.its.length cI6, .slice AR6 n6 cR6] 25) := ⟨_, rfl⟩
      have hk6 : Blk W6 w5.heap.size 25 #[.int .i64 b.p, .slice AI6 b.its.length cI6, .slice AR6 n6 cR6] := by rw [hW6]; exact Blk.new w5 25 _
      have hd56 : Below w5.heap.size w5 W6 := by rw [hW6]; exact balloc (Below.refl _ _) _
      have hd46 : Below w4.heap.size w4 W6 := by rw [hW6]; exact balloc hd5 _
      have hb6 := hb4.trans (hd46.mono hb4.size)
      obtain ⟨t0, t1, t2, _⟩ := blk3 hk6
      rw [hW6] at t0 t1 t2
      clear hk6
      go_wp2_with fail
      rw [← hW6]
      clear hW6 t0 t1 t2
      go_at_call 28
      refine (C6.out _ hd56).mono ?_
      rintro e w7 ⟨A7, c7, rfl, hi7, hd7⟩
      have hb7 := hb6.trans (hd7.mono hb6.size)
      have HI7 := Lib.hid hi7
      have HI5' := Lib.hid (HI5.out.below (hd46.trans (hd7.mono hd46.size)) (hd46.trans (hd7.mono hd46.size)).size)
      clear hi7 HI5 hd56 hd46 hd5 C6 hb6 hb4 hd7
      go_wp2_with fail
      go_at_call 25
      refine (sameInts_ref A5 A7 c5 c7 _ L L w7 HI5'.out HI7.out (by omega)).mono ?_
      rintro e w8 ⟨rfl, hd8⟩
      have HB8 := Lib.hid (hb7.trans (hd8.below _))
      have HI8 := Lib.hid (HI5'.out.below (hd8.below w7.heap.size) (hd8.below w7.heap.size).size)
      clear HI5' HI7 hb7 hd8
      go_wp2_with fail
      go_loopw [18] (fun iv wi => ∃ k : Nat, (k : Int) ≤ b.p ∧ iv = .int .i64 k ∧ Aside (Below w8.heap.size w8 wi)) (fun iv _ => b.p.toNat - (intOf iv).toNat)
      case atStart => exact ⟨0, by omega, rfl, Below.refl _ _⟩
      case round =>
        obtain ⟨k, hk, rfl, hbi⟩ := hrel
        have hbi1 : Below w8.heap.size w8 wr := hbi.out
        have HBr := Lib.hid hbi1
        have hbr := HB8.out.trans (hbi1.mono HB8.out.size)
        obtain ⟨z0, z1, z2, _⟩ := HX.out _ hbr
        clear hbi hbi1
        by_cases hkp : (k : Int) < b.p
        · have cH := fun W (hW : Below w8.heap.size w8 W) => Has_ref A5 c5 w8.heap.size L k W (HI8.out.below hW (Nat.le_refl _)) (by omega)
          have q41 := fun W hW => c41.out k W hW hkp
          have q53 := fun W hW => c53.out k W hW hkp
          have q46 := fun W hW => c46.out k W hW hkp
          rw [HHas.out k] at cH
          have tok := Lib.hid (Nat.le_refl 0)
          generalize x.testBit k = bt at cH q41 q53 q46
          have CH := Lib.hid cH
          have Q41 := Lib.hid q41
          have Q53 := Lib.hid q53
          have Q46 := Lib.hid q46
          have Hbr := Lib.hid hbr
          clear cH q41 q53 q46 hbr
          have tok := Lib.hid (Nat.le_refl 0)
          cases bt with
          | false =>
            go_wp2_with (first
              | (have tk := tok; clear tok; go_at_call 30; refine (CH.out wr HBr.out).mono ?_; rintro e w' ⟨rfl, rfl⟩; have tok2 := tk)
              | (have tk := tok2; clear tok2; go_at_call 41; refine (Q41.out _ Hbr.out).mono ?_; rintro e w9 ⟨A9, c9, n9, rfl, hd9, -⟩; have hc9 := HBr.out.trans (hd9.mono HBr.out.size); have hb9 := HB8.out.trans (hc9.mono HB8.out.size); have tok3 := tk; clear hd9 z0 z1 z2; obtain ⟨z0, z1, z2, _⟩ := HX.out _ hb9)
              | (have tk := tok3; clear tok3; go_at_call 53; refine (Q53.out _ hb9).mono ?_; rintro e w10 ⟨n, rfl, -, hd10⟩; have hc10 := hc9.trans (hd10.mono hc9.size); have hb10 := HB8.out.trans (hc10.mono HB8.out.size); have tok4 := tk; clear hd10 z0 z1 z2; obtain ⟨z0, z1, z2, _⟩ := HX.out _ hb10)
              | (have tk := tok4; clear tok4; go_at_call 46; refine (Q46.out _ hb10).mono ?_; rintro e w11 ⟨r, rfl, hr, hd11⟩; have hr0 : (r == 0) = false := (by simpa using hr (by trivial)); have hc11 := hc10.trans (hd11.mono hc10.size); clear hd11 hr z0 z1 z2; have tok5 := tk))
            go_roundw
            case rel => exact ⟨k + 1, by omega, by go_num, hc11⟩
            case measure => simp [intOf]; omega
          | true =>
            go_wp2_with (first
              | (have tk := tok; clear tok; go_at_call 30; refine (CH.out wr HBr.out).mono ?_; rintro e w' ⟨rfl, rfl⟩; have tok2 := tk)
              | (have tk := tok2; clear tok2; go_at_call 41; refine (Q41.out _ Hbr.out).mono ?_; rintro e w9 ⟨A9, c9, n9, rfl, hd9, hck⟩; have hc9 := HBr.out.trans (hd9.mono HBr.out.size); have hb9 := HB8.out.trans (hc9.mono HB8.out.size); have HCk := Lib.hid (hck (by trivial)); have tok3 := tk; clear hd9 hck z0 z1 z2; obtain ⟨z0, z1, z2, _⟩ := HX.out _ hb9)
              | (have tk := tok3; clear tok3; go_at_call 53; refine (Q53.out _ hb9).mono ?_; rintro e w10 ⟨n, rfl, hn, hd10⟩; have hc10 := hc9.trans (hd10.mono hc9.size); have hb10 := HB8.out.trans (hc10.mono HB8.out.size); have HCk2 := Lib.hid (HCk.out _ hd10); obtain ⟨hn1, hn2⟩ := hn (by trivial); have hj1 : (1 : Int) ≤ (n : Int) := (by omega); have hj2 : (n : Int) ≤ (L.length : Int) := (by omega); clear hn hn1 hn2; generalize (n : Int) = rn at hj1 hj2 ⊢; have hg1 : decide (rn < 1) = false := (by simp; omega); have hg2 : decide ((L.length : Int) < rn) = false := (by simp; omega); have tok4 := tk; clear hd10 HCk z0 z1 z2; obtain ⟨z0, z1, z2, _⟩ := HX.out _ hb10)
              | (have tk := tok4; clear tok4; go_at_call 46; refine HCk2.out.mono ?_; rintro e w11 ⟨rfl, hd11⟩; have hc11 := hc10.trans (hd11.mono hc10.size); have hb11 := HB8.out.trans (hc11.mono HB8.out.size); clear hd11 HCk2 z0 z1 z2; obtain ⟨z0, z1, z2, _⟩ := HX.out _ hb11; have tok5 := tk))
            go_at_call 46
            refine (Q46.out _ hb11).mono ?_
            rintro e w12 ⟨r, rfl, -, hd12⟩
            have hc12 := hc11.trans (hd12.mono hc11.size)
            clear hd12 z0 z1 z2
            cases hr : (r == 0) with
            | false =>
              go_wp2_with fail
              go_roundw
              case rel => exact ⟨k + 1, by omega, by go_num, hc12⟩
              case measure => simp [intOf]; omega
            | true =>
              go_wp2_with fail
              go_roundw
              case rel => exact ⟨k + 1, by omega, by go_num, hc12⟩
              case measure => simp [intOf]; omega
        · have hkI : b.p ≤ (k : Int) := by omega
          have h5 := HI8.out.below HBr.out HBr.out.size
          have q55 := c55.out A5 c5 wr hbr h5
          have HI5 := Lib.hid h5
          have Hbr := Lib.hid hbr
          clear h5 hbr c41 c53 c46 c55 HHas HI8 HB8 HBr
          cases o with
          | none =>
            simp only [Option.getD_none, List.length_nil, Option.isSome_none] at q55
            have Q55 := Lib.hid q55
            clear q55 c51 c28e HFe HI5
            go_wp2_with fail
            go_at_call 55
            refine Q55.out.mono ?_
            rintro e w9 ⟨A9, c9, rfl, -, hd9⟩
            have HB9 := Lib.hid (Hbr.out.trans (hd9.mono Hbr.out.size))
            clear hd9 z0 z1 z2
            by_cases he : e0 = 0
            · have hne : (e0 != 0) = false := by simpa using he
              clear he
              go_wp2_with fail
              go_ret
              exact ⟨rfl, Hw.out.trans (HB9.out.mono Hw.out.size)⟩
            · have hne : (e0 != 0) = true := by simpa using he
              clear he
              go_wp2_with fail
              go_ret
              exact ⟨rfl, Hw.out.trans (HB9.out.mono Hw.out.size)⟩
          | some l =>
            simp only [Option.getD_some, Option.isSome_some] at q55
            obtain ⟨rfl, k1, m, y, rfl, hk1, h8, hex0, hexN, hv', hnm, hml, hlb, hno⟩ := HFe.out l rfl
            obtain ⟨hii, hl8, _⟩ := chS_facts h8 hk1
            have Q55 := Lib.hid q55
            have c51k := Lib.hid (fun A3 c3 W hW h3 => c51.out A3 c3 k1 W hW hk1 h8 h3)
            have c28k := Lib.hid (fun AI' AR' cI' cR' W hW g1 g2 => c28e.out m y AI' AR' cI' cR' W hW g1 g2 hv' hnm hml hlb)
            have HEx := Lib.hid hexN
            have HE0 := Lib.hid hex0
            have HII := Lib.hid hii
            have HNo := Lib.hid hno
            have HY := Lib.hid (lab_len (b := ⟨b.p, m, b.rus⟩) hp1 hlb)
            have HCt := Lib.hid (chTo_all ss k1)
            have HCs := Lib.hid (fun j (hj : j < (bl k1).length) (hi : (bl k1)[j] < ss.length) => chTo_succ hj hi)
            obtain ⟨j0, hj, hy0, hy1, hy2⟩ := info_parts info79
            clear hii hk1 h8 hex0 hexN hv' hnm hml hlb hno c51 c28e HFe q55
            generalize intL (bl y) = L2 at *
            go_wp2_with fail
            go_at_call 55
            refine Q55.out.mono ?_
            rintro e w9 ⟨A9, c9, rfl, hi9, hd9⟩
            have HB9 := Lib.hid (Hbr.out.trans (hd9.mono Hbr.out.size))
            have HI9 := Lib.hid hi9
            have HL9 := Lib.hid (HI5.out.below hd9 hd9.size)
            clear hd9 hi9 z0 z1 z2 Q55 HI5 Hbr
            go_wp2_with fail
            go_loopw [29, 30] (fun lv iv wi => ∃ j : Nat, j ≤ (bl k1).length ∧ iv = .int .i64 j ∧ Aside (wi.ownsRow w9.heap.size 79 2 lv j (flat2 (chTo ss k1 j))) ∧ Aside (Below w9.heap.size w9 wi)) (fun _ iv _ => (bl k1).length - (intOf iv).toNat)
            case atStart => exact ⟨0, Nat.zero_le _, rfl, World.ownsRow_nil _ _ _ _, Below.refl _ _⟩
            case round =>
              obtain ⟨j, hjl, rfl, hown, hbi⟩ := hrel
              have HO := Lib.hid hown.out
              have Hbi := Lib.hid hbi.out
              clear hown hbi
              by_cases hkl : j < (bl k1).length
              · have hkI : (j : Int) < ((bl k1).length : Int) := by omega
                obtain ⟨b1, o1, rfl, _, y0⟩ := IntsAt.at (IntsAt.below HI9.out Hbi.out Hbi.out.size) (k := j) (by rw [il]; exact hkl)
                rw [show (intL (bl k1))[j]'(by rw [il]; exact hkl) = (((bl k1)[j] : Nat) : Int) by simp [intL]] at y0
                have hi' : (bl k1)[j] < ss.length := HII.out _ (List.getElem_mem hkl)
                have HS := Lib.hid (HCs.out j hkl hi')
                have HBw := HB9.out.trans (Hbi.out.mono HB9.out.size)
                obtain ⟨b2, o2, rfl, _, p0, p1⟩ := PairsAt.at (hP.below HBw HBw.size) hi'
                clear HBw
                generalize ss[(bl k1)[j]] = s at *
                generalize (bl k1)[j] = i at *
                obtain ⟨x1, x2⟩ := s
                simp only at p0 p1
                have hiI : (i : Int) < (ss.length : Int) := by omega
                have hiI0 : (0 : Int) ≤ (i : Int) := by omega
                go_wp2_with (at_builtin; refine wpList_append_own _ rfl _ _ 67 rfl w9.heap.size 79 j0 _ 2 16 Tryd.underlying67 hj hy0 hy1 hy2 rfl (by decide) _ _ _ rfl (HO.out.alloc _) ⟨_, 0, none⟩ 1 1 _ rfl rfl (cells_new _ [.int .i64 x1, .int .i64 x2] 79) (by simp [Value.oneCell']) (by simp only [maxLen]; omega) (by omega) (Hbi.out.alloc Hbi.out.size _).size ?_; intro v' w10 hown7 hg7 _)
                obtain ⟨A10, c10, rfl⟩ := own_sl hown7
                have b7 : Below w9.heap.size w9 w10 := (Hbi.out.alloc Hbi.out.size _).grown hg7 (Hbi.out.alloc Hbi.out.size _).size (fun x hx => (HO.out.lt x hx).1)
                go_roundw
                case rel => exact ⟨j + 1, by omega, by go_num, by rw [HS.out, flat2_append]; exact hown7, b7⟩
                case measure => simp [intOf]; omega
              · obtain rfl : j = (bl k1).length := by omega
                have hkI : ((bl k1).length : Int) ≤ ((bl k1).length : Int) := Int.le_refl _
                have hown := HO.out
                rw [HCt.out] at hown
                obtain ⟨A10, c10, rfl⟩ := own_sl hown
                have h5 := Lib.hid (show PairsAt wr.heap.size wr A10 (chS ss k1) from PairsAt.of_own (by rw [chS_length]; exact hown))
                have HBw := Lib.hid (HB9.out.trans (Hbi.out.mono HB9.out.size))
                have HL5 := Lib.hid (HL9.out.below Hbi.out Hbi.out.size)
                obtain ⟨z0, z1, z2, _⟩ := HX.out _ HBw.out
                clear hown HO HCs HCt HI9 HL9 HII
                go_wp2_with fail
                go_at_call 51
                refine (c51k.out A10 c10 wr HBw.out h5.out).mono ?_
                rintro e w11 ⟨⟨m2, A12, R12, k12, k13, he0, hex, rfl, hi12, hr12⟩ | ⟨he0, rfl⟩, hd11⟩
                · have e9 : some m = some m2 := HEx.out.symm.trans hex
                  injection e9 with e9
                  subst e9
                  obtain ⟨W12, hW12⟩ : ∃ W12, W12 = w11.alloc (.cells #[.int .i64 b.p, .slice A12 b.its.length k12, .slice R12 b.rus.length k13] 25) := ⟨_, rfl⟩
                  have hk12 : Blk W12 w11.heap.size 25 #[.int .i64 b.p, .slice A12 b.its.length k12, .slice R12 b.rus.length k13] := by rw [hW12]; exact Blk.new w11 25 _
                  have hd12 : Below w11.heap.size w11 W12 := by rw [hW12]; exact balloc (Below.refl _ _) _
                  have hdr := hd11.trans (hd12.mono hd11.size)
                  have HI12 := Lib.hid (hi12.below hd12 hd12.size)
                  have HR12 := Lib.hid (hr12.below hd12 hd12.size)
                  have HB12 := Lib.hid (HBw.out.trans (hdr.mono HBw.out.size))
                  have HL12 := Lib.hid (HL5.out.below hdr hdr.size)
                  obtain ⟨t0, t1, t2, _⟩ := blk3 hk12
                  clear hk12 hd12 hdr hi12 hr12 hd11 z0 z1 z2 he0 hex h5 HL5 HBw
                  rw [hW12] at t0 t1 t2
                  go_wp2_with fail
                  rw [← hW12]
                  clear hW12 t0 t1 t2
                  go_at_call 28
                  refine (c28k.out A12 R12 k12 k13 W12 HB12.out HI12.out HR12.out).mono ?_
                  rintro e w13 ⟨A14, c14, rfl, hi14, hd13⟩
                  have HB13 := Lib.hid (HB12.out.trans (hd13.mono HB12.out.size))
                  have HI14 := Lib.hid hi14
                  have HL13 := Lib.hid (HL12.out.below hd13 hd13.size)
                  clear hi14 hd13 HI12 HR12 HB12 HL12
                  go_wp2_with fail
                  go_loop [33] (fun iv => ∃ j : Nat, j ≤ L2.length ∧ iv = .int .i64 j) (fun iv => L2.length - (intOf iv).toNat)
                  case atStart => exact ⟨0, Nat.zero_le _, rfl⟩
                  case round =>
                    obtain ⟨j, hjl, rfl⟩ := hrel
                    by_cases hkl : j < L2.length
                    · have hkI : (j : Int) < (L2.length : Int) := by omega
                      have hj10 : j < 10 := Nat.lt_of_lt_of_le hkl HY.out
                      have Hkl := Lib.hid (show j + 1 ≤ L2.length from hkl)
                      obtain ⟨b3, o3, rfl, _, y0⟩ := HI14.out.at hkl
                      have hnq : L.contains L2[j] = false := by
                        cases hc : L.contains L2[j] with
                        | false => rfl
                        | true => exact absurd (List.getElem_mem hkl) (HNo.out _ (List.contains_iff_mem.1 hc))
                      generalize L2[j] = q at *
                      have c30 := Has_ref A5 c5 w13.heap.size L q w13 HL13.out (by omega)
                      rw [hnq] at c30
                      have C30 := Lib.hid c30
                      clear c30 hnq
                      go_wp2_with (go_at_call 30; refine C30.out.mono ?_; rintro e w14 ⟨rfl, rfl⟩)
                      go_round
                      case rel => exact ⟨j + 1, Hkl.out, by go_num⟩
                      case measure =>
                        have := Hkl.out
                        simp [intOf]; omega
                    · obtain rfl : j = L2.length := by omega
                      have hkI : (L2.length : Int) ≤ (L2.length : Int) := Int.le_refl _
                      go_wp2_with fail
                      go_ret
                      exact ⟨rfl, Hw.out.trans (HB13.out.mono Hw.out.size)⟩
                · exact absurd HE0.out he0
    · have c28 := Lib.hid (label_bad AI AR cI cR W0.heap.size b item w3 HB3.out.size (hI.below HB3.out (Nat.le_refl _)) (hR.below HB3.out (Nat.le_refl _)) hs (hT0.below HB3.out hT0.2) h0)
      have hne : (nmR b item != 0) = true := by simpa using h0
      clear hI hR hA hP hT0 hs hlg h60 h40 h0 cl1 clg
      generalize nmR b item = e0 at *
      go_wp2_with (go_at_call 28; refine c28.out.mono ?_; rintro e w4 ⟨rfl, hd4⟩)
      go_ret
      exact ⟨rfl, Hw.out.trans ((HB3.out.trans (hd4.mono HB3.out.size)).mono Hw.out.size)⟩
end Go.Proofs.YtgoojcjfhghmgaaDoor


namespace Go.Proofs.YtgoojcjfhghmgaaDoor
open Go.RowKit

theorem pairs_of_rows {B n : Nat} {w : World} {A : Option Addr} {f : Nat → Nat → Int} (h : ElsAt B w A 2 n (fun k j => .int .i64 (f k j))) : ∃ l : List (Int × Int), n = l.length ∧ PairsAt B w A l := by
  refine ⟨(List.range n).map fun k => (f k 0, f k 1), by simp, ?_⟩
  unfold PairsAt
  simp only [List.length_map, List.length_range]
  refine h.congr fun k j hk hj => ?_
  have : j = 0 ∨ j = 1 := by omega
  rcases this with rfl | rfl <;> simp [hk]
end Go.Proofs.YtgoojcjfhghmgaaDoor


namespace Go.Proofs.YtgoojcjfhghmgaaDoor
open Go.RowKit Go.ChangeShapes Go.WideShapes Go.ChangeAt Go.Deep

theorem exists_list {α : Type} {Q : Nat → α → Prop} : ∀ (n : Nat), (∀ k, k < n → ∃ x, Q k x) → ∃ l : List α, l.length = n ∧ ∀ k (hk : k < l.length), Q k l[k]
  | 0, _ => ⟨[], rfl, fun k hk => absurd hk (Nat.not_lt_zero k)⟩
  | n + 1, h => by
    obtain ⟨l, rfl, hq⟩ := exists_list n fun k hk => h k (by omega)
    obtain ⟨x, hx⟩ := h l.length (by omega)
    refine ⟨l ++ [x], by simp, fun k hk => ?_⟩
    by_cases hkn : k < l.length
    · rw [List.getElem_append_left hkn]; exact hq k hkn
    · have : k = l.length := by simp at hk; omega
      subst this
      have e : (l ++ [x])[l.length] = x := by simp
      rw [e]; exact hx

section
variable {H : Type} {enc : TypeId × Value → H} {P : Program} {W : World} {base : Nat} {sp : Nat → Bool} {held : Bool} {t e : TypeId} {cs : List Value} {x : DataW H × List MemPlace}

/-- The cells of a struct of one-cell fields. -/
theorem struct_fields {fs : Array Field} {n : Nat} {cs' : List Value} {y : DataW H × List MemPlace} (hs : P.underlying e = some (.struct fs)) (hone : oneCellFields P fs = true) (hC : P.cellsOf e = fs.size)
    (h : DataW.trod enc P W base sp held n e cs' = some y) :
    cs'.length = fs.size ∧ ∀ j (hj : j < fs.size), ∃ n' y' v, cs'[j]? = some v ∧ DataW.trod enc P W base sp held n' fs[j].type [v] = some y' := by
  obtain ⟨ys, n', _, _, hlen, _, hf⟩ := DataW.trod_struct hs h
  rw [hC] at hlen
  refine ⟨hlen, fun j hj => ?_⟩
  have hfj : fs[j]? = some fs[j] := Array.getElem?_eq_getElem hj
  obtain ⟨ho, hk⟩ := hone_of hone j fs[j] hfj
  have h1 := hf j fs[j] hfj
  rw [ho, hk] at h1
  have hv : cs'[j]? = some (cs'[j]'(by omega)) := List.getElem?_eq_getElem (by omega)
  have hone' : (cs'.drop j).take 1 = [cs'[j]'(by omega)] := by
    rw [List.drop_eq_getElem_cons (by omega)]; rfl
  rw [hone'] at h1
  cases hy : DataW.trod enc P W base sp held n' fs[j].type [cs'[j]'(by omega)] with
  | none =>
    rw [hy] at h1
    have := ‹ys.length = fs.size›
    rw [List.getElem?_eq_getElem (by omega)] at h1; cases h1
  | some y' => exact ⟨n', y', _, hv, hy⟩
/-- A slice of structs of two one-cell fields. -/
theorem open_twos {fs : Array Field} {fuel : Nat} (ht : P.underlying t = some (.slice e)) (hs : P.underlying e = some (.struct fs)) (hone : oneCellFields P fs = true) (hC : P.cellsOf e = fs.size) (h2 : fs.size = 2)
    (h : DataW.trod enc P W base sp held fuel t cs = some x) :
    ∃ A c n, cs = [.slice A n c] ∧ n ≤ maxLen ∧ ∀ k, k < n → ∃ b off v0 v1 n0 y0 n1 y1, A = some ⟨b, off, none⟩ ∧ b < W.heap.size ∧ W.cell? ⟨b, off + k * 2, none⟩ = some v0 ∧ W.cell? ⟨b, off + k * 2 + 1, none⟩ = some v1 ∧
      DataW.trod enc P W base sp held n0 fs[0].type [v0] = some y0 ∧ DataW.trod enc P W base sp held n1 fs[1].type [v1] = some y1 := by
  rcases open_slice ht h with ⟨hcs, _⟩ | ⟨a, len, cap, m, n, D, Pl, hcs, _, hl, hm, hmm, _, hel⟩
  · exact ⟨none, 0, 0, hcs, Nat.zero_le _, fun k hk => by omega⟩
  · have hlm : len ≤ m := by rw [hmm]; split <;> omega
    refine ⟨some a, cap, len, hcs, by omega, fun k hk => ?_⟩
    obtain ⟨cs', hc, htr⟩ := hel k (by omega)
    obtain ⟨hlen, hz⟩ := struct_fields hs hone hC htr
    obtain ⟨_, _, hat⟩ := World.cells?_some hc
    rw [hC] at hat
    obtain ⟨n0, y0, v0, c0, t0⟩ := hz 0 (by omega)
    obtain ⟨n1, y1, v1, c1, t1⟩ := hz 1 (by omega)
    have q0 := hat 0 (by omega)
    have q1 := hat 1 (by omega)
    rw [c0, Go.Deep.add_add] at q0
    rw [c1, Go.Deep.add_add] at q1
    obtain ⟨cs0, hc0, htr0⟩ := hel 0 (by omega)
    obtain ⟨_, hz0⟩ := struct_fields hs hone hC htr0
    obtain ⟨_, _, hat0⟩ := World.cells?_some hc0
    obtain ⟨_, _, u0, d0, _⟩ := hz0 0 (by omega)
    have p0 := hat0 0 (by rw [hC]; omega)
    rw [d0] at p0
    have hsp := spot_none p0
    obtain ⟨b, off, spot⟩ := a
    obtain rfl : spot = none := by
      unfold Addr.add at hsp
      simpa using hsp
    rw [Addr.add_lit, h2] at q0
    rw [Addr.add_lit, h2] at q1
    refine ⟨b, off, v0, v1, n0, y0, n1, y1, rfl, cell_lt q0, ?_, ?_, t0, t1⟩
    · simpa using q0
    · rw [Nat.add_assoc]; exact q1
end

section
variable {H : Type} {enc : TypeId × Value → H} {W : World} {base b0 : Nat} {sp : Nat → Bool} {held : Bool} {cs : List Value} {x : DataW H × List MemPlace}
theorem its_of {fuel : Nat} (h : DataW.trod enc Tryd.prog W base sp held fuel 22 cs = some x) : ∃ A c l, cs = [.slice A (List.length l) c] ∧ ItsAt W.heap.size W A l ∧ l.length ≤ maxLen := by
  obtain ⟨A, c, n, rfl, hn, hel⟩ := open_twos Tryd.underlying22 Tryd.underlying84 (by kernel_rfl) (by kernel_rfl) rfl h
  obtain ⟨l, rfl, hl⟩ := exists_list (Q := fun k (x : It) => ∃ b off A1 c1 A2 c2, A = some ⟨b, off, none⟩ ∧ b < W.heap.size ∧ W.cell? ⟨b, off + k * 2, none⟩ = some (.slice A1 x.1.length c1) ∧ W.cell? ⟨b, off + k * 2 + 1, none⟩ = some (.slice A2 x.2.length c2) ∧ IntsAt W.heap.size W A1 x.1 ∧ IntsAt W.heap.size W A2 x.2) n fun k hk => by
    obtain ⟨b, off, v0, v1, n0, y0, n1, y1, e, hb, q0, q1, t0, t1⟩ := hel k hk
    obtain ⟨A1, c1, z1, e1, i1, _, _⟩ := open_intsAt Tryd.underlying32 Tryd.underlying3 (by kernel_rfl) t0
    obtain ⟨A2, c2, z2, e2, i2, _, _⟩ := open_intsAt Tryd.underlying32 Tryd.underlying3 (by kernel_rfl) t1
    obtain rfl := List.singleton_inj.1 e1
    obtain rfl := List.singleton_inj.1 e2
    exact ⟨(z1, z2), b, off, A1, c1, A2, c2, e, hb, q0, q1, i1, i2⟩
  exact ⟨A, c, l, rfl, hl, hn⟩
theorem rus_of {fuel : Nat} (h : DataW.trod enc Tryd.prog W base sp held fuel 23 cs = some x) : ∃ A c l, cs = [.slice A (List.length l) c] ∧ RusAt W.heap.size W A l ∧ l.length ≤ maxLen := by
  obtain ⟨A, c, n, rfl, hn, hel⟩ := open_twos Tryd.underlying23 Tryd.underlying42 (by kernel_rfl) (by kernel_rfl) rfl h
  obtain ⟨l, rfl, hl⟩ := exists_list (Q := fun k (x : Ru) => ∃ b off A1 c1, A = some ⟨b, off, none⟩ ∧ b < W.heap.size ∧ W.cell? ⟨b, off + k * 2, none⟩ = some (.slice A1 x.1.length c1) ∧ W.cell? ⟨b, off + k * 2 + 1, none⟩ = some (.int .i64 x.2) ∧ IntsAt W.heap.size W A1 x.1) n fun k hk => by
    obtain ⟨b, off, v0, v1, n0, y0, n1, y1, e, hb, q0, q1, t0, t1⟩ := hel k hk
    obtain ⟨A1, c1, z1, e1, i1, _, _⟩ := open_intsAt Tryd.underlying32 Tryd.underlying3 (by kernel_rfl) t0
    obtain ⟨z2, rfl, _⟩ := trod_int_inv Tryd.underlying3 t1
    obtain rfl := List.singleton_inj.1 e1
    exact ⟨(z1, z2), b, off, A1, c1, e, hb, q0, q1, i1⟩
  exact ⟨A, c, l, rfl, hl, hn⟩
theorem arr3 {cs : Array Value} {v0 v1 v2 : Value} (hl : cs.toList.length = 3) (h0 : cs.toList[0]? = some v0) (h1 : cs.toList[1]? = some v1) (h2 : cs.toList[2]? = some v2) : cs = #[v0, v1, v2] := by
  obtain ⟨l⟩ := cs
  match l, hl with
  | [a, b, c], _ =>
    simp only [List.getElem?_cons_zero, List.getElem?_cons_succ, Option.some.injEq] at h0 h1 h2
    subst h0 h1 h2; rfl
theorem arr2 {cs : Array Value} {v0 v1 : Value} (hl : cs.toList.length = 2) (h0 : cs.toList[0]? = some v0) (h1 : cs.toList[1]? = some v1) : cs = #[v0, v1] := by
  obtain ⟨l⟩ := cs
  match l, hl with
  | [a, b], _ =>
    simp only [List.getElem?_cons_zero, List.getElem?_cons_succ, Option.some.injEq] at h0 h1
    subst h0 h1; rfl
set_option maxRecDepth 100000 in
/-- A book by value. -/
theorem open_book {r : Reach} {v : Value} {d : DataW H} {p : List MemPlace} (hv : Value.okWide Tryd.prog W r b0 25 v) (h : DataW.Trod enc Tryd.prog W base sp held 25 v d p) :
    ∃ AI AR cI cR, ∃ b : Bk, v = .agg #[.int .i64 b.p, .slice AI b.its.length cI, .slice AR b.rus.length cR] ∧ ItsAt W.heap.size W AI b.its ∧ RusAt W.heap.size W AR b.rus ∧ b.its.length ≤ maxLen ∧ b.rus.length ≤ maxLen := by
  obtain ⟨cs, rfl, hsz⟩ := okWide_struct Tryd.underlying25 hv
  obtain ⟨fuel, hf⟩ := h
  simp only [Value.cells] at hf
  obtain ⟨hlen, hz⟩ := struct_fields Tryd.underlying25 (by kernel_rfl) (by kernel_rfl) hf
  obtain ⟨n0, y0, v0, c0, t0⟩ := hz 0 (by decide)
  obtain ⟨n1, y1, v1, c1, t1⟩ := hz 1 (by decide)
  obtain ⟨n2, y2, v2, c2, t2⟩ := hz 2 (by decide)
  obtain rfl := arr3 hlen c0 c1 c2
  obtain ⟨q, rfl, _⟩ := trod_int_inv Tryd.underlying3 t0
  obtain ⟨AI, cI, l1, e1, i1, m1⟩ := its_of t1
  obtain ⟨AR, cR, l2, e2, i2, m2⟩ := rus_of t2
  obtain rfl := List.singleton_inj.1 e1
  obtain rfl := List.singleton_inj.1 e2
  exact ⟨AI, AR, cI, cR, ⟨q, l1, l2⟩, rfl, i1, i2, m1, m2⟩
set_option maxRecDepth 100000 in
/-- A rule by value. -/
theorem open_rule {r : Reach} {v : Value} {d : DataW H} {p : List MemPlace} (hv : Value.okWide Tryd.prog W r b0 42 v) (h : DataW.Trod enc Tryd.prog W base sp held 42 v d p) :
    ∃ A c, ∃ x : Ru, v = .agg #[.slice A x.1.length c, .int .i64 x.2] ∧ IntsAt W.heap.size W A x.1 := by
  obtain ⟨cs, rfl, hsz⟩ := okWide_struct Tryd.underlying42 hv
  obtain ⟨fuel, hf⟩ := h
  simp only [Value.cells] at hf
  obtain ⟨hlen, hz⟩ := struct_fields Tryd.underlying42 (by kernel_rfl) (by kernel_rfl) hf
  obtain ⟨n0, y0, v0, c0, t0⟩ := hz 0 (by decide)
  obtain ⟨n1, y1, v1, c1, t1⟩ := hz 1 (by decide)
  obtain rfl := arr2 hlen c0 c1
  obtain ⟨A1, k1, z1, e1, i1, _, _⟩ := open_intsAt Tryd.underlying32 Tryd.underlying3 (by kernel_rfl) t0
  obtain ⟨z2, rfl, _⟩ := trod_int_inv Tryd.underlying3 t1
  obtain rfl := List.singleton_inj.1 e1
  exact ⟨A1, k1, (z1, z2), rfl, i1⟩
end
end Go.Proofs.YtgoojcjfhghmgaaDoor


namespace Go.Proofs.YtgoojcjfhghmgaaDoor
open Go.RowKit
theorem steps_of_rows {B n : Nat} {w : World} {A : Option Addr} {f : Nat → Nat → Int} (h : ElsAt B w A 3 n (fun k j => .int .i64 (f k j))) : ∃ l : List St, n = l.length ∧ StAt B w A l := by
  refine ⟨(List.range n).map fun k => (f k 0, f k 1, f k 2), by rw [List.length_map, List.length_range], fun k hk => ?_⟩
  have hk' : k < n := by rwa [List.length_map, List.length_range] at hk
  obtain ⟨b, off, e, hb, hc⟩ := h k hk'
  rw [List.getElem_map, List.getElem_range]
  exact ⟨b, off, e, hb, hc 0 (by omega), hc 1 (by omega), hc 2 (by omega)⟩
end Go.Proofs.YtgoojcjfhghmgaaDoor


namespace Go.Proofs.YtgoojcjfhghmgaaDoor
open Go.RowKit Go.ChangeShapes Go.WideShapes Go.ChangeAt Go.Deep

section
variable {H : Type} {enc : TypeId × Value → H} {W : World} {base b0 : Nat} {sp : Nat → Bool} {held : Bool}
set_option maxRecDepth 100000 in
/-- A claim by value. -/
theorem open_claim {r : Reach} {v : Value} {d : DataW H} {p : List MemPlace} (hv : Value.okWide Tryd.prog W r b0 82 v) (h : DataW.Trod enc Tryd.prog W base sp held 82 v d p) :
    ∃ A c n, ∃ l : List St, v = .agg #[.int .i64 n, .slice A l.length c] ∧ StAt W.heap.size W A l := by
  obtain ⟨cs, rfl, hsz⟩ := okWide_struct Tryd.underlying82 hv
  obtain ⟨fuel, hf⟩ := h
  simp only [Value.cells] at hf
  obtain ⟨hlen, hz⟩ := struct_fields Tryd.underlying82 (by kernel_rfl) (by kernel_rfl) hf
  obtain ⟨n0, y0, v0, c0, t0⟩ := hz 0 (by decide)
  obtain ⟨n1, y1, v1, c1, t1⟩ := hz 1 (by decide)
  obtain rfl := arr2 hlen c0 c1
  obtain ⟨z2, rfl, _⟩ := trod_int_inv Tryd.underlying3 t0
  obtain ⟨A1, k1, n, f, e1, i1, _, _⟩ := open_rowsAt Tryd.underlying53 Tryd.underlying73 (by kernel_rfl) (by kernel_rfl) (by decide) (by intro f hf; simp only [List.mem_cons, List.not_mem_nil, or_false] at hf; rcases hf with rfl | rfl | rfl <;> exact Tryd.underlying3) t1
  obtain rfl := List.singleton_inj.1 e1
  obtain ⟨l, rfl, hl⟩ := steps_of_rows i1
  exact ⟨A1, k1, z2, l, rfl, hl⟩
end
end Go.Proofs.YtgoojcjfhghmgaaDoor


namespace Go.Proofs.YtgoojcjfhghmgaaDoor.lawTopLabels
open Go.ChangeShapes Go.WideShapes Go.ChangeAt Go.RowKit Go.Deep
set_option linter.unusedVariables false

set_option maxRecDepth 100000 in
theorem lifted (os : Os) (started : os.Started) (H : Type) (enc : TypeId × Value → H) :
    ReturnsInHanded {} Tryd.checked os 16 .any (fun w args => (Rows.topLabelsSpec.pre enc Tryd.prog Tryd.f16 Rows.topLabelsRow.domain false w args ∧ laidMetH Tryd.prog laidV w) ∧ sizedMet enc Tryd.prog Tryd.f16 (OpenSpec.ofChange Rows.topLabelsSpec) false w args)
      (Rows.topLabelsSpec.post enc Tryd.prog Tryd.f16 false true false false) := by
  refine returnsInHanded_of_change_and (C := Tryd.checked) (X := fun w _ => laidMetH Tryd.prog laidV w) (fun _ _ _ hh h => h.of_heap hh) own started (by kernel_rfl) Tryd.func16
    (ChangeSpec.witness_shaped (enc := enc) (C := Tryd.checked) (os := os) (X := fun w _ => laidMetH Tryd.prog laidV w) false (World.laidAll Tryd.prog os laidV) #[.agg #[.int .i64 0, .slice none 0 0, .slice none 0 0], .agg #[.int .i64 0, .slice none 0 0], .slice none 0 0] 8 (World.laidAll_os _ _ _)
      (World.shaped_of_ZipB (by kernel_rfl) (by kernel_rfl)) (by kernel_rfl) (by kernel_rfl) (by kernel_rfl)
      (by rw [MakeChecks.laidMetH_plain _ _ _ (by kernel_rfl)]; exact laidMet_laidAll _ (by kernel_rfl) (by kernel_rfl))) ?_
  intro W base args ds gs before hval0 hW hcnd _ hL _
  have hT := tab_of_laid hL
  have hval : ∀ (j : Nat) t v, Tryd.f16.params[j]? = some t → args[j]? = some v → Value.okWide Tryd.prog W .any base t v := hval0
  have hW' := hW
  obtain ⟨p, q, hA0, hV, rfl, hfz, hnd⟩ := hW
  have hA : DataW.TrodAll enc Tryd.prog W 0 (fun _ => true) true Tryd.f16.params.toList args.toList ds p := hA0
  rw [Tryd.params16] at hA hval
  obtain ⟨v0, vs0, d0, ds0, p0, q0, hargs, rfl, rfl, h0, r0⟩ := trodAll_cons hA
  obtain ⟨v1, vs1, d1, ds1, p1, q1, rfl, rfl, rfl, h1, r1⟩ := trodAll_cons r0
  obtain ⟨v2, vs2, d2, ds2, p2, q2, rfl, rfl, rfl, h2, r2⟩ := trodAll_cons r1
  obtain ⟨rfl, rfl, rfl⟩ := trodAll_nil r2
  obtain rfl : args = #[v0, v1, v2] := by cases args; simp_all
  obtain ⟨rfl, rfl⟩ := trodVars_none hV
  have k0 := h0
  have lt0 : ∀ x ∈ p0, x.block < W.heap.size := by obtain ⟨m, hm⟩ := k0; exact DataW.trod_lt m _ _ _ hm
  obtain ⟨AI0, AR0, cI0, cR0, b0, rfl, I0, R0, S0⟩ := open_book (hval 0 25 v0 rfl rfl) h0
  have k1 := h1
  have lt1 : ∀ x ∈ p1, x.block < W.heap.size := by obtain ⟨m, hm⟩ := k1; exact DataW.trod_lt m _ _ _ hm
  obtain ⟨A1, c1, n1, z1, rfl, i1⟩ := open_claim (hval 1 82 v1 rfl rfl) h1
  have k2 := h2
  have lt2 : ∀ x ∈ p2, x.block < W.heap.size := by obtain ⟨m, hm⟩ := k2; exact DataW.trod_lt m _ _ _ hm
  obtain ⟨fu2, hf2⟩ := h2
  obtain ⟨A2, c2, n2, f2, e2, i2, b2, m2⟩ := open_rowsAt Tryd.underlying67 Tryd.underlying79 (by kernel_rfl) (by kernel_rfl) (by decide) (by intro f hf; simp only [List.mem_cons, List.not_mem_nil, or_false] at hf; rcases hf with rfl | rfl <;> exact Tryd.underlying3) hf2
  obtain ⟨A2', n2', c2', rfl⟩ := okWide_slice Tryd.underlying67 (hval 2 67 v2 rfl rfl)
  obtain ⟨rfl, rfl, rfl⟩ : A2' = A2 ∧ n2' = n2 ∧ c2' = c2 := by simpa [Value.cells] using e2
  obtain ⟨l2, hl2, P2⟩ := pairs_of_rows i2
  subst hl2
  clear hA0 hval0
  refine (law_labels2 AI0 AR0 cI0 cR0 A1 c1 A2' c2' b0 n1 z1 l2 W I0 R0 i1 P2 hT).mono fun e W' ⟨he, bel⟩ => ?_
  subst he
  exact ⟨_, rfl, _, _, _, [], _, [], hW', trodAll_mk1 (shut_bool Tryd.underlying4 _), (trodAll_cons_mk (Below.trod laidOut (by kernel_rfl) (of_decide_eq_true (by kernel_rfl)) k0 bel lt0) (trodAll_cons_mk (Below.trod laidOut (by kernel_rfl) (of_decide_eq_true (by kernel_rfl)) k1 bel lt1) (trodAll_cons_mk (Below.trod laidOut (by kernel_rfl) (of_decide_eq_true (by kernel_rfl)) k2 bel lt2) trodAll_mk0))), rfl, bel.frame _, fun h => by cases h⟩

theorem over : Rows.topLabelsRow.holds Tryd.pinned (OpenSpec.ofChange Rows.topLabelsSpec) :=
  OpenClaim.holds_of_wide 16 Tryd.f16 rfl rfl rfl rfl rfl rfl rfl ⟨rfl, rfl, rfl, rfl, rfl⟩ rfl rfl rfl rfl rfl (by kernel_rfl) Tryd.func16 (by kernel_rfl)
    (of_decide_eq_true (by kernel_rfl)) (by unfold Func.isWrapper; first | (rw [if_pos (by decide +kernel)]; kernel_rfl) | (rw [if_neg (by decide +kernel)]; exact ⟨rfl, rfl⟩))
    (fun os started H enc _ => lifted os started H enc)

/-- The statement: the tied card. -/
theorem proved : Rows.TopLabelsCardSaid :=
  Claim7.holds_tied_plain_at .later [] [.data, .data] true (true, "8c487879d048aae23dd660c744b71e8b4582616f73d0860a610df5222bf65492") false
    over (fun _ h => by cases h) (by kernel_rfl) (fun _ h => by cases h) topLabels_row_tie rfl ⟨rfl, rfl⟩ mainIs rfl
    (fun f fn hf hfn => by
      obtain rfl : f = 16 := Option.some.inj ((show Tryd.prog.funcNamed "canteen/canteentop.TopLabels" = some 16 by kernel_rfl).symm.trans hf) |>.symm
      obtain rfl : fn = Tryd.f16 := (Option.some.inj (Tryd.func16.symm.trans hfn)).symm
      exact ⟨by kernel_rfl, fun j t ht => by
        rw [Tryd.params16] at ht
        have hm : t ∈ [25, 82, 67] := by simpa using Array.mem_of_getElem? ht
        have hall : ([25, 82, 67].all fun u => !Tryd.prog.wantsStandIn u) = true := by kernel_rfl
        exact (show Tryd.prog.wantsStandIn t = false by simpa using List.all_eq_true.1 hall t hm)⟩)
    (by kernel_rfl)
end Go.Proofs.YtgoojcjfhghmgaaDoor.lawTopLabels
