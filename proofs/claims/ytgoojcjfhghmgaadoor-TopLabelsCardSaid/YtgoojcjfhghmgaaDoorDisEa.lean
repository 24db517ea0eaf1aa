/- Lists of bools: marks, places, all. -/
import Derived.Test.YtgoojcjfhghmgaaDoorDisZb
namespace Go.Proofs.YtgoojcjfhghmgaaDoor
open Go.RowKit

/-- Block g's first n cells are the bits of x. -/
def BB (g n x : Nat) (W : World) : Prop := ∃ cs : Array Value, Blk W g 4 cs ∧ n ≤ cs.size ∧ ∀ i, i < n → cs[i]? = some (.bool (x.testBit i))
namespace BB
variable {g n x : Nat} {W W' : World}
theorem lt (h : BB g n x W) : g < W.heap.size := by obtain ⟨cs, h1, _⟩ := h; exact h1.lt
theorem cell (h : BB g n x W) {d : Nat} (hd : d < n) : W.cell? ⟨g, d, none⟩ = some (.bool (x.testBit d)) := by
  obtain ⟨cs, h1, _, h3⟩ := h
  rw [h1.cell, h3 d hd]
theorem frozen (h : BB g n x W) (d : Nat) : W.frozen? ⟨g, d, none⟩ = false := by obtain ⟨cs, h1, _⟩ := h; exact h1.frozen d
theorem below {B : Nat} (h : BB g n x W) (hb : Below B W W') (hB : g < B) : BB g n x W' := by
  obtain ⟨cs, h1, h2, h3⟩ := h
  exact ⟨cs, h1.below hb hB, h2, h3⟩
theorem drewN (h : BB g n x W) (m : Nat) : BB g n x (W.drewN m) := by
  obtain ⟨cs, h1, h2, h3⟩ := h
  exact ⟨cs, h1.drewN m, h2, h3⟩
theorem alloc (h : BB g n x W) (o : Obj) : BB g n x (W.alloc o) := by
  obtain ⟨cs, h1, h2, h3⟩ := h
  exact ⟨cs, h1.alloc o, h2, h3⟩
theorem put (h : BB g n x W) (q : Nat) : BB g n (x ||| 2 ^ q) (W.setCell ⟨g, q, none⟩ (.bool true)) := by
  obtain ⟨cs, h1, h2, h3⟩ := h
  refine ⟨_, h1.put q _, by simpa using h2, fun e he => ?_⟩
  rw [Array.getElem?_setIfInBounds, Nat.testBit_or, Nat.testBit_two_pow]
  by_cases hed : q = e
  · subst hed
    rw [if_pos rfl, if_pos (by omega)]; simp
  · rw [if_neg hed, h3 e he]
    simp [hed]
theorem put' {q : Nat} (h : BB g n x W) (hq : x.testBit q = true) : BB g n x (W.setCell ⟨g, q, none⟩ (.bool true)) := by
  have := h.put q
  have e : x ||| 2 ^ q = x := by
    apply Nat.eq_of_testBit_eq
    intro i
    rw [Nat.testBit_or, Nat.testBit_two_pow]
    by_cases hi : q = i
    · subst hi; simp [hq]
    · simp [hi]
  rwa [e] at this
end BB
/-- A list of bools that is read. -/
def BR (g n x : Nat) (W : World) : Prop := g < W.heap.size ∧ ∀ i, i < n → W.cell? ⟨g, i, none⟩ = some (.bool (x.testBit i))
theorem BB.br {g n x : Nat} {W : World} (h : BB g n x W) : BR g n x W := ⟨h.lt, fun _ hi => h.cell hi⟩
theorem BR.below {g n x B : Nat} {W W' : World} (h : BR g n x W) (hb : Below B W W') (hB : g < B) : BR g n x W' :=
  ⟨Nat.lt_of_lt_of_le h.1 hb.size, fun i hi => (hb.cell (p := ⟨g, i, none⟩) hB).trans (h.2 i hi)⟩
theorem info4 : (Tryd.prog.info? 4).map (fun i => (i.zero, i.size, i.bytes)) = some (some (.bool false), 1, 1) := by kernel_rfl
/-- make([]bool, n). -/
theorem make_bools (n : Nat) (hn : n ≤ 1000000) : ∃ cs : Array Value, cs.size = n ∧ (∀ d, d < n → cs[d]? = some (.bool false)) ∧ ∀ w : World, (Instr.makeSlice 94 (.int .i64 (n : Int)) (.int .i64 (n : Int))).run Tryd.prog w = .ok (.slice (some ⟨w.heap.size, 0, none⟩) n n) (w.alloc (.cells cs 4)) := by
  obtain ⟨i0, hi, hz0, hz1, hz2⟩ := info_parts info4
  refine ⟨madeCells (Value.bool false).cells (n * i0.size), ?_, fun d hd => ?_, fun w => ?_⟩
  · rw [size_madeCells, hz1, Nat.mul_one]
  · rw [hz1]; simp [madeCells, Value.cells, hd, Nat.mod_one]
  · have hr := run_make (P := Tryd.prog) w 94 4 i0 _ Tryd.underlying94 hi hz0 .i64 .i64 n n (by omega) (by omega) (by rw [hz2]; omega) (by omega)
    simp only [Int.toNat_natCast] at hr
    exact hr
theorem BB.made {n : Nat} {cs : Array Value} (w : World) (hs : cs.size = n) (hz : ∀ d, d < n → cs[d]? = some (.bool false)) : BB w.heap.size n 0 (w.alloc (.cells cs 4)) :=
  ⟨cs, Blk.new w 4 cs, by omega, fun i hi => by rw [hz i hi, Nat.zero_testBit]⟩
theorem below_put {B : Nat} {w W : World} (h : Below B w W) {g : Nat} (hg : B ≤ g) (i : Nat) (u : Value) : Below B w (W.setCell ⟨g, i, none⟩ u) :=
  h.trans (Below.setCell (Below.refl _ _) hg u)

set_option maxRecDepth 100000 in
set_option maxHeartbeats 1000000 in
theorem marks_ref (A : Option Addr) (c B : Nat) (l : List Nat) (n : Nat) (w : World) (hB : B ≤ w.heap.size) (h : IntsAt B w A (intL l)) (hm : l.length ≤ 1000) (hl : ∀ x ∈ l, x < n) (hn : n ≤ 60) :
    Calls Tryd.prog 77 #[.slice A l.length c, .int .i64 n] w fun e w' => e = .returned (.slice (some ⟨w.heap.size, 0, none⟩) n n) ∧ BB w.heap.size n (mk l) w' ∧ Below w.heap.size w w' := by
  have hll : (intL l).length = l.length := by simp [intL]
  obtain ⟨cs, hs, hz, mk0⟩ := make_bools n (by omega)
  have HI := Lib.hid (h.below (Below.refl _ _) hB)
  have HB0 := Lib.hid (BB.made w hs hz)
  have Hw := Lib.hid (balloc (Below.refl _ w) (.cells cs 4))
  clear h hs hz
  go_enter Tryd.func77, Tryd.ntmps77
  go_wp2_with fail
  go_loopw [6] (fun i wr => ∃ k : Nat, k ≤ l.length ∧ i = .int .i64 k ∧ BB w.heap.size n (mkTo l k) wr ∧ Below w.heap.size w wr) (fun i _ => l.length - (intOf i).toNat)
  case atStart => exact ⟨0, Nat.zero_le _, rfl, HB0.out, Hw.out⟩
  case round =>
    obtain ⟨k, hk, rfl, hbb, hb⟩ := hrel
    by_cases hlt : k < l.length
    · obtain ⟨b, off, rfl, hbB, c0⟩ := HI.out.at (k := k) (by omega)
      have e1 : (intL l)[k]'(by omega) = ((l[k] : Nat) : Int) := by simp [intL]
      rw [e1] at c0
      have c1 := (hb.cell (p := ⟨b, off + k, none⟩) hbB).trans c0
      have hx := hl l[k] (List.getElem_mem hlt)
      have Hs := Lib.hid (mkTo_succ hlt)
      have HBB := Lib.hid hbb
      have z0 := hbb.cell hx
      have z1 := hbb.frozen l[k]
      have Hb := Lib.hid hb
      generalize l[k] = x at c0 c1 hx Hs z0 z1
      clear e1 hbb hb c0
      go_wp2_with fail
      go_roundw
      case rel => exact ⟨k + 1, by omega, by go_num, by rw [Hs.out]; exact HBB.out.put x, below_put Hb.out (Nat.le_refl _) _ _⟩
      case measure => simp [intOf]; omega
    · obtain rfl : k = l.length := by omega
      have Ha := Lib.hid (mkTo_all l)
      go_wp2_with fail
      go_ret
      exact ⟨rfl, by rw [← Ha.out]; exact hbb, hb⟩

def plTo (x k : Nat) : List Nat := (List.range k).filter fun i => x.testBit i
theorem plTo_succ (x k : Nat) : plTo x (k + 1) = plTo x k ++ if x.testBit k then [k] else [] := by
  simp only [plTo, List.range_succ, List.filter_append, List.filter_cons, List.filter_nil]
theorem plTo_length (x k : Nat) : (plTo x k).length ≤ k := by
  have := List.length_filter_le (fun i => x.testBit i) (List.range k)
  simpa [plTo] using this
theorem plTo_all {x n : Nat} (hx : x < 2 ^ n) (hn : n ≤ 60) : plTo x n = bl x := (bl_filter hx hn).symm

set_option maxRecDepth 100000 in
set_option maxHeartbeats 1000000 in
theorem places_ref (g c x n : Nat) (w : World) (h : BR g n x w) (hn : n ≤ 60) (hx : x < 2 ^ n) :
    Calls Tryd.prog 70 #[.slice (some ⟨g, 0, none⟩) n c] w fun e w' => ∃ v, e = .returned v ∧ w'.ownsRow w.heap.size 3 1 v (bl x).length (natV (bl x)) ∧ Below w.heap.size w w' := by
  obtain ⟨j0, hj, hy0, hy1, hy2⟩ := info_parts info3
  have Ha := Lib.hid (plTo_all hx hn)
  have H := Lib.hid h
  clear h
  go_enter Tryd.func70, Tryd.ntmps70
  go_wp2_with fail
  go_loopw [3, 4] (fun out i wr => ∃ k : Nat, k ≤ n ∧ i = .int .i64 k ∧ wr.ownsRow w.heap.size 3 1 out (plTo x k).length (natV (plTo x k)) ∧ Below w.heap.size w wr) (fun _ i _ => n - (intOf i).toNat)
  case atStart => exact ⟨0, Nat.zero_le _, rfl, World.ownsRow_nil _ _ _ _, Below.refl _ _⟩
  case round =>
    obtain ⟨k, hk, rfl, hown, hb⟩ := hrel
    by_cases hlt : k < n
    · have HO := Lib.hid hown
      have Hb := Lib.hid hb
      have hlen := plTo_length x k
      have Hs := Lib.hid (plTo_succ x k)
      have z0 := (hb.cell (p := ⟨g, k, none⟩) H.out.1).trans (H.out.2 k hlt)
      clear hown hb
      cases ht : x.testBit k with
      | false =>
        rw [ht] at z0
        have Hf := Lib.hid (show plTo x (k + 1) = plTo x k by rw [Hs.out, ht]; simp)
        clear ht
        go_wp2_with fail
        go_roundw
        case rel => exact ⟨k + 1, by omega, by go_num, by rw [Hf.out]; exact HO.out, Hb.out⟩
        case measure => simp [intOf]; omega
      | true =>
        rw [ht] at z0
        have Hf := Lib.hid (show plTo x (k + 1) = plTo x k ++ [k] by rw [Hs.out, ht]; simp)
        clear ht
        go_wp2_with (at_builtin; refine wpList_append_own _ rfl _ _ 32 rfl w.heap.size 3 j0 _ 1 8 Tryd.underlying32 hj hy0 hy1 hy2 rfl (by decide) _ _ _ rfl (HO.out.alloc _) ⟨wr.heap.size, 0, none⟩ 1 1 _ rfl rfl (cell_one_new _ _ _) (by simp [Value.oneCell']) (by simp only [maxLen]; omega) (by omega) (Hb.out.alloc Hb.out.size _).size ?_; intro v' w7 hown7 hg7 _)
        have b7 : Below w.heap.size w w7 := (Hb.out.alloc Hb.out.size _).grown hg7 (Hb.out.alloc Hb.out.size _).size (fun x hx => (HO.out.lt x hx).1)
        go_roundw
        case rel => exact ⟨k + 1, by omega, by go_num, by rw [Hf.out, List.length_append, natV, List.map_append]; exact hown7, b7⟩
        case measure => simp [intOf]; omega
    · obtain rfl : k = n := by omega
      rw [Ha.out] at hown
      go_wp2_with fail
      go_ret
      exact ⟨_, rfl, hown, hb⟩

theorem allB_bad {x : Nat} {l : List Nat} {k : Nat} (hk : k < l.length) (h : x.testBit l[k] = false) : allB x l = false := by
  cases ha : allB x l with
  | false => rfl
  | true =>
    have := List.all_eq_true.1 ha l[k] (List.getElem_mem hk)
    rw [h] at this; cases this
theorem allB_good {x : Nat} {l : List Nat} (h : ∀ j (hj : j < l.length), x.testBit l[j] = true) : allB x l = true := by
  simp only [allB, List.all_eq_true]
  intro q hq
  obtain ⟨i, hi, rfl⟩ := List.mem_iff_getElem.1 hq
  exact h i hi
set_option maxRecDepth 100000 in
set_option maxHeartbeats 1000000 in
theorem all_ref (g c x n : Nat) (A : Option Addr) (c' B : Nat) (l : List Nat) (w : World) (h : BR g n x w) (hi : IntsAt B w A (intL l)) (hm : l.length ≤ 1000) (hl : ∀ q ∈ l, q < n) :
    Calls Tryd.prog 100 #[.slice (some ⟨g, 0, none⟩) n c, .slice A l.length c'] w fun e w' => e = .returned (.bool (allB x l)) ∧ w' = w := by
  have hll : (intL l).length = l.length := by simp [intL]
  have Hbad := Lib.hid (fun k (hk : k < l.length) h => allB_bad (x := x) hk h)
  have Hgood := Lib.hid (fun h => allB_good (x := x) (l := l) h)
  generalize allB x l = r at Hbad Hgood ⊢
  go_enter Tryd.func100, Tryd.ntmps100
  go_wp2_with fail
  go_loop [5] (fun i => ∃ k : Nat, k ≤ l.length ∧ i = .int .i64 k ∧ ∀ j (hj : j < l.length), j < k → x.testBit l[j] = true) (fun i => l.length - (intOf i).toNat)
  case atStart => exact ⟨0, Nat.zero_le _, rfl, fun j _ hk => absurd hk (Nat.not_lt_zero j)⟩
  case round =>
    obtain ⟨k, hk, rfl, hn⟩ := hrel
    have Hn := Lib.hid hn
    clear hn
    by_cases hlt : k < l.length
    · obtain ⟨b, off, rfl, hbB, c0⟩ := hi.at (k := k) (by omega)
      have e1 : (intL l)[k]'(by omega) = ((l[k] : Nat) : Int) := by simp [intL]
      rw [e1] at c0
      have hx := hl l[k] (List.getElem_mem hlt)
      have z0 := h.2 l[k] hx
      have Hb1 := Lib.hid (Hbad.out k hlt)
      have Hg1 := Lib.hid (fun hx : x.testBit l[k] = true => show ∀ j (hj : j < l.length), j < k + 1 → x.testBit l[j] = true from fun j hj hjk => by
        by_cases e : j = k
        · subst e; exact hx
        · exact Hn.out j hj (by omega))
      clear e1 Hbad Hgood Hn
      generalize l[k] = y at c0 hx z0 Hb1 Hg1
      cases ht : x.testBit y with
      | false =>
        rw [ht] at z0
        have Hr := Lib.hid (Hb1.out ht)
        clear ht
        go_wp2_with fail
        go_ret
        exact ⟨by rw [Hr.out]; rfl, rfl⟩
      | true =>
        rw [ht] at z0
        have Hr := Lib.hid (Hg1.out ht)
        clear ht
        go_wp2_with fail
        go_round
        case rel => exact ⟨k + 1, by omega, by go_num, Hr.out⟩
        case measure => simp [intOf]; omega
    · obtain rfl : k = l.length := by omega
      have Hr := Lib.hid (Hgood.out fun j hj => Hn.out j hj hj)
      clear Hbad Hgood Hn
      go_wp2_with fail
      go_ret
      exact ⟨by rw [Hr.out]; rfl, rfl⟩
end Go.Proofs.YtgoojcjfhghmgaaDoor
