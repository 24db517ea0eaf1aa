/- Lists of bools: marks, places, all. -/
import Derived.Test.YtgoojcjfhghmgaaDoorBd
import Derived.Deep.RegionHeld3

namespace Go.Proofs.YtgoojcjfhghmgaaDoor
open Go.RowKit

/-- Block g's first n cells are the bits of x. -/
def BB (g n x : Nat) (W : World) : Prop := ∃ cs : Array Value, Blk W g 4 cs ∧ n ≤ cs.size ∧ ∀ i, i < n → cs[i]? = some (.bool (x.testBit i))
namespace BB
variable {g n x : Nat} {W W' : World}
theorem lt (h : BB g n x W) : g < W.heap.size := by obtain ⟨cs, h1, _⟩ := h; exact h1.lt
theorem cell (h : BB g n x W) {d : Nat} (hd : d < n) : W.cell? ⟨g, d, none⟩ = some (.bool (x.testBit d)) := by
  obtain ⟨cs, h1, _, h3⟩ := h
  rw [h1.cell, h3 d hd]
theorem frozen (h : BB g n x W) (d : Nat) : W.frozen? ⟨g, d, none⟩ = false := by obtain ⟨cs, h1, _⟩ := h; exact h1.frozen d
theorem below {B : Nat} (h : BB g n x W) (hb : Below B W W') (hB : g < B) : BB g n x W' := by
  obtain ⟨cs, h1, h2, h3⟩ := h
  exact ⟨cs, h1.below hb hB, h2, h3⟩
theorem drewN (h : BB g n x W) (m : Nat) : BB g n x (W.drewN m) := by
  obtain ⟨cs, h1, h2, h3⟩ := h
  exact ⟨cs, h1.drewN m, h2, h3⟩
theorem alloc (h : BB g n x W) (o : Obj) : BB g n x (W.alloc o) := by
  obtain ⟨cs, h1, h2, h3⟩ := h
  exact ⟨cs, h1.alloc o, h2, h3⟩
theorem put (h : BB g n x W) (q : Nat) : BB g n (x ||| 2 ^ q) (W.setCell ⟨g, q, none⟩ (.bool true)) := by
  obtain ⟨cs, h1, h2, h3⟩ := h
  refine ⟨_, h1.put q _, by simpa using h2, fun e he => ?_⟩
  rw [Array.getElem?_setIfInBounds, Nat.testBit_or, Nat.testBit_two_pow]
  by_cases hed : q = e
  · subst hed
    rw [if_pos rfl, if_pos (by omega)]; simp
  · rw [if_neg hed, h3 e he]
    simp [hed]
theorem put' {q : Nat} (h : BB g n x W) (hq : x.testBit q = true) : BB g n x (W.setCell ⟨g, q, none⟩ (.bool true)) := by
  have := h.put q
  have e : x ||| 2 ^ q = x := by
    apply Nat.eq_of_testBit_eq
    intro i
    rw [Nat.testBit_or, Nat.testBit_two_pow]
    by_cases hi : q = i
    · subst hi; simp [hq]
    · simp [hi]
  rwa [e] at this
end BB
/-- A list of bools that is read. -/
def BR (g n x : Nat) (W : World) : Prop := g < W.heap.size ∧ ∀ i, i < n → W.cell? ⟨g, i, none⟩ = some (.bool (x.testBit i))
theorem BB.br {g n x : Nat} {W : World} (h : BB g n x W) : BR g n x W := ⟨h.lt, fun _ hi => h.cell hi⟩
theorem BR.below {g n x B : Nat} {W W' : World} (h : BR g n x W) (hb : Below B W W') (hB : g < B) : BR g n x W' :=
  ⟨Nat.lt_of_lt_of_le h.1 hb.size, fun i hi => (hb.cell (p := ⟨g, i, none⟩) hB).trans (h.2 i hi)⟩
theorem info4 : (Tryd.prog.info? 4).map (fun i => (i.zero, i.size, i.bytes)) = some (some (.bool false), 1, 1) := by kernel_rfl
/-- make([]bool, n). -/
theorem make_bools (n : Nat) (hn : n ≤ 1000000) : ∃ cs : Array Value, cs.size = n ∧ (∀ d, d < n → cs[d]? = some (.bool false)) ∧ ∀ w : World, (Instr.makeSlice 94 (.int .i64 (n : Int)) (.int .i64 (n : Int))).run Tryd.prog w = .ok (.slice (some ⟨w.heap.size, 0, none⟩) n n) (w.alloc (.cells cs 4)) := by
  obtain ⟨i0, hi, hz0, hz1, hz2⟩ := info_parts info4
  refine ⟨madeCells (Value.bool false).cells (n * i0.size), ?_, fun d hd => ?_, fun w => ?_⟩
  · rw [size_madeCells, hz1, Nat.mul_one]
  · rw [hz1]; simp [madeCells, Value.cells, hd, Nat.mod_one]
  · have hr := run_make (P := Tryd.prog) w 94 4 i0 _ Tryd.underlying94 hi hz0 .i64 .i64 n n (by omega) (by omega) (by rw [hz2]; omega) (by omega)
    simp only [Int.toNat_natCast] at hr
    exact hr
theorem BB.made {n : Nat} {cs : Array Value} (w : World) (hs : cs.size = n) (hz : ∀ d, d < n → cs[d]? = some (.bool false)) : BB w.heap.size n 0 (w.alloc (.cells cs 4)) :=
  ⟨cs, Blk.new w 4 cs, by omega, fun i hi => by rw [hz i hi, Nat.zero_testBit]⟩
theorem below_put {B : Nat} {w W : World} (h : Below B w W) {g : Nat} (hg : B ≤ g) (i : Nat) (u : Value) : Below B w (W.setCell ⟨g, i, none⟩ u) :=
  h.trans (Below.setCell (Below.refl _ _) hg u)

set_option maxRecDepth 100000 in
set_option maxHeartbeats 1000000 in
theorem marks_ref (A : Option Addr) (c B : Nat) (l : List Nat) (n : Nat) (w : World) (hB : B ≤ w.heap.size) (h : IntsAt B w A (intL l)) (hm : l.length ≤ 1000) (hl : ∀ x ∈ l, x < n) (hn : n ≤ 60) :
    Calls Tryd.prog 77 #[.slice A l.length c, .int .i64 n] w fun e w' => e = .returned (.slice (some ⟨w.heap.size, 0, none⟩) n n) ∧ BB w.heap.size n (mk l) w' ∧ Below w.heap.size w w' := by
  have hll : (intL l).length = l.length := by simp [intL]
  obtain ⟨cs, hs, hz, mk0⟩ := make_bools n (by omega)
  have HI := Lib.hid (h.below (Below.refl _ _) hB)
  have HB0 := Lib.hid (BB.made w hs hz)
  have Hw := Lib.hid (balloc (Below.refl _ w) (.cells cs 4))
  clear h hs hz
  go_enter Tryd.func77, Tryd.ntmps77
  go_wp2_with fail
  go_loopw [6] (fun i wr => ∃ k : Nat, k ≤ l.length ∧ i = .int .i64 k ∧ BB w.heap.size n (mkTo l k) wr ∧ Below w.heap.size w wr) (fun i _ => l.length - (intOf i).toNat)
  case atStart => exact ⟨0, Nat.zero_le _, rfl, HB0.out, Hw.out⟩
  case round =>
    obtain ⟨k, hk, rfl, hbb, hb⟩ := hrel
    by_cases hlt : k < l.length
    · obtain ⟨b, off, rfl, hbB, c0⟩ := HI.out.at (k := k) (by omega)
      have e1 : (intL l)[k]'(by omega) = ((l[k] : Nat) : Int) := by simp [intL]
      rw [e1] at c0
      have c1 := (hb.cell (p := ⟨b, off + k, none⟩) hbB).trans c0
      have hx := hl l[k] (List.getElem_mem hlt)
      have Hs := Lib.hid (mkTo_succ hlt)
      have HBB := Lib.hid hbb
      have z0 := hbb.cell hx
      have z1 := hbb.frozen l[k]
      have Hb := Lib.hid hb
      generalize l[k] = x at c0 c1 hx Hs z0 z1
      clear e1 hbb hb c0
      go_wp2_with fail
      go_roundw
      case rel => exact ⟨k + 1, by omega, by go_num, by rw [Hs.out]; exact HBB.out.put x, below_put Hb.out (Nat.le_refl _) _ _⟩
      case measure => simp [intOf]; omega
    · obtain rfl : k = l.length := by omega
      have Ha := Lib.hid (mkTo_all l)
      go_wp2_with fail
      go_ret
      exact ⟨rfl, by rw [← Ha.out]; exact hbb, hb⟩

def plTo (x k : Nat) : List Nat := (List.range k).filter fun i => x.testBit i
theorem plTo_succ (x k : Nat) : plTo x (k + 1) = plTo x k ++ if x.testBit k then [k] else [] := by
  simp only [plTo, List.range_succ, List.filter_append, List.filter_cons, List.filter_nil]
theorem plTo_length (x k : Nat) : (plTo x k).length ≤ k := by
  have := List.length_filter_le (fun i => x.testBit i) (List.range k)
  simpa [plTo] using this
theorem plTo_all {x n : Nat} (hx : x < 2 ^ n) (hn : n ≤ 60) : plTo x n = bl x := (bl_filter hx hn).symm

set_option maxRecDepth 100000 in
set_option maxHeartbeats 1000000 in
theorem places_ref (g c x n : Nat) (w : World) (h : BR g n x w) (hn : n ≤ 60) (hx : x < 2 ^ n) :
    Calls Tryd.prog 70 #[.slice (some ⟨g, 0, none⟩) n c] w fun e w' => ∃ v, e = .returned v ∧ w'.ownsRow w.heap.size 3 1 v (bl x).length (natV (bl x)) ∧ Below w.heap.size w w' := by
  obtain ⟨j0, hj, hy0, hy1, hy2⟩ := info_parts info3
  have Ha := Lib.hid (plTo_all hx hn)
  have H := Lib.hid h
  clear h
  go_enter Tryd.func70, Tryd.ntmps70
  go_wp2_with fail
  go_loopw [3, 4] (fun out i wr => ∃ k : Nat, k ≤ n ∧ i = .int .i64 k ∧ wr.ownsRow w.heap.size 3 1 out (plTo x k).length (natV (plTo x k)) ∧ Below w.heap.size w wr) (fun _ i _ => n - (intOf i).toNat)
  case atStart => exact ⟨0, Nat.zero_le _, rfl, World.ownsRow_nil _ _ _ _, Below.refl _ _⟩
  case round =>
    obtain ⟨k, hk, rfl, hown, hb⟩ := hrel
    by_cases hlt : k < n
    · have HO := Lib.hid hown
      have Hb := Lib.hid hb
      have hlen := plTo_length x k
      have Hs := Lib.hid (plTo_succ x k)
      have z0 := (hb.cell (p := ⟨g, k, none⟩) H.out.1).trans (H.out.2 k hlt)
      clear hown hb
      cases ht : x.testBit k with
      | false =>
        rw [ht] at z0
        have Hf := Lib.hid (show plTo x (k + 1) = plTo x k by rw [Hs.out, ht]; simp)
        clear ht
        go_wp2_with fail
        go_roundw
        case rel => exact ⟨k + 1, by omega, by go_num, by rw [Hf.out]; exact HO.out, Hb.out⟩
        case measure => simp [intOf]; omega
      | true =>
        rw [ht] at z0
        have Hf := Lib.hid (show plTo x (k + 1) = plTo x k ++ [k] by rw [Hs.out, ht]; simp)
        clear ht
        go_wp2_with (at_builtin; refine wpList_append_own _ rfl _ _ 32 rfl w.heap.size 3 j0 _ 1 8 Tryd.underlying32 hj hy0 hy1 hy2 rfl (by decide) _ _ _ rfl (HO.out.alloc _) ⟨wr.heap.size, 0, none⟩ 1 1 _ rfl rfl (cell_one_new _ _ _) (by simp [Value.oneCell']) (by simp only [maxLen]; omega) (by omega) (Hb.out.alloc Hb.out.size _).size ?_; intro v' w7 hown7 hg7 _)
        have b7 : Below w.heap.size w w7 := (Hb.out.alloc Hb.out.size _).grown hg7 (Hb.out.alloc Hb.out.size _).size (fun x hx => (HO.out.lt x hx).1)
        go_roundw
        case rel => exact ⟨k + 1, by omega, by go_num, by rw [Hf.out, List.length_append, natV, List.map_append]; exact hown7, b7⟩
        case measure => simp [intOf]; omega
    · obtain rfl : k = n := by omega
      rw [Ha.out] at hown
      go_wp2_with fail
      go_ret
      exact ⟨_, rfl, hown, hb⟩

theorem allB_bad {x : Nat} {l : List Nat} {k : Nat} (hk : k < l.length) (h : x.testBit l[k] = false) : allB x l = false := by
  cases ha : allB x l with
  | false => rfl
  | true =>
    have := List.all_eq_true.1 ha l[k] (List.getElem_mem hk)
    rw [h] at this; cases this
theorem allB_good {x : Nat} {l : List Nat} (h : ∀ j (hj : j < l.length), x.testBit l[j] = true) : allB x l = true := by
  simp only [allB, List.all_eq_true]
  intro q hq
  obtain ⟨i, hi, rfl⟩ := List.mem_iff_getElem.1 hq
  exact h i hi
set_option maxRecDepth 100000 in
set_option maxHeartbeats 1000000 in
theorem all_ref (g c x n : Nat) (A : Option Addr) (c' B : Nat) (l : List Nat) (w : World) (h : BR g n x w) (hi : IntsAt B w A (intL l)) (hm : l.length ≤ 1000) (hl : ∀ q ∈ l, q < n) :
    Calls Tryd.prog 100 #[.slice (some ⟨g, 0, none⟩) n c, .slice A l.length c'] w fun e w' => e = .returned (.bool (allB x l)) ∧ w' = w := by
  have hll : (intL l).length = l.length := by simp [intL]
  have Hbad := Lib.hid (fun k (hk : k < l.length) h => allB_bad (x := x) hk h)
  have Hgood := Lib.hid (fun h => allB_good (x := x) (l := l) h)
  generalize allB x l = r at Hbad Hgood ⊢
  go_enter Tryd.func100, Tryd.ntmps100
  go_wp2_with fail
  go_loop [5] (fun i => ∃ k : Nat, k ≤ l.length ∧ i = .int .i64 k ∧ ∀ j (hj : j < l.length), j < k → x.testBit l[j] = true) (fun i => l.length - (intOf i).toNat)
  case atStart => exact ⟨0, Nat.zero_le _, rfl, fun j _ hk => absurd hk (Nat.not_lt_zero j)⟩
  case round =>
    obtain ⟨k, hk, rfl, hn⟩ := hrel
    have Hn := Lib.hid hn
    clear hn
    by_cases hlt : k < l.length
    · obtain ⟨b, off, rfl, hbB, c0⟩ := hi.at (k := k) (by omega)
      have e1 : (intL l)[k]'(by omega) = ((l[k] : Nat) : Int) := by simp [intL]
      rw [e1] at c0
      have hx := hl l[k] (List.getElem_mem hlt)
      have z0 := h.2 l[k] hx
      have Hb1 := Lib.hid (Hbad.out k hlt)
      have Hg1 := Lib.hid (fun hx : x.testBit l[k] = true => show ∀ j (hj : j < l.length), j < k + 1 → x.testBit l[j] = true from fun j hj hjk => by
        by_cases e : j = k
        · subst e; exact hx
        · exact Hn.out j hj (by omega))
      clear e1 Hbad Hgood Hn
      generalize l[k] = y at c0 hx z0 Hb1 Hg1
      cases ht : x.testBit y with
      | false =>
        rw [ht] at z0
        have Hr := Lib.hid (Hb1.out ht)
        clear ht
        go_wp2_with fail
        go_ret
        exact ⟨by rw [Hr.out]; rfl, rfl⟩
      | true =>
        rw [ht] at z0
        have Hr := Lib.hid (Hg1.out ht)
        clear ht
        go_wp2_with fail
        go_round
        case rel => exact ⟨k + 1, by omega, by go_num, Hr.out⟩
        case measure => simp [intOf]; omega
    · obtain rfl : k = l.length := by omega
      have Hr := Lib.hid (Hgood.out fun j hj => Hn.out j hj hj)
      clear Hbad Hgood Hn
      go_wp2_with fail
      go_ret
      exact ⟨by rw [Hr.out]; rfl, rfl⟩
end Go.Proofs.YtgoojcjfhghmgaaDoor

/- The reference's closed. -/
namespace Go.Proofs.YtgoojcjfhghmgaaDoor
open Go.RowKit

def boolV (x n : Nat) : List Value := (List.range n).map fun i => .bool (x.testBit i)
theorem boolV_length (x n : Nat) : (boolV x n).length = n := by simp [boolV]
theorem boolV_get {x n i : Nat} (hi : i < n) : (boolV x n)[i]? = some (.bool (x.testBit i)) := by simp [boolV, hi]
theorem boolV_one (x n : Nat) : ∀ u ∈ boolV x n, u.oneCell' = true := by
  intro u hu
  simp only [boolV, List.mem_map] at hu
  obtain ⟨i, _, rfl⟩ := hu
  rfl
theorem BR.news {g n x : Nat} {W W' : World} (h : BR g n x W) (hk : ∀ i, i < n → W'.cell? ⟨g, i, none⟩ = W.cell? ⟨g, i, none⟩) : ∀ j u, (boolV x n)[j]? = some u → W'.cell? ((⟨g, 0, none⟩ : Addr).add j) = some u := by
  intro j u hu
  have hj : j < n := by
    have := (List.getElem?_eq_some_iff.1 hu).1
    rwa [boolV_length] at this
  rw [boolV_get hj] at hu
  rw [Addr.add_lit, Nat.zero_add, hk j hj, h.2 j hj]
  exact hu
theorem BB.of_own {w : World} {base n : Nat} {v : Value} {x : Nat} (hv : ¬ v = .slice none 0 0) (h : w.ownsRow base 4 1 v n (boolV x n)) : ∃ g c, v = .slice (some ⟨g, 0, none⟩) n c ∧ base ≤ g ∧ BB g n x w := by
  rcases h.2 with ⟨rfl, _⟩ | ⟨g, cap, cur, rfl, hb, hg, hnc, _, hs, ht⟩
  · exact absurd rfl hv
  · refine ⟨g, cap, rfl, hb, cur, hg, by omega, fun i hi => ?_⟩
    have h1 : (cur.toList.take (n * 1))[i]? = some (.bool (x.testBit i)) := by rw [ht]; exact boolV_get hi
    rw [List.getElem?_take_of_lt (by omega)] at h1
    simpa using h1

set_option maxRecDepth 100000 in
set_option maxHeartbeats 4000000 in
theorem closed_ref (A : Option Addr) (c B g n c' x0 : Nat) (l : List Ru) (w : World) (hB : B ≤ w.heap.size) (h : RusAt B w A l) (hbr : BR g n x0 w) (hs : l.length ≤ 60) (hl : ∀ x ∈ l, x.1.length ≤ 40) (hr : ∀ x ∈ l, ruOk n x = true) (hn : n ≤ 10) (hx0 : x0 < 2 ^ n) :
    Calls Tryd.prog 73 #[.slice A l.length c, .slice (some ⟨g, 0, none⟩) n c'] w fun e w' => ∃ g' k' x, e = .returned (.slice (some ⟨g', 0, none⟩) n k') ∧ Cl l x0 allW x ∧ x < 2 ^ n ∧ BB g' n x w' ∧ w.heap.size ≤ g' ∧ Below w.heap.size w w' := by
  obtain ⟨j0, hj, hy0, hy1, hy2⟩ := info_parts info4
  have H := Lib.hid (h.below (Below.refl _ _) hB)
  have Hr := Lib.hid hr
  have Hl := Lib.hid hl
  have HX0 := Lib.hid hx0
  have Hbr := Lib.hid hbr
  clear h hr hl hx0 hbr
  go_enter Tryd.func73, Tryd.ntmps73
  go_wp2_with (at_builtin; refine wpList_append_own _ rfl _ _ 94 rfl w.heap.size 4 j0 _ 1 1 Tryd.underlying94 hj hy0 hy1 hy2 rfl (by decide) _ _ _ rfl (own_new 1 (Nat.le_refl _)) ⟨g, 0, none⟩ n c' (boolV x0 n) rfl (by simp [boolV]) (Hbr.out.news fun i hi => Below.cell (p := ⟨g, i, none⟩) (balloc (Below.refl w.heap.size w) (.cells #[] 4)) Hbr.out.1) (boolV_one _ _) (by simp only [maxLen]; omega) (by omega) (balloc (Below.refl w.heap.size w) _).size ?_; intro v' w1 hown hg1 hnil)
  have b1 : Below w.heap.size w w1 := (balloc (Below.refl w.heap.size w) _).grown hg1 (balloc (Below.refl w.heap.size w) _).size (fun x hx => (World.ownsRow.lt (own_new (w := w) (base := w.heap.size) (e := 4) 1 (Nat.le_refl _)) x hx).1)
  rw [Nat.zero_add, List.nil_append] at hown
  obtain ⟨g1, k1, rfl, hg', hbb⟩ := BB.of_own (fun hv => by have := hnil.1 hv; exact absurd this.1 (by intro hh; cases hh)) hown
  have HBB := Lib.hid hbb
  clear hown hnil hg1 hbb
  go_wp2_with fail
  go_loopg [6] (2 * (2 ^ n - x0) + 1) (fun gh s6 wx => ∃ (x : Nat) (ag : Bool), s6 = .bool ag ∧ gh = 2 * (2 ^ n - x) + (if ag then 1 else 0) ∧ x < 2 ^ n ∧ Aside (Way l x0 allW x) ∧ Aside (ag = false → Shut l allW x) ∧ Aside (BB g1 n x wx) ∧ Below w.heap.size w wx)
  case atStart => exact ⟨x0, true, rfl, rfl, HX0.out, Way.start _ _ _, fun h => absurd h (by decide), HBB.out, b1⟩
  case round =>
    obtain ⟨x, ag, rfl, hgh, hx, HW, HS, HB, hbx⟩ := hrel
    cases ag with
    | false =>
      have HX := Lib.hid (show Cl l x0 allW x from ⟨HW.out, HS.out rfl⟩)
      have HBx := Lib.hid HB.out
      go_wp2_with fail
      go_ret
      exact ⟨g1, ⟨k1, rfl⟩, x, HX.out, hx, HBx.out, hg', hbx⟩
    | true =>
      simp only [if_true] at hgh
      have Hbx := Lib.hid hbx
      have HB2 := Lib.hid HB.out
      clear hbx HS HB
      obtain ⟨W1, hW1⟩ : ∃ W1, W1 = wr := ⟨_, rfl⟩
      subst hW1
      go_wp2_with fail
      go_loopg [6, 7] l.length (fun gh s6 s7 wy => ∃ (k y : Nat) (ag : Bool), k + gh = l.length ∧ s6 = .bool ag ∧ s7 = .int .i64 k ∧ y < 2 ^ n ∧ x ≤ y ∧ Aside (ag = true → x < y) ∧ Aside (Way l x0 allW y) ∧ Aside (ag = false → Off l allW y k) ∧ Aside (BB g1 n y wy) ∧ Below w.heap.size w wy)
      case atStart => exact ⟨0, x, false, by omega, rfl, rfl, hx, Nat.le_refl _, fun h => absurd h (by decide), HW.out, fun _ j _ hj => absurd hj (Nat.not_lt_zero j), HB2.out, Hbx.out⟩
      case round =>
        clear Hbx HB2 HW
        obtain ⟨k, y, ag, hkg, rfl, rfl, hy, hxy, HM, HW, HK, HB, hby⟩ := hrel
        cases gk with
        | zero =>
          obtain rfl : k = l.length := by omega
          have HSh := Lib.hid (show ag = false → Shut l allW y from fun h => (HK.out h).all)
          have HBy := Lib.hid HB.out
          have hm := HM.out
          have HWy := Lib.hid HW.out
          clear HK HB HM HW
          go_wp2_with fail
          go_roundg (2 * (2 ^ n - y) + (if ag then 1 else 0))
          case measure =>
            cases ag with
            | false => simp; omega
            | true => have := hm rfl; simp; omega
          case rel => exact ⟨y, ag, rfl, rfl, hy, HWy.out, HSh.out, HBy.out, hby⟩
        | succ g2 =>
          have hkl : k < l.length := by omega
          obtain ⟨bb, off, A1, c1, rfl, hbB, e0, e1, i1⟩ := H.out k hkl
          have d0 := (hby.cell (p := ⟨bb, off + k * 2, none⟩) hbB).trans e0
          have d1 := (hby.cell (p := ⟨bb, off + k * 2 + 1, none⟩) hbB).trans e1
          obtain ⟨hset, ht0, htp⟩ := ruOk_mem (Hr.out l[k] (List.getElem_mem hkl))
          obtain ⟨t, ht⟩ := Int.eq_ofNat_of_zero_le ht0
          have hin : intL (natL l[k].1) = l[k].1 := int_nat fun x hx => (isS_mem hset x hx).1
          have hqn : ∀ q ∈ natL l[k].1, q < n := natL_lt (isS_mem hset)
          have hlen : l[k].1.length = (natL l[k].1).length := by rw [natL_length]
          have hl40 := Hl.out l[k] (List.getElem_mem hkl)
          have HOf := Lib.hid (fun (h : allB y (natL l[k].1) = true → allW l[k].2.toNat = true → y.testBit l[k].2.toNat = true) (ha : ag = false) => (HK.out ha).succ fun _ => h)
          have HSt := Lib.hid (fun (h1 : allB y (natL l[k].1) = true) => HW.out.step (List.getElem_mem hkl) h1 rfl)
          have htn : l[k].2.toNat = t := by rw [ht]; rfl
          rw [htn] at HOf HSt
          rw [← hin] at i1
          rw [hlen] at d0 hl40
          rw [ht] at d1 htp
          have htn' : t < n := by omega
          have HBy := Lib.hid HB.out
          have HMy := Lib.hid HM.out
          have HWy := Lib.hid HW.out
          have z0 := HB.out.cell htn'
          have z1 := HB.out.frozen t
          clear e0 e1 hset ht0 hin hlen htn ht HK HB HM HW
          generalize natL l[k].1 = L at i1 hqn d0 hl40 HOf HSt
          have ca := Lib.hid (all_ref g1 k1 y n A1 c1 w.heap.size L wr HBy.out.br (i1.below hby (Nat.le_refl _)) (by omega) hqn)
          have Hby := Lib.hid hby
          clear hby i1
          cases hyt : y.testBit t with
          | true =>
            rw [hyt] at z0 HOf
            have HO2 := Lib.hid (HOf.out fun _ _ => rfl)
            clear hyt ca HOf
            go_wp2_with fail
            go_roundg g2
            case measure => omega
            case rel => exact ⟨k + 1, y, ag, by omega, rfl, by go_num, hy, hxy, HMy.out, HWy.out, HO2.out, HBy.out, Hby.out⟩
          | false =>
            have hmore := or_more hyt
            rw [hyt] at z0
            cases ha : allB y L with
            | false =>
              rw [ha] at ca HOf
              have HO2 := Lib.hid (HOf.out fun h => absurd h (by decide))
              clear hyt HOf ha
              go_wp2_with (go_at_call 100; refine ca.out.mono ?_; rintro e w2 ⟨rfl, rfl⟩)
              go_roundg g2
              case measure => omega
              case rel => exact ⟨k + 1, y, ag, by omega, rfl, by go_num, hy, hxy, HMy.out, HWy.out, HO2.out, HBy.out, Hby.out⟩
            | true =>
              rw [ha] at ca
              have HS2 := Lib.hid (HSt.out ha)
              have hlt : y ||| 2 ^ t < 2 ^ n := Nat.or_lt_two_pow hy (Nat.pow_lt_pow_right (by decide) htn')
              have HBp := Lib.hid (HBy.out.put t)
              clear hyt HOf ha HSt
              generalize y ||| 2 ^ t = y' at hmore hlt HS2 HBp
              go_wp2_with (go_at_call 100; refine ca.out.mono ?_; rintro e w2 ⟨rfl, rfl⟩)
              go_roundg g2
              case measure => omega
              case rel => exact ⟨k + 1, y', true, by omega, rfl, by go_num, hlt, by omega, fun _ => by omega, HS2.out, fun h => absurd h (by decide), HBp.out, below_put Hby.out hg' _ _⟩
end Go.Proofs.YtgoojcjfhghmgaaDoor

/- Closure, Has. -/
namespace Go.Proofs.YtgoojcjfhghmgaaDoor
open Go.RowKit

theorem Cl.unique {l : List Ru} {m : Nat} {wb : Nat → Bool} {x y : Nat} (h : Cl l m wb x) (h' : Cl l m wb y) : x = y :=
  bits_eq (h.1.2 y h'.1.1 h'.2) (h'.1.2 x h.1.1 h.2)
/-- The error of a book and a set of properties. -/
def clE (b : Bk) (ps : List Int) : Int := if vlR b = 0 then (if isS ps b.p then 0 else 1) else vlR b
theorem cl_zero {b : Bk} {ps : List Int} (h : clE b ps = 0) : vlR b = 0 ∧ isS ps b.p = true := by
  unfold clE at h
  split at h
  · rename_i h0
    split at h
    · rename_i h1; exact ⟨h0, h1⟩
    · contradiction
  · contradiction
/-- What Closure returns. -/
def ClR (b : Bk) (ps : List Int) (base : Nat) (v : Value) (w : World) : Prop :=
  if clE b ps = 0 then ∃ x : Nat, Cl b.rus (mk (natL ps)) allW x ∧ x < 2 ^ b.p.toNat ∧ w.ownsRow base 3 1 v (bl x).length (natV (bl x)) else v = .slice none 0 0

set_option maxRecDepth 100000 in
set_option maxHeartbeats 4000000 in
theorem Closure_any (AI AR : Option Addr) (cI cR : Nat) (A : Option Addr) (c B : Nat) (b : Bk) (ps : List Int) (w : World) (hB : B ≤ w.heap.size) (h : ItsAt B w AI b.its) (h' : RusAt B w AR b.rus) (hi : IntsAt B w A ps) (hs : Short b) (hm : ps.length ≤ 60) (hT : Tab w) :
    Calls Tryd.prog 31 #[.agg #[.int .i64 b.p, .slice AI b.its.length cI, .slice AR b.rus.length cR], .slice A ps.length c] w fun e w' => ∃ v, e = .returned (.tuple #[v, .int .i64 (clE b ps)]) ∧ ClR b ps w.heap.size v w' ∧ Below w.heap.size w w' := by
  have hb0 := Blk.new w 25 #[.int .i64 b.p, .slice AI b.its.length cI, .slice AR b.rus.length cR]
  have hw0 : Below w.heap.size w (w.alloc (.cells #[.int .i64 b.p, .slice AI b.its.length cI, .slice AR b.rus.length cR] 25)) := (Below.refl _ _).alloc (Nat.le_refl _) _
  obtain ⟨W0, hW0⟩ : ∃ W0, W0 = w.alloc (.cells #[.int .i64 b.p, .slice AI b.its.length cI, .slice AR b.rus.length cR] 25) := ⟨_, rfl⟩
  rw [← hW0] at hb0 hw0
  have hlt : w.heap.size < W0.heap.size := hb0.lt
  have hI := (h.below (Below.refl _ _) hB).below hw0 (Nat.le_of_lt hlt)
  have hR := (h'.below (Below.refl _ _) hB).below hw0 (Nat.le_of_lt hlt)
  have hP := (hi.below (Below.refl _ _) hB).below hw0 (Nat.le_of_lt hlt)
  have hT0 := hT.below hw0 hT.2
  have cv := Lib.hid (Validate_any AI AR cI cR _ b W0 (Nat.le_refl _) hI hR hs)
  have cs := Lib.hid (fun W (hW : Below W0.heap.size W0 W) => isSet_any A c W0.heap.size ps b.p W hW.size (hP.below hW (Nat.le_refl _)) (by omega))
  have HE := Lib.hid (show clE b ps = if vlR b = 0 then (if isS ps b.p then 0 else 1) else vlR b from rfl)
  have HR := Lib.hid (fun v W => show ClR b ps w.heap.size v W ↔ (if clE b ps = 0 then ∃ x : Nat, Cl b.rus (mk (natL ps)) allW x ∧ x < 2 ^ b.p.toNat ∧ W.ownsRow w.heap.size 3 1 v (bl x).length (natV (bl x)) else v = .slice none 0 0) from Iff.rfl)
  have HB := Lib.hid hb0
  have Hw := Lib.hid hw0
  by_cases h0 : vlR b = 0
  · have hv := vl_zero h0
    rw [h0] at cv
    cases hset : isS ps b.p with
    | false =>
      have e1 : clE b ps = 1 := by rw [HE.out, if_pos h0, hset]; rfl
      have Hn := Lib.hid (fun v W (hv : v = Value.slice none 0 0) => (HR.out v W).2 (by rw [if_neg (by omega)]; exact hv))
      rw [hset] at cs
      rw [e1]
      clear h h' hi hs hI hR hP hb0 hw0 hT hT0 hv HE HR hset h0 e1 hB
      have tok := Lib.hid (Nat.le_refl 0)
      go_enter Tryd.func31, Tryd.ntmps31
      go_wp2_with (first
        | (have tk := tok; clear tok; go_at_call 20; rw [← hW0]; clear hW0; refine cv.out.mono ?_; rintro e w1 ⟨rfl, hd⟩; have hd1 := hd; have hx1 := HB.out.below hd1 hlt; have z0 := hx1.cell 0; have z1 := hx1.cell 1; have z2 := hx1.cell 2; have tok2 := tk; clear hd)
        | (have tk := tok2; clear tok2; go_at_call 59; refine (cs.out _ hd1).mono ?_; rintro e w2 ⟨rfl, hd2⟩; have hb2 := hd1.trans (hd2.mono hd1.size)))
      go_ret2
      exact ⟨_, rfl, Hn.out _ _ rfl, Hw.out.trans (hb2.mono Hw.out.size)⟩
    | true =>
      have e1 : clE b ps = 0 := by rw [HE.out, if_pos h0, hset]; rfl
      have hp := hv.p1
      have hp0 := hv.p0
      have hps : ∀ x ∈ ps, 0 ≤ x ∧ x < ((b.p.toNat : Nat) : Int) := fun x hx => by rw [Int.toNat_of_nonneg hp0]; exact isS_mem hset x hx
      have hin : intL (natL ps) = ps := int_nat fun x hx => (hps x hx).1
      have hlp := natL_lt hps
      have Hn := Lib.hid (fun v W x (h1 : Cl b.rus (mk (natL ps)) allW x) (h2 : x < 2 ^ b.p.toNat) (h3 : W.ownsRow w.heap.size 3 1 v (bl x).length (natV (bl x))) => (HR.out v W).2 (by rw [if_pos e1]; exact ⟨x, h1, h2, h3⟩))
      have cm0 := fun W (hW : Below W0.heap.size W0 W) => mask_any A c W0.heap.size (natL ps) W (by rw [hin]; exact hP.below hW (Nat.le_refl _)) (by rw [natL_length]; omega) (fun x hx => by have := hlp x hx; omega)
      rw [natL_length] at cm0
      have cm := Lib.hid cm0
      have cc := Lib.hid (fun W (hW : Below W0.heap.size W0 W) => closure_any AR cR W0.heap.size b.rus b.p.toNat (mk (natL ps)) (-1) allW W hW.size (hR.below hW (Nat.le_refl _)) hs.2.1 hs.2.2.2 (fun x hx => by have := hv.rules x hx; rwa [Int.toNat_of_nonneg hp0]) (by omega) (mk_lt hlp) minus_one)
      have Hp := Lib.hid (show ∀ x, x < 2 ^ b.p.toNat → x < 1152921504606846976 ∧ (bl x).length ≤ 1000 from fun x hx => ⟨Nat.lt_of_lt_of_le hx (Nat.le_trans (Nat.pow_le_pow_right (by decide) (show b.p.toNat ≤ 10 by omega)) (by decide)), Nat.le_trans (bl_short hx (by omega)) (by decide)⟩)
      have cl := Lib.hid (fun x (hx : x < 2 ^ b.p.toNat) W (hW : Below W0.heap.size W0 W) => list_any x (Hp.out x hx).1 W (hT0.below hW hT0.2) (Hp.out x hx).2)
      have HZ := Lib.hid (fun W (hW : Below W0.heap.size W0 W) => And.intro ((hb0.below hW hlt).cell 0) (And.intro ((hb0.below hW hlt).cell 1) ((hb0.below hW hlt).cell 2)))
      rw [hset] at cs
      rw [e1]
      clear h h' hi hs hI hR hP hb0 hw0 hT hT0 hv HE HR hset h0 e1 hB cm0 hlp hin hps Hp
      generalize mk (natL ps) = m at cm cc Hn
      have tok := Lib.hid (Nat.le_refl 0)
      go_enter Tryd.func31, Tryd.ntmps31
      go_wp2_with (first
        | (have tk := tok; clear tok; go_at_call 20; rw [← hW0]; clear hW0; refine cv.out.mono ?_; rintro e w1 ⟨rfl, hd⟩; have hd1 := hd; have hx1 := HB.out.below hd1 hlt; have z0 := hx1.cell 0; have z1 := hx1.cell 1; have z2 := hx1.cell 2; have tok2 := tk; clear hd)
        | (have tk := tok2; clear tok2; go_at_call 59; refine (cs.out _ hd1).mono ?_; rintro e w2 ⟨rfl, hd2⟩; have hb2 := hd1.trans (hd2.mono hd1.size); have tok3 := tk))
      clear z0 z1 z2 hx1 hd1 hd2
      have tk := tok3
      clear tok3
      have tok := tk
      clear tk
      go_region_held3 (fun W => W.cell? ⟨w.heap.size, 0, none⟩ = some (.int .i64 b.p) ∧ W.cell? ⟨w.heap.size, 1, none⟩ = some (.slice AI b.its.length cI) ∧ W.cell? ⟨w.heap.size, 2, none⟩ = some (.slice AR b.rus.length cR) ∧ Below W0.heap.size W0 W)
        ((refine keepB hlt ⟨HB.out.cell 0, HB.out.cell 1, HB.out.cell 2⟩ ?_; repeat (first | exact Below.refl _ _ | assumption | refine Below.drew ?_)))
        (first
          | (go_at_call 76; have tk := tok; clear tok; refine (cm.out _ (by repeat (first | exact Below.refl _ _ | assumption | refine Below.drew ?_))).mono ?_; rintro e w5 ⟨rfl, rfl⟩; have tok2 := tk)
          | (go_at_call 75; have tk := tok2; clear tok2; refine (cc.out _ (by repeat (first | exact Below.refl _ _ | assumption | refine Below.drew ?_))).mono ?_; rintro e w6 ⟨x, rfl, hcl, hxl, hd6⟩; have tok3 := tk; have hb6 : Below W0.heap.size W0 w6 := Below.trans (by repeat (first | exact Below.refl _ _ | assumption | refine Below.drew ?_)) (hd6.mono (Below.size (w := W0) (B := W0.heap.size) (by repeat (first | exact Below.refl _ _ | assumption | refine Below.drew ?_)))))
          | (go_at_call 65; have tk := tok3; clear tok3; refine (cl.out x hxl _ (by repeat (first | exact Below.refl _ _ | assumption | refine Below.drew ?_))).mono ?_; rintro e w7 ⟨v, rfl, ho7, hd7⟩; have hb7 : Below W0.heap.size W0 w7 := Below.trans (by repeat (first | exact Below.refl _ _ | assumption | refine Below.drew ?_)) (hd7.mono (Below.size (w := W0) (B := W0.heap.size) (by repeat (first | exact Below.refl _ _ | assumption | refine Below.drew ?_)))); have ho8 := own_base ho7 (Below.size (w := W0) (B := W0.heap.size) (by repeat (first | exact Below.refl _ _ | assumption | refine Below.drew ?_))); clear ho7))
      all_goals
        have HB7 := Lib.hid (Hw.out.trans (hb7.mono Hw.out.size))
        have HR7 := Lib.hid (Hn.out _ _ _ hcl hxl (own_base ho8 (Nat.le_of_lt hlt)))
        clear hcl hxl hb6 hb7 ho8
        go_wp2_with fail
        go_ret2
        exact ⟨_, rfl, HR7.out, HB7.out⟩
  · have e1 : clE b ps = vlR b := by rw [HE.out, if_neg h0]
    have Hn := Lib.hid (fun v W (hv : v = Value.slice none 0 0) => (HR.out v W).2 (by rw [if_neg (by rw [e1]; exact h0)]; exact hv))
    have he2 : (vlR b != 0) = true := by simpa using h0
    rw [e1]
    clear h h' hi hs hI hR hP hb0 hw0 hT hT0 HE HR h0 e1 hB
    generalize vlR b = e0 at *
    go_enter Tryd.func31, Tryd.ntmps31
    go_wp2_with (go_at_call 20; rw [← hW0]; clear hW0; refine cv.out.mono ?_; rintro e w1 ⟨rfl, hd⟩; have hx1 := HB.out.below hd hlt; have z0 := hx1.cell 0; have z1 := hx1.cell 1; have z2 := hx1.cell 2)
    go_ret2
    exact ⟨_, rfl, Hn.out _ _ rfl, Hw.out.trans (hd.mono Hw.out.size)⟩
end Go.Proofs.YtgoojcjfhghmgaaDoor

/- The reference's Closure. -/
namespace Go.Proofs.YtgoojcjfhghmgaaDoor
open Go.RowKit

set_option maxRecDepth 100000 in
set_option maxHeartbeats 4000000 in
theorem Closure_ref (AI AR : Option Addr) (cI cR : Nat) (A : Option Addr) (c B : Nat) (b : Bk) (ps : List Int) (w : World) (hB : B ≤ w.heap.size) (h : ItsAt B w AI b.its) (h' : RusAt B w AR b.rus) (hi : IntsAt B w A ps) (hs : Short b) (hm : ps.length ≤ 60) :
    Calls Tryd.prog 32 #[.agg #[.int .i64 b.p, .slice AI b.its.length cI, .slice AR b.rus.length cR], .slice A ps.length c] w fun e w' => ∃ v, e = .returned (.tuple #[v, .int .i64 (clE b ps)]) ∧ ClR b ps w.heap.size v w' ∧ Below w.heap.size w w' := by
  have hb0 := Blk.new w 25 #[.int .i64 b.p, .slice AI b.its.length cI, .slice AR b.rus.length cR]
  have hw0 : Below w.heap.size w (w.alloc (.cells #[.int .i64 b.p, .slice AI b.its.length cI, .slice AR b.rus.length cR] 25)) := (Below.refl _ _).alloc (Nat.le_refl _) _
  obtain ⟨W0, hW0⟩ : ∃ W0, W0 = w.alloc (.cells #[.int .i64 b.p, .slice AI b.its.length cI, .slice AR b.rus.length cR] 25) := ⟨_, rfl⟩
  rw [← hW0] at hb0 hw0
  have hlt : w.heap.size < W0.heap.size := hb0.lt
  have hI := (h.below (Below.refl _ _) hB).below hw0 (Nat.le_of_lt hlt)
  have hR := (h'.below (Below.refl _ _) hB).below hw0 (Nat.le_of_lt hlt)
  have hP := (hi.below (Below.refl _ _) hB).below hw0 (Nat.le_of_lt hlt)
  have cv := Lib.hid (Validate_ref AI AR cI cR _ b W0 (Nat.le_refl _) hI hR hs)
  have cs0 := fun W (hW : Below W0.heap.size W0 W) => IsSet_ref A c W0.heap.size ps (b.p - 1) W (hP.below hW (Nat.le_refl _)) (by omega)
  rw [show b.p - 1 + 1 = b.p by omega] at cs0
  have cs := Lib.hid cs0
  clear cs0
  have HE := Lib.hid (show clE b ps = if vlR b = 0 then (if isS ps b.p then 0 else 1) else vlR b from rfl)
  have HR := Lib.hid (fun v W => show ClR b ps w.heap.size v W ↔ (if clE b ps = 0 then ∃ x : Nat, Cl b.rus (mk (natL ps)) allW x ∧ x < 2 ^ b.p.toNat ∧ W.ownsRow w.heap.size 3 1 v (bl x).length (natV (bl x)) else v = .slice none 0 0) from Iff.rfl)
  have HB := Lib.hid hb0
  have Hw := Lib.hid hw0
  by_cases h0 : vlR b = 0
  · have hv := vl_zero h0
    rw [h0] at cv
    have jp : wrap64 (b.p - 1) = b.p - 1 := by have h1 := hv.p0; have h2 := hv.p1; unfold wrap64; omega
    cases hset : isS ps b.p with
    | false =>
      have e1 : clE b ps = 1 := by rw [HE.out, if_pos h0, hset]; rfl
      have Hn := Lib.hid (fun v W (hv : v = Value.slice none 0 0) => (HR.out v W).2 (by rw [if_neg (by omega)]; exact hv))
      rw [hset] at cs
      rw [e1]
      clear h h' hi hs hI hR hP hb0 hw0 hv HE HR hset h0 e1 hB
      have tok := Lib.hid (Nat.le_refl 0)
      go_enter Tryd.func32, Tryd.ntmps32
      go_wp2_with (first
        | (have tk := tok; clear tok; go_at_call 21; rw [← hW0]; clear hW0; refine cv.out.mono ?_; rintro e w1 ⟨rfl, hd⟩; have hd1 := hd; have hx1 := HB.out.below hd1 hlt; have z0 := hx1.cell 0; have z1 := hx1.cell 1; have z2 := hx1.cell 2; have tok2 := tk; clear hd)
        | (have tk := tok2; clear tok2; go_at_call 61; (try rw [jp]); refine (cs.out _ hd1).mono ?_; rintro e w2 ⟨rfl, hd2⟩; have hb2 := hd1.trans (hd2.below _)))
      go_ret2
      exact ⟨_, rfl, Hn.out _ _ rfl, Hw.out.trans (hb2.mono Hw.out.size)⟩
    | true =>
      have e1 : clE b ps = 0 := by rw [HE.out, if_pos h0, hset]; rfl
      have hp := hv.p1
      have hp0 := hv.p0
      have hps : ∀ x ∈ ps, 0 ≤ x ∧ x < ((b.p.toNat : Nat) : Int) := fun x hx => by rw [Int.toNat_of_nonneg hp0]; exact isS_mem hset x hx
      have hin : intL (natL ps) = ps := int_nat fun x hx => (hps x hx).1
      have hlp := natL_lt hps
      have Hn := Lib.hid (fun v W x (h1 : Cl b.rus (mk (natL ps)) allW x) (h2 : x < 2 ^ b.p.toNat) (h3 : W.ownsRow w.heap.size 3 1 v (bl x).length (natV (bl x))) => (HR.out v W).2 (by rw [if_pos e1]; exact ⟨x, h1, h2, h3⟩))
      have cm0 := fun W (hW : Below W0.heap.size W0 W) => marks_ref A c W0.heap.size (natL ps) b.p.toNat W hW.size (by rw [hin]; exact hP.below hW (Nat.le_refl _)) (by rw [natL_length]; omega) hlp (by omega)
      rw [natL_length, Int.toNat_of_nonneg hp0] at cm0
      have cm := Lib.hid cm0
      have cc := Lib.hid (fun g0 W (hW : Below W0.heap.size W0 W) (hbr : BR g0 b.p.toNat (mk (natL ps)) W) => closed_ref AR cR W0.heap.size g0 b.p.toNat b.p.toNat (mk (natL ps)) b.rus W hW.size (hR.below hW (Nat.le_refl _)) hbr hs.2.1 hs.2.2.2 (fun x hx => by have := hv.rules x hx; rwa [Int.toNat_of_nonneg hp0]) (by omega) (mk_lt hlp))
      have cl := Lib.hid (fun g0 c0 x (hx : x < 2 ^ b.p.toNat) W (hbr : BR g0 b.p.toNat x W) => places_ref g0 c0 x b.p.toNat W hbr (by omega) hx)
      have HZ := Lib.hid (fun W (hW : Below W0.heap.size W0 W) => And.intro ((hb0.below hW hlt).cell 0) (And.intro ((hb0.below hW hlt).cell 1) ((hb0.below hW hlt).cell 2)))
      rw [hset] at cs
      rw [e1]
      clear h h' hi hs hI hR hP hb0 hw0 hv HE HR hset h0 e1 hB cm0 hlp hin hps
      generalize mk (natL ps) = m at cm cc Hn
      have tok := Lib.hid (Nat.le_refl 0)
      go_enter Tryd.func32, Tryd.ntmps32
      go_wp2_with (first
        | (have tk := tok; clear tok; go_at_call 21; rw [← hW0]; clear hW0; refine cv.out.mono ?_; rintro e w1 ⟨rfl, hd⟩; have hd1 := hd; have hx1 := HB.out.below hd1 hlt; have z0 := hx1.cell 0; have z1 := hx1.cell 1; have z2 := hx1.cell 2; have tok2 := tk; clear hd)
        | (have tk := tok2; clear tok2; go_at_call 61; (try rw [jp]); refine (cs.out _ hd1).mono ?_; rintro e w2 ⟨rfl, hd2⟩; have hb2 := hd1.trans (hd2.below _); have tok3 := tk))
      clear z0 z1 z2 hx1 hd1 hd2 jp
      have tk := tok3
      clear tok3
      have tok := tk
      clear tk
      go_region_held3 (fun W => W.cell? ⟨w.heap.size, 0, none⟩ = some (.int .i64 b.p) ∧ W.cell? ⟨w.heap.size, 1, none⟩ = some (.slice AI b.its.length cI) ∧ W.cell? ⟨w.heap.size, 2, none⟩ = some (.slice AR b.rus.length cR) ∧ Below W0.heap.size W0 W)
        ((refine keepB hlt ⟨HB.out.cell 0, HB.out.cell 1, HB.out.cell 2⟩ ?_; repeat (first | exact Below.refl _ _ | assumption | refine Below.drew ?_)))
        (first
          | (go_at_call 77; have tk := tok; clear tok; refine (cm.out _ (by repeat (first | exact Below.refl _ _ | assumption | refine Below.drew ?_))).mono ?_; rintro e w5 ⟨rfl, hbb5, hd5⟩; have tok2 := tk; have hb5 : Below W0.heap.size W0 w5 := Below.trans (by repeat (first | exact Below.refl _ _ | assumption | refine Below.drew ?_)) (hd5.mono (Below.size (w := W0) (B := W0.heap.size) (by repeat (first | exact Below.refl _ _ | assumption | refine Below.drew ?_)))))
          | (go_at_call 73; have tk := tok2; clear tok2; refine (cc.out _ _ (by repeat (first | exact Below.refl _ _ | assumption | refine Below.drew ?_)) (BR.below (B := w5.heap.size) hbb5.br (by repeat (first | exact Below.refl _ _ | assumption | refine Below.drew ?_)) hbb5.lt)).mono ?_; rintro e w6 ⟨g6, k6, x, rfl, hcl, hxl, hbb6, hg6, hd6⟩; have tok3 := tk; have hb6 : Below W0.heap.size W0 w6 := Below.trans (by repeat (first | exact Below.refl _ _ | assumption | refine Below.drew ?_)) (hd6.mono (Below.size (w := W0) (B := W0.heap.size) (by repeat (first | exact Below.refl _ _ | assumption | refine Below.drew ?_)))))
          | (go_at_call 70; have tk := tok3; clear tok3; refine (cl.out _ _ x hxl _ (BR.below (B := w6.heap.size) hbb6.br (by repeat (first | exact Below.refl _ _ | assumption | refine Below.drew ?_)) hbb6.lt)).mono ?_; rintro e w7 ⟨v, rfl, ho7, hd7⟩; have hb7 : Below W0.heap.size W0 w7 := Below.trans (by repeat (first | exact Below.refl _ _ | assumption | refine Below.drew ?_)) (hd7.mono (Below.size (w := W0) (B := W0.heap.size) (by repeat (first | exact Below.refl _ _ | assumption | refine Below.drew ?_)))); have ho8 := own_base ho7 (Below.size (w := W0) (B := W0.heap.size) (by repeat (first | exact Below.refl _ _ | assumption | refine Below.drew ?_))); clear ho7))
      all_goals
        have HB7 := Lib.hid (Hw.out.trans (hb7.mono Hw.out.size))
        have HR7 := Lib.hid (Hn.out _ _ _ hcl hxl (own_base ho8 (Nat.le_of_lt hlt)))
        clear hcl hxl hb6 hb7 ho8
        go_wp2_with fail
        go_ret2
        exact ⟨_, rfl, HR7.out, HB7.out⟩
  · have e1 : clE b ps = vlR b := by rw [HE.out, if_neg h0]
    have Hn := Lib.hid (fun v W (hv : v = Value.slice none 0 0) => (HR.out v W).2 (by rw [if_neg (by rw [e1]; exact h0)]; exact hv))
    have he2 : (vlR b != 0) = true := by simpa using h0
    rw [e1]
    clear h h' hi hs hI hR hP hb0 hw0 HE HR h0 e1 hB
    generalize vlR b = e0 at *
    go_enter Tryd.func32, Tryd.ntmps32
    go_wp2_with (go_at_call 21; rw [← hW0]; clear hW0; refine cv.out.mono ?_; rintro e w1 ⟨rfl, hd⟩; have hx1 := HB.out.below hd hlt; have z0 := hx1.cell 0; have z1 := hx1.cell 1; have z2 := hx1.cell 2)
    go_ret2
    exact ⟨_, rfl, Hn.out _ _ rfl, Hw.out.trans (hd.mono Hw.out.size)⟩
end Go.Proofs.YtgoojcjfhghmgaaDoor

/- Has; the law of closures. -/
namespace Go.Proofs.YtgoojcjfhghmgaaDoor
open Go.RowKit

set_option maxRecDepth 100000 in
set_option maxHeartbeats 1000000 in
theorem Has_ref (A : Option Addr) (c B : Nat) (l : List Int) (n : Int) (w : World) (h : IntsAt B w A l) (hm : l.length ≤ 1000) :
    Calls Tryd.prog 30 #[.slice A l.length c, .int .i64 n] w fun e w' => e = .returned (.bool (l.contains n)) ∧ w' = w := by
  have Hbad := Lib.hid (fun (hx : ∀ j (hj : j < l.length), l[j] ≠ n) => show l.contains n = false from by
    cases hc : l.contains n with
    | false => rfl
    | true =>
      obtain ⟨j, hj, he⟩ := List.getElem_of_mem (List.contains_iff_mem.1 hc)
      exact absurd he (hx j hj))
  have Hgood := Lib.hid (fun k (hk : k < l.length) (hx : l[k] = n) => show l.contains n = true from List.contains_iff_mem.2 (by rw [← hx]; exact List.getElem_mem hk))
  generalize l.contains n = r at Hbad Hgood ⊢
  go_enter Tryd.func30, Tryd.ntmps30
  go_wp2_with fail
  go_loop [5] (fun i => ∃ k : Nat, k ≤ l.length ∧ i = .int .i64 k ∧ ∀ j (hj : j < l.length), j < k → l[j] ≠ n) (fun i => l.length - (intOf i).toNat)
  case atStart => exact ⟨0, Nat.zero_le _, rfl, fun j _ hk => absurd hk (Nat.not_lt_zero j)⟩
  case round =>
    obtain ⟨k, hk, rfl, hn⟩ := hrel
    have Hn := Lib.hid hn
    clear hn
    by_cases hlt : k < l.length
    · obtain ⟨b, off, rfl, hbB, c0⟩ := h.at hlt
      have Hg1 := Lib.hid (fun (hx : l[k] = n) => Hgood.out k hlt hx)
      have Hg2 := Lib.hid (fun hx : l[k] ≠ n => show ∀ j (hj : j < l.length), j < k + 1 → l[j] ≠ n from fun j hj hjk => by
        by_cases e : j = k
        · subst e; exact hx
        · exact Hn.out j hj (by omega))
      clear Hbad Hgood Hn
      generalize l[k] = y at c0 Hg1 Hg2
      by_cases he : y = n
      · have he1 : (y == n) = true := by simpa using he
        have Hr := Lib.hid (Hg1.out he)
        clear he Hg1 Hg2
        go_wp2_with fail
        go_ret
        exact ⟨by rw [Hr.out]; rfl, rfl⟩
      · have he1 : (y == n) = false := by simpa using he
        have Hr := Lib.hid (Hg2.out he)
        clear he Hg1 Hg2
        go_wp2_with fail
        go_round
        case rel => exact ⟨k + 1, by omega, by go_num, Hr.out⟩
        case measure => simp [intOf]; omega
    · obtain rfl : k = l.length := by omega
      have Hr := Lib.hid (Hbad.out fun j hj => Hn.out j hj hj)
      clear Hbad Hgood Hn
      go_wp2_with fail
      go_ret
      exact ⟨by rw [Hr.out]; rfl, rfl⟩

/-- The list of a closure. -/
def ClL (b : Bk) (ps L : List Int) : Prop := if clE b ps = 0 then ∃ x : Nat, Cl b.rus (mk (natL ps)) allW x ∧ x < 2 ^ b.p.toNat ∧ b.p.toNat ≤ 10 ∧ L = intL (bl x) else L = []
theorem ClR.ints {b : Bk} {ps : List Int} {base : Nat} {v : Value} {W : World} (h : ClR b ps base v W) : ∃ L A c, v = .slice A (List.length L) c ∧ IntsAt W.heap.size W A L ∧ ClL b ps L := by
  unfold ClR at h
  split at h
  · rename_i h0
    obtain ⟨x, h1, h2, h3⟩ := h
    obtain ⟨A, c, e, i⟩ := IntsAt.of_nat h3
    have := (vl_zero (cl_zero h0).1).p1
    exact ⟨_, A, c, e, i, by rw [ClL, if_pos h0]; exact ⟨x, h1, h2, by omega, rfl⟩⟩
  · rename_i h0
    exact ⟨[], none, 0, h, IntsAt.nil _ _ _, by rw [ClL, if_neg h0]⟩
theorem ClL.unique {b : Bk} {ps L L' : List Int} (h : ClL b ps L) (h' : ClL b ps L') : L = L' := by
  unfold ClL at h h'
  split at h
  · obtain ⟨x, h1, h2, h3, rfl⟩ := h
    rename_i h0
    rw [if_pos h0] at h'
    obtain ⟨y, g1, g2, g3, rfl⟩ := h'
    rw [h1.unique g1]
  · rename_i h0
    rw [if_neg h0] at h'
    rw [h, h']
theorem ClL.short {b : Bk} {ps L : List Int} (h : ClL b ps L) : L.length ≤ 10 := by
  unfold ClL at h
  split at h
  · obtain ⟨x, h1, h2, h3, rfl⟩ := h
    have := bl_short h2 h3
    simpa [intL] using this
  · rw [h]; simp
theorem mk_mem {ps : List Int} {q : Int} (hq : q ∈ ps) : (mk (natL ps)).testBit q.toNat = true := by
  rw [mk_bit, List.contains_iff_mem]
  exact List.mem_map.2 ⟨q, hq, rfl⟩
theorem mem_intL {l : List Nat} {q : Int} (h0 : 0 ≤ q) : q ∈ intL l ↔ q.toNat ∈ l := by
  unfold intL
  rw [List.mem_map]
  constructor
  · rintro ⟨x, hx, rfl⟩; simpa using hx
  · exact fun h => ⟨q.toNat, h, Int.toNat_of_nonneg h0⟩
theorem p64 {x p : Nat} (hx : x < 2 ^ p) (hp : p ≤ 10) : x < 18446744073709551616 := Nat.lt_of_lt_of_le hx (Nat.le_trans (Nat.pow_le_pow_right (by decide) hp) (by decide))
theorem ClL.has {b : Bk} {ps L : List Int} (h : ClL b ps L) (h0 : clE b ps = 0) : ∀ q ∈ ps, L.contains q = true := by
  intro q hq
  rw [ClL, if_pos h0] at h
  obtain ⟨x, h1, h2, h3, rfl⟩ := h
  have hset := (cl_zero h0).2
  have hnn : ∀ y ∈ ps, 0 ≤ y := fun y hy => (isS_mem hset y hy).1
  rw [List.contains_iff_mem, mem_intL (hnn q hq), mem_bl x (p64 h2 h3)]
  exact h1.1.1 _ (mk_mem hq)
theorem mk_bl {x p : Nat} (hx : x < 2 ^ p) (hp : p ≤ 10) : mk (bl x) = x := by
  apply Nat.eq_of_testBit_eq
  intro i
  rw [mk_bit, Bool.eq_iff_iff, List.contains_iff_mem, mem_bl x (p64 hx hp)]
theorem natL_intL (l : List Nat) : natL (intL l) = l := by
  unfold natL intL
  rw [List.map_map]
  conv => rhs; rw [← List.map_id l]
  exact List.map_congr_left fun x _ => by simp
theorem isS_bl {x p : Nat} {q : Int} (hx : x < 2 ^ p) (hp : p ≤ 10) (hq : (p : Int) = q) : isS (intL (bl x)) q = true := by
  unfold isS
  rw [Bool.and_eq_true, decide_eq_true_eq, List.all_eq_true]
  constructor
  · unfold intL
    rw [List.pairwise_map]
    exact (bl_asc x (p64 hx hp)).imp fun h => by omega
  · intro z hz
    unfold intL at hz
    obtain ⟨y, hy, rfl⟩ := List.mem_map.1 hz
    have := bl_lt hx (by omega) hy
    rw [decide_eq_true_eq]
    omega
theorem ClL.again {b : Bk} {ps L : List Int} (h : ClL b ps L) (h0 : clE b ps = 0) : clE b L = 0 ∧ ∀ L', ClL b L L' → L' = L := by
  rw [ClL, if_pos h0] at h
  obtain ⟨x, h1, h2, h3, rfl⟩ := h
  have hv := (cl_zero h0).1
  have hp0 := (vl_zero hv).p0
  have e1 : clE b (intL (bl x)) = 0 := by rw [clE, if_pos hv, isS_bl h2 h3 (by omega)]; rfl
  refine ⟨e1, fun L' h' => ?_⟩
  rw [ClL, if_pos e1, natL_intL, mk_bl h2 h3] at h'
  obtain ⟨y, g1, g2, g3, rfl⟩ := h'
  have : Cl b.rus x allW x := ⟨Way.start _ _ _, h1.2⟩
  rw [g1.unique this]

set_option maxRecDepth 100000 in
set_option maxHeartbeats 4000000 in
theorem law_closes (AI AR : Option Addr) (cI cR : Nat) (A : Option Addr) (c : Nat) (b : Bk) (ps : List Int) (w : World) (h : ItsAt w.heap.size w AI b.its) (h' : RusAt w.heap.size w AR b.rus) (hi : IntsAt w.heap.size w A ps) (hT : Tab w) :
    Calls Tryd.prog 6 #[.agg #[.int .i64 b.p, .slice AI b.its.length cI, .slice AR b.rus.length cR], .slice A ps.length c] w fun e w' => e = .returned (.bool true) ∧ Below w.heap.size w w' := by
  have hb0 := Blk.new w 25 #[.int .i64 b.p, .slice AI b.its.length cI, .slice AR b.rus.length cR]
  have hw0 : Below w.heap.size w (w.alloc (.cells #[.int .i64 b.p, .slice AI b.its.length cI, .slice AR b.rus.length cR] 25)) := (Below.refl _ _).alloc (Nat.le_refl _) _
  obtain ⟨W0, hW0⟩ : ∃ W0, W0 = w.alloc (.cells #[.int .i64 b.p, .slice AI b.its.length cI, .slice AR b.rus.length cR] 25) := ⟨_, rfl⟩
  rw [← hW0] at hb0 hw0
  have hlt : w.heap.size < W0.heap.size := hb0.lt
  have hI := h.below hw0 (Nat.le_of_lt hlt)
  have hR := h'.below hw0 (Nat.le_of_lt hlt)
  have hP := hi.below hw0 (Nat.le_of_lt hlt)
  have hT0 := hT.below hw0 hT.2
  have clg := Lib.hid (Long_any AI AR cI cR _ b W0 (Nat.le_refl _) hI hR)
  have ck := Lib.hid (fun W (hW : Below W0.heap.size W0 W) => known_any W (hT0.below hW hT0.2))
  have Hw := Lib.hid hw0
  have HX := Lib.hid (fun W (hW : Below W0.heap.size W0 W) => blk3 (hb0.below hW hlt))
  have tok := Lib.hid (Nat.le_refl 0)
  cases hlg : lgR b with
  | true =>
    rw [hlg] at clg
    clear h h' hi hI hR hP hT hT0 hb0 hw0 hlg
    go_enter Tryd.func6, Tryd.ntmps6
    go_wp2_with (first
      | (have tk := tok; clear tok; go_at_call 17; rw [← hW0]; clear hW0; refine clg.out.mono ?_; rintro e w1 ⟨rfl, hd1⟩; have tok2 := tk; obtain ⟨z0, z1, z2, _⟩ := HX.out _ hd1)
      | (have tk := tok2; clear tok2; go_at_call 18; refine (ck.out _ hd1).mono ?_; rintro e w2 ⟨rfl, hd2⟩; have hb2 := hd1.trans (hd2.mono hd1.size)))
    go_ret
    exact ⟨rfl, Hw.out.trans (hb2.mono Hw.out.size)⟩
  | false =>
    rw [hlg] at clg
    by_cases h60 : 60 < ps.length
    · have hld : decide ((60 : Int) < (ps.length : Int)) = true := by simp; omega
      clear h h' hi hI hR hP hT hT0 hb0 hw0 hlg
      go_enter Tryd.func6, Tryd.ntmps6
      go_wp2_with (first
        | (have tk := tok; clear tok; go_at_call 17; rw [← hW0]; clear hW0; refine clg.out.mono ?_; rintro e w1 ⟨rfl, hd1⟩; have tok2 := tk; obtain ⟨z0, z1, z2, _⟩ := HX.out _ hd1)
        | (have tk := tok2; clear tok2; go_at_call 18; refine (ck.out _ hd1).mono ?_; rintro e w2 ⟨rfl, hd2⟩; have hb2 := hd1.trans (hd2.mono hd1.size)))
      go_ret
      exact ⟨rfl, Hw.out.trans (hb2.mono Hw.out.size)⟩
    · have hld : decide ((60 : Int) < (ps.length : Int)) = false := by simp; omega
      have hs := lg_short hlg
      have c1 := Lib.hid (fun W (hW : Below W0.heap.size W0 W) => Closure_any AI AR cI cR A c W0.heap.size b ps W hW.size (hI.below hW (Nat.le_refl _)) (hR.below hW (Nat.le_refl _)) (hP.below hW (Nat.le_refl _)) hs (by omega) (hT0.below hW hT0.2))
      have c2 := Lib.hid (fun W (hW : Below W0.heap.size W0 W) => Closure_ref AI AR cI cR A c W0.heap.size b ps W hW.size (hI.below hW (Nat.le_refl _)) (hR.below hW (Nat.le_refl _)) (hP.below hW (Nat.le_refl _)) hs (by omega))
      have c3 := Lib.hid (fun A' c' B' L W (hW : Below W0.heap.size W0 W) (hB' : B' ≤ W.heap.size) (i' : IntsAt B' W A' L) (hL : L.length ≤ 60) => Closure_any AI AR cI cR A' c' W.heap.size b L W (Nat.le_refl _) (hI.below hW hW.size) (hR.below hW hW.size) (i'.below (Below.refl _ _) hB') hs hL (hT0.below hW hT0.2))
      have HPs := Lib.hid hP
      have Hrefl := Lib.hid (Below.refl W0.heap.size W0)
      clear h h' hi hI hR hP hT hT0 hb0 hw0 hlg hs
      by_cases h0 : clE b ps = 0
      · have Ha := Lib.hid (fun L (hL : ClL b ps L) => And.intro (hL.has h0) (hL.again h0))
        rw [h0] at c1 c2
        clear h0
        go_enter Tryd.func6, Tryd.ntmps6
        go_wp2_with (first
          | (have tk := tok; clear tok; go_at_call 17; rw [← hW0]; clear hW0; refine clg.out.mono ?_; rintro e w1 ⟨rfl, hd1⟩; have tok2 := tk; obtain ⟨z0, z1, z2, _⟩ := HX.out _ hd1)
          | (have tk := tok2; clear tok2; go_at_call 31; refine (c1.out _ hd1).mono ?_; rintro e w2 ⟨v2, rfl, hv2, hd⟩; have hb2 := hd1.trans (hd.mono hd1.size); obtain ⟨L2, A2, k2, rfl, i2, hL2⟩ := hv2.ints; have tok3 := tk; clear hd hv2 z0 z1 z2; obtain ⟨z0, z1, z2, _⟩ := HX.out _ hb2)
          | (have tk := tok3; clear tok3; go_at_call 32; refine (c2.out _ hb2).mono ?_; rintro e w3 ⟨v3, rfl, hv3, hd⟩; have hb3 := hb2.trans (hd.mono hb2.size); obtain ⟨L3, A3, k3, rfl, i3, hL3⟩ := hv3.ints; have e23 := hL2.unique hL3; subst e23; have i2' := i2.below hd hd.size; have tok4 := tk; clear hd hv3 z0 z1 z2; obtain ⟨z0, z1, z2, _⟩ := HX.out _ hb3)
          | (have tk := tok4; clear tok4; go_at_call 25; refine (sameInts_ref A2 A3 k2 k3 _ L2 L2 _ i2' i3 (by have := hL2.short; omega)).mono ?_; rintro e w4 ⟨rfl, hd⟩; have hb4 := hb3.trans (hd.below _); have i4 := i2'.below (hd.below w3.heap.size) (hd.below w3.heap.size).size; have tok5 := tk; clear hd i2' i3 z0 z1 z2; obtain ⟨z0, z1, z2, _⟩ := HX.out _ hb4))
        obtain ⟨hhas, hcl0, hag⟩ := Ha.out L2 hL2
        have Hhas := Lib.hid hhas
        have Hag := Lib.hid hag
        have hsh := hL2.short
        have I4 := Lib.hid i4
        clear Ha hhas hag hL2 hL3 i4
        go_loop [9] (fun i => ∃ k : Nat, k ≤ ps.length ∧ i = .int .i64 k) (fun i => ps.length - (intOf i).toNat)
        case atStart => exact ⟨0, Nat.zero_le _, rfl⟩
        case round =>
          obtain ⟨k, hk, rfl⟩ := hrel
          by_cases hlt2 : k < ps.length
          · obtain ⟨bb, off, rfl, hbB, q0⟩ := HPs.out.at hlt2
            have q1 := (hb4.cell (p := ⟨bb, off + k, none⟩) hbB).trans q0
            have hc := Has_ref A2 k2 _ L2 ps[k] w4 I4.out (by omega)
            rw [Hhas.out ps[k] (List.getElem_mem hlt2)] at hc
            have Hc := Lib.hid hc
            clear hc q0
            generalize ps[k] = y at q1 Hc
            go_wp2_with (go_at_call 30; refine Hc.out.mono ?_; rintro e w5 ⟨rfl, rfl⟩)
            go_round
            case rel => exact ⟨k + 1, by omega, by go_num⟩
            case measure => simp [intOf]; omega
          · have c5 := Lib.hid (c3.out A2 k2 _ L2 w4 hb4 (Nat.le_refl _) (I4.out.below (Below.refl _ _) (by first | exact Nat.le_refl _ | exact Below.size (w := w3) (B := w3.heap.size) (by assumption))) (by omega))
            rw [hcl0] at c5
            go_wp2_with (first
              | (have tk := tok5; clear tok5; go_at_call 31; refine c5.out.mono ?_; rintro e w5 ⟨v5, rfl, hv5, hd⟩; have hb5 := hb4.trans (hd.mono hb4.size); obtain ⟨L5, A5, k5, rfl, i5, hL5⟩ := hv5.ints; have e25 := Hag.out _ hL5; subst e25; have i6 := I4.out.below hd hd.size; have tok6 := tk; clear hd hv5)
              | (have tk := tok6; clear tok6; go_at_call 25; refine (sameInts_ref A5 A2 k5 k2 _ L5 L5 _ i5 i6 (by omega)).mono ?_; rintro e w6 ⟨rfl, hd⟩; have hb6 := hb5.trans (hd.below _); have tok7 := tk; clear hd)
              | (have tk := tok7; clear tok7; go_at_call 18; refine (ck.out _ hb6).mono ?_; rintro e w7 ⟨rfl, hd⟩; have hb7 := hb6.trans (hd.mono hb6.size); clear hd))
            go_ret
            exact ⟨rfl, Hw.out.trans (hb7.mono Hw.out.size)⟩
      · have he2 : (clE b ps != 0) = true := by simpa using h0
        generalize clE b ps = e0 at c1 c2 he2
        clear h0 c3
        go_enter Tryd.func6, Tryd.ntmps6
        go_wp2_with (first
          | (have tk := tok; clear tok; go_at_call 17; rw [← hW0]; clear hW0; refine clg.out.mono ?_; rintro e w1 ⟨rfl, hd1⟩; have tok2 := tk; obtain ⟨z0, z1, z2, _⟩ := HX.out _ hd1)
          | (have tk := tok2; clear tok2; go_at_call 31; refine (c1.out _ hd1).mono ?_; rintro e w2 ⟨v2, rfl, hv2, hd⟩; have hb2 := hd1.trans (hd.mono hd1.size); obtain ⟨L2, A2, k2, rfl, i2, hL2⟩ := hv2.ints; have tok3 := tk; clear hd hv2 z0 z1 z2; obtain ⟨z0, z1, z2, _⟩ := HX.out _ hb2)
          | (have tk := tok3; clear tok3; go_at_call 32; refine (c2.out _ hb2).mono ?_; rintro e w3 ⟨v3, rfl, hv3, hd⟩; have hb3 := hb2.trans (hd.mono hb2.size); obtain ⟨L3, A3, k3, rfl, i3, hL3⟩ := hv3.ints; have e23 := hL2.unique hL3; subst e23; have i2' := i2.below hd hd.size; have tok4 := tk; clear hd hv3 z0 z1 z2)
          | (have tk := tok4; clear tok4; go_at_call 25; refine (sameInts_ref A2 A3 k2 k3 _ L2 L2 _ i2' i3 (by have := hL2.short; omega)).mono ?_; rintro e w4 ⟨rfl, hd⟩; have hb4 := hb3.trans (hd.below _); have tok5 := tk; clear hd)
          | (have tk := tok5; clear tok5; go_at_call 18; refine (ck.out _ hb4).mono ?_; rintro e w5 ⟨rfl, hd⟩; have hb5 := hb4.trans (hd.mono hb4.size); clear hd))
        go_ret
        exact ⟨rfl, Hw.out.trans (hb5.mono Hw.out.size)⟩
end Go.Proofs.YtgoojcjfhghmgaaDoor
