/- The closure of a set. -/
import Derived.Test.YtgoojcjfhghmgaaDoorDisL
import Derived.Deep.LoopGhost
namespace Go.Proofs.YtgoojcjfhghmgaaDoor
open Go.RowKit

def allB (x : Nat) (l : List Nat) : Bool := l.all fun q => x.testBit q
def Shut (l : List Ru) (wb : Nat → Bool) (x : Nat) : Prop := ∀ r ∈ l, allB x (natL r.1) = true → wb r.2.toNat = true → x.testBit r.2.toNat = true
def Sub (x y : Nat) : Prop := ∀ q, x.testBit q = true → y.testBit q = true
/-- On the way to the closure. -/
def Way (l : List Ru) (m : Nat) (wb : Nat → Bool) (x : Nat) : Prop := Sub m x ∧ ∀ y, Sub m y → Shut l wb y → Sub x y
/-- The closure of a set within a set. -/
def Cl (l : List Ru) (m : Nat) (wb : Nat → Bool) (x : Nat) : Prop := Way l m wb x ∧ Shut l wb x
theorem Way.start (l : List Ru) (m : Nat) (wb : Nat → Bool) : Way l m wb m := ⟨fun _ h => h, fun _ h _ => h⟩
theorem allB_sub {x y : Nat} (h : Sub x y) {l : List Nat} (ha : allB x l = true) : allB y l = true := by
  simp only [allB, List.all_eq_true] at ha ⊢
  exact fun q hq => h q (ha q hq)
theorem Way.step {l : List Ru} {m : Nat} {wb : Nat → Bool} {x : Nat} (h : Way l m wb x) {r : Ru} (hr : r ∈ l) (ha : allB x (natL r.1) = true) (hw : wb r.2.toNat = true) : Way l m wb (x ||| 2 ^ r.2.toNat) := by
  refine ⟨fun q hq => by rw [Nat.testBit_or, h.1 q hq]; rfl, fun y hy hs q hq => ?_⟩
  have hxy := h.2 y hy hs
  rw [Nat.testBit_or, Bool.or_eq_true] at hq
  rcases hq with hq | hq
  · exact hxy q hq
  · rw [Nat.testBit_two_pow, decide_eq_true_eq] at hq
    subst hq
    exact hs r hr (allB_sub hxy ha) hw
theorem or_more {x t : Nat} (h : x.testBit t = false) : x < x ||| 2 ^ t := by
  refine Nat.lt_of_le_of_ne Nat.left_le_or fun e => ?_
  have : (x ||| 2 ^ t).testBit t = true := by simp [Nat.testBit_or]
  rw [← e, h] at this
  exact absurd this (by decide)
theorem ruOk_mem {p : Int} {x : Ru} (h : ruOk p x = true) : isS x.1 p = true ∧ 0 ≤ x.2 ∧ x.2 < p := by
  simp only [ruOk, Bool.and_eq_true, decide_eq_true_eq] at h
  exact ⟨h.1.1, h.1.2, h.2⟩
/-- The rule with number k does not apply. -/
def Off (l : List Ru) (wb : Nat → Bool) (x k : Nat) : Prop := ∀ j (hj : j < l.length), j < k → allB x (natL l[j].1) = true → wb l[j].2.toNat = true → x.testBit l[j].2.toNat = true
theorem Off.all {l : List Ru} {wb : Nat → Bool} {x : Nat} (h : Off l wb x l.length) : Shut l wb x := fun r hr => by
  obtain ⟨j, hj, rfl⟩ := List.mem_iff_getElem.1 hr
  exact h j hj hj
theorem Off.succ {l : List Ru} {wb : Nat → Bool} {x k : Nat} (h : Off l wb x k) (hk : ∀ h : k < l.length, allB x (natL l[k].1) = true → wb l[k].2.toNat = true → x.testBit l[k].2.toNat = true) : Off l wb x (k + 1) := fun j hj hjk => by
  by_cases e : j = k
  · subst e; exact hk hj
  · exact h j hj (by omega)

set_option maxRecDepth 100000 in
set_option maxHeartbeats 4000000 in
theorem closure_any (A : Option Addr) (c B : Nat) (l : List Ru) (p m : Nat) (wi : Int) (wb : Nat → Bool) (w : World) (hB : B ≤ w.heap.size) (h : RusAt B w A l) (hs : l.length ≤ 60) (hl : ∀ x ∈ l, x.1.length ≤ 40) (hr : ∀ x ∈ l, ruOk p x = true) (hp : p ≤ 10) (hm : m < 2 ^ p)
    (hwb : ∀ q, q < 10 → bits BinOp.and IntKind.i64 (wi / (2 : Int) ^ q) 1 = if wb q then 1 else 0) :
    Calls Tryd.prog 75 #[.slice A l.length c, .int .i64 m, .int .i64 wi] w fun e w' => ∃ x : Nat, e = .returned (.int .i64 x) ∧ Cl l m wb x ∧ x < 2 ^ p ∧ Below w.heap.size w w' := by
  have H := Lib.hid (h.below (Below.refl _ _) hB)
  have Hr := Lib.hid hr
  have Hl := Lib.hid hl
  have Hwb := Lib.hid hwb
  have hp10 : 2 ^ p ≤ 1024 := Nat.pow_le_pow_right (by decide) hp
  have Hm := Lib.hid hm
  clear h hr hl hwb hm
  go_enter Tryd.func75, Tryd.ntmps75
  go_wp2_with fail
  go_step3
  go_wp2_with fail
  go_step3
  go_wp2_with fail
  go_loopg [1] (2 ^ p - m) (fun g s1 wx => ∃ x : Nat, x + g = 2 ^ p ∧ 0 < g ∧ s1 = .int .i64 x ∧ Aside (Way l m wb x) ∧ Below w.heap.size w wx)
  case atStart => exact ⟨m, by have := Hm.out; omega, by have := Hm.out; omega, rfl, Way.start l m wb, Below.refl _ _⟩
  case round =>
    obtain ⟨x, hxg, hg0, rfl, HW, hbx⟩ := hrel
    have hx : x < 2 ^ p := by omega
    have hx60 : x < 2 ^ 60 := Nat.lt_of_lt_of_le hx (Nat.le_trans hp10 (by decide))
    go_wp2_with fail
    go_loopg [1, 13] l.length (fun g s1 s13 wy => ∃ k : Nat, k + g = l.length ∧ s1 = .int .i64 x ∧ s13 = .int .i64 k ∧ Aside (Off l wb x k) ∧ Below w.heap.size w wy)
    case atStart => exact ⟨0, by omega, rfl, rfl, fun j _ hj => by omega, hbx⟩
    case round =>
      clear hbx
      obtain ⟨k, hkg, rfl, rfl, HK, hby⟩ := hrel
      cases gk with
      | zero =>
        obtain rfl : k = l.length := by omega
        have HX := Lib.hid (show Cl l m wb x from ⟨HW.out, HK.out.all⟩)
        go_wp2_with fail
        try rw [Exit.noGoto_ret]
        go_ret
        exact ⟨x, rfl, HX.out, hx, hby⟩
      | succ g2 =>
        have hkl : k < l.length := by omega
        obtain ⟨bb, off, A1, c1, rfl, hbB, e0, e1, i1⟩ := H.out k hkl
        have d0 := (hby.cell (p := ⟨bb, off + k * 2, none⟩) hbB).trans e0
        have d1 := (hby.cell (p := ⟨bb, off + k * 2 + 1, none⟩) hbB).trans e1
        have hrk := ruOk_mem (Hr.out l[k] (List.getElem_mem hkl))
        obtain ⟨hset, ht0, htp⟩ := hrk
        obtain ⟨t, ht⟩ := Int.eq_ofNat_of_zero_le ht0
        have hin : intL (natL l[k].1) = l[k].1 := int_nat fun x hx => (isS_mem hset x hx).1
        have hq10 : ∀ q ∈ natL l[k].1, q < 10 := fun q hq => by have := natL_lt (isS_mem hset) q hq; omega
        have hlen : l[k].1.length = (natL l[k].1).length := by rw [natL_length]
        have hl40 := Hl.out l[k] (List.getElem_mem hkl)
        have HOf := Lib.hid (fun (h : allB x (natL l[k].1) = true → wb l[k].2.toNat = true → x.testBit l[k].2.toNat = true) => HK.out.succ fun _ => h)
        have HSt := Lib.hid (fun (h1 : allB x (natL l[k].1) = true) (h2 : wb l[k].2.toNat = true) => HW.out.step (List.getElem_mem hkl) h1 h2)
        have htn : l[k].2.toNat = t := by rw [ht]; rfl
        rw [htn] at HOf HSt
        rw [← hin] at i1
        rw [hlen] at d0 hl40
        rw [ht] at d1 htp
        have ht10 : t < p := by omega
        clear e0 e1 hset ht0 hin hlen htn ht
        generalize natL l[k].1 = L at i1 hq10 d0 hl40 HOf HSt
        have Hwt := Lib.hid (Hwb.out t (by omega))
        obtain ⟨W1, hW1⟩ : ∃ W1, W1 = wr := ⟨_, rfl⟩
        subst hW1
        have hbz := hby.alloc hby.size (.cells #[.slice A1 L.length c1, .int .i64 t] 42)
        have HB := Blk.new W1 42 #[.slice A1 L.length c1, .int .i64 t]
        have HZ := Lib.hid hbz
        have HBB := Lib.hid HB
        have ha : w.heap.size ≤ W1.heap.size := hby.size
        clear hbz HB hby
        go_wp2_with fail
        go_loopg [20] L.length (fun g s20 wz => ∃ j : Nat, j + g = L.length ∧ s20 = .int .i64 j ∧ Aside (∀ i (h : i < L.length), i < j → x.testBit L[i] = true) ∧ Blk wz W1.heap.size 42 #[.slice A1 L.length c1, .int .i64 t] ∧ Below w.heap.size w wz)
        case atStart => exact ⟨0, by omega, rfl, fun i _ hi => by omega, HBB.out, HZ.out⟩
        case round =>
          obtain ⟨j, hjg, rfl, HJ, hblk, hbz⟩ := hrel
          have hblt := hblk.lt
          cases gk with
          | zero =>
            obtain rfl : j = L.length := by omega
            have ha1 : allB x L = true := by
              simp only [allB, List.all_eq_true]
              intro q hq
              obtain ⟨i, hi, rfl⟩ := List.mem_iff_getElem.1 hq
              exact HJ.out i hi hi
            have ⟨_, z1, _, f1⟩ := blk2 hblk
            have kt := bit_test hx60 (i := t)
            have wt := Hwt.out
            have HZZ := Lib.hid hbz
            have HO2 := Lib.hid HOf.out
            have HS2 := Lib.hid (HSt.out ha1)
            clear hblk hbz
            cases hxt : x.testBit t with
            | true =>
              rw [hxt] at kt HO2
              simp only [if_true] at kt
              clear hxt
              go_wp2_with fail
              go_roundg g2
              case measure => omega
              case rel => exact ⟨k + 1, by omega, rfl, by go_num, HO2.out (by simp), HZZ.out⟩
            | false =>
              have hmore := or_more hxt
              rw [hxt] at kt
              simp only [Bool.false_eq_true, if_false] at kt
              clear hxt
              cases hwt : wb t with
              | false =>
                rw [hwt] at wt HO2
                simp only [Bool.false_eq_true, if_false] at wt
                clear hwt
                go_wp2_with fail
                go_roundg g2
                case measure => omega
                case rel => exact ⟨k + 1, by omega, rfl, by go_num, HO2.out (fun _ h => absurd h (by decide)), HZZ.out⟩
              | true =>
                rw [hwt] at wt HS2
                simp only [if_true] at wt
                have key := or_pow hx60 (show t < 60 by omega)
                have hlt : x ||| 2 ^ t < 2 ^ p := Nat.or_lt_two_pow hx (Nat.pow_lt_pow_right (by decide) ht10)
                have HSS := Lib.hid (HS2.out rfl)
                clear hwt HS2
                generalize x ||| 2 ^ t = y at hmore key hlt HSS
                go_wp2_with fail
                go_roundg (2 ^ p - y)
                case measure => omega
                case rel => exact ⟨y, by omega, by omega, rfl, HSS.out, HZZ.out⟩
          | succ g3 =>
            have hjl : j < L.length := by omega
            obtain ⟨b3, o3, rfl, hb3, c3⟩ := i1.at (k := j) (by simp [intL]; omega)
            have e3 : (intL L)[j]'(by simp [intL]; omega) = ((L[j] : Nat) : Int) := by simp [intL]
            rw [e3] at c3
            have c3' := (hbz.cell (p := ⟨b3, o3 + j, none⟩) hb3).trans c3
            have kt := bit_test hx60 (i := L[j])
            have hq := hq10 L[j] (List.getElem_mem hjl)
            have HZZ := Lib.hid hbz
            have HBL := Lib.hid hblk
            cases hbit : x.testBit L[j] with
            | true =>
              rw [hbit] at kt
              simp only [if_true] at kt
              have HJ1 := Lib.hid (show ∀ i (h : i < L.length), i < j + 1 → x.testBit L[i] = true from fun i hi hij => by
                by_cases e : i = j
                · subst e; exact hbit
                · exact HJ.out i hi (by omega))
              generalize L[j] = q at c3' kt hq
              clear hblk hbz c3 e3 hbit
              go_wp2_with fail
              go_roundg g3
              case measure => omega
              case rel => exact ⟨j + 1, by omega, by go_num, HJ1.out, HBL.out, HZZ.out⟩
            | false =>
              rw [hbit] at kt
              simp only [Bool.false_eq_true, if_false] at kt
              have HO1 := Lib.hid (HOf.out fun ha => absurd (List.all_eq_true.1 ha L[j] (List.getElem_mem hjl)) (by rw [hbit]; decide))
              have ⟨_, z1, _, f1⟩ := blk2 hblk
              have hsz := hbz.size
              generalize L[j] = q at c3' kt hq
              clear hblk hbz c3 e3 hbit
              go_wp2_with fail
              go_roundg g2
              case measure => omega
              case rel => exact ⟨k + 1, by omega, rfl, by go_num, HO1.out, HZZ.out.setCell ha _⟩
end Go.Proofs.YtgoojcjfhghmgaaDoor
