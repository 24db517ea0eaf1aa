/- Menus for all tables; the law of menus. -/
import Derived.Test.YtgoojcjfhghmgaaDoorDisQ
namespace Go.Proofs.YtgoojcjfhghmgaaDoor
open Go.RowKit

/-- A table without an error. -/
theorem vt_zero {l : List Int} {d : Int} (h : vtR l d = 0) : 0 ≤ d ∧ d ≤ 8 ∧ l.length ≤ 8 ∧ (intL (natL l) = l) ∧ ∀ x ∈ natL l, x < 2 ^ d.toNat := by
  unfold vtR at h
  split at h
  · contradiction
  · rename_i h1
    split at h
    · contradiction
    · rename_i h2
      split at h
      · contradiction
      · rename_i h3
        have hx : ∀ x ∈ l, 0 ≤ x ∧ x < ((2 ^ d.toNat : Nat) : Int) := by
          intro x hx
          apply Classical.byContradiction
          intro hn
          apply h3
          rw [List.any_eq_true]
          refine ⟨x, hx, ?_⟩
          rw [decide_eq_true_eq]
          have : ((2 ^ d.toNat : Nat) : Int) = (2 : Int) ^ d.toNat := by simp
          omega
        exact ⟨by omega, by omega, by omega, int_nat fun x hxx => (hx x hxx).1, natL_lt hx⟩
theorem two8 {d : Int} (h : d ≤ 8) : 2 ^ d.toNat ≤ 256 := Nat.le_trans (Nat.pow_le_pow_right (by decide) (show d.toNat ≤ 8 by omega)) (by decide)

/-- What Menus returns. -/
def MnR (l : List Int) (d : Int) (base : Nat) (v : Value) (w : World) : Prop :=
  if vtR l d = 0 then w.ownsRow base 3 1 v (mnTo (natL l) (2 ^ d.toNat)).length (natV (mnTo (natL l) (2 ^ d.toNat))) else v = .slice none 0 0

set_option maxRecDepth 100000 in
set_option maxHeartbeats 2000000 in
theorem Menus_all (A : Option Addr) (c B : Nat) (l : List Int) (d : Int) (w : World) (hB : B ≤ w.heap.size) (h : IntsAt B w A l) (hm : l.length ≤ 60) (hT : Tab w) :
    Calls Tryd.prog 23 #[.slice A l.length c, .int .i64 d] w fun e w' => ∃ v, e = .returned (.tuple #[v, .int .i64 (vtR l d)]) ∧ MnR l d w.heap.size v w' ∧ Below w.heap.size w w' := by
  by_cases h0 : vtR l d = 0
  · obtain ⟨h1, h2, h3, h4, h5⟩ := vt_zero h0
    have h8 := two8 h2
    have := Menus_any A c B (natL l) d.toNat w hB (by rw [h4]; exact h) (by rw [natL_length]; exact hm) hT (by rw [h4, Int.toNat_of_nonneg h1]; exact h0) (fun x hx => by have := h5 x hx; omega) (by omega)
    rw [natL_length, Int.toNat_of_nonneg h1] at this
    refine this.mono ?_
    rintro e w' ⟨v, rfl, ho, hb⟩
    exact ⟨v, by rw [h0], by rw [MnR, if_pos h0]; exact ho, hb⟩
  · have cv := Lib.hid (vt_any A c B l d w hB h (by omega))
    have Hn := Lib.hid (show ∀ v w', v = Value.slice none 0 0 → MnR l d w.heap.size v w' from fun v w' hv => by rw [MnR, if_neg h0]; exact hv)
    have he2 : (vtR l d != 0) = true := by simpa using h0
    clear h hT
    generalize vtR l d = e0 at *
    go_enter Tryd.func23, Tryd.ntmps23
    go_wp2_with (go_at_call 39; refine cv.out.mono ?_; rintro e w1 ⟨rfl, hd⟩)
    go_ret2
    exact ⟨_, rfl, Hn.out _ _ rfl, hd⟩
set_option maxRecDepth 100000 in
set_option maxHeartbeats 2000000 in
theorem Menus_refAll (A : Option Addr) (c B : Nat) (l : List Int) (d : Int) (w : World) (hB : B ≤ w.heap.size) (h : IntsAt B w A l) (hm : l.length ≤ 60) :
    Calls Tryd.prog 24 #[.slice A l.length c, .int .i64 d] w fun e w' => ∃ v, e = .returned (.tuple #[v, .int .i64 (vtR l d)]) ∧ MnR l d w.heap.size v w' ∧ Below w.heap.size w w' := by
  by_cases h0 : vtR l d = 0
  · obtain ⟨h1, h2, h3, h4, h5⟩ := vt_zero h0
    have h8 := two8 h2
    have := Menus_ref A c B (natL l) d.toNat w hB (by rw [h4]; exact h) (by rw [natL_length]; exact hm) (by rw [h4, Int.toNat_of_nonneg h1]; exact h0) (fun x hx => by have := h5 x hx; omega) (by omega)
    rw [natL_length, Int.toNat_of_nonneg h1] at this
    refine this.mono ?_
    rintro e w' ⟨v, rfl, ho, hb⟩
    exact ⟨v, by rw [h0], by rw [MnR, if_pos h0]; exact ho, hb⟩
  · have cv := Lib.hid (vt_ref A c B l d w h (by omega))
    have Hn := Lib.hid (show ∀ v w', v = Value.slice none 0 0 → MnR l d w.heap.size v w' from fun v w' hv => by rw [MnR, if_neg h0]; exact hv)
    have he2 : (vtR l d != 0) = true := by simpa using h0
    clear h
    generalize vtR l d = e0 at *
    go_enter Tryd.func24, Tryd.ntmps24
    go_wp2_with (go_at_call 40; refine cv.out.mono ?_; rintro e w1 ⟨rfl, hd⟩)
    go_ret2
    exact ⟨_, rfl, Hn.out _ _ rfl, hd⟩
def mnL (l : List Int) (d : Int) : List Int := if vtR l d = 0 then intL (mnTo (natL l) (2 ^ d.toNat)) else []
/-- Both read the same. -/
theorem MnR.ints {l : List Int} {d : Int} {base : Nat} {v : Value} {w : World} (h : MnR l d base v w) :
    ∃ A c, v = .slice A (mnL l d).length c ∧ IntsAt w.heap.size w A (mnL l d) := by
  unfold MnR at h
  split at h
  · rename_i h0; rw [mnL, if_pos h0]; exact IntsAt.of_nat h
  · rename_i h0; rw [mnL, if_neg h0]; exact ⟨none, 0, h, IntsAt.nil _ _ _⟩
theorem mnL_short (l : List Int) (d : Int) : (mnL l d).length ≤ 1000000 := by
  unfold mnL
  split
  · rename_i h0
    obtain ⟨h1, h2, _⟩ := vt_zero h0
    have := mnTo_length (natL l) (2 ^ d.toNat)
    have := two8 h2
    simp [intL]; omega
  · simp

set_option maxRecDepth 100000 in
set_option maxHeartbeats 2000000 in
theorem law_menus (A : Option Addr) (c : Nat) (l : List Int) (d : Int) (w : World) (h : IntsAt w.heap.size w A l) (hT : Tab w) :
    Calls Tryd.prog 4 #[.slice A l.length c, .int .i64 d] w fun e w' => e = .returned (.bool true) ∧ Below w.heap.size w w' := by
  by_cases hl : 60 < l.length
  · have ck := Lib.hid (known_any w hT)
    have hld : decide ((60 : Int) < (l.length : Int)) = true := by simp; omega
    clear h hT
    go_enter Tryd.func4, Tryd.ntmps4
    go_wp2_with (go_at_call 18; refine ck.out.mono ?_; rintro e w1 ⟨rfl, hd⟩)
    go_ret
    exact ⟨rfl, hd⟩
  · have hld : decide ((60 : Int) < (l.length : Int)) = false := by simp; omega
    have c1 := Lib.hid (Menus_all A c w.heap.size l d w (Nat.le_refl _) h (by omega) hT)
    have c2 := Lib.hid (fun W (hW : Below w.heap.size w W) => Menus_refAll A c w.heap.size l d W hW.size (h.below hW (Nat.le_refl _)) (by omega))
    have ck := Lib.hid (fun W (hW : Below w.heap.size w W) => known_any W (hT.below hW hT.2))
    have HM := Lib.hid (fun v base W (hv : MnR l d base v W) => show ∃ A c, v = .slice A (mnL l d).length c ∧ IntsAt W.heap.size W A (mnL l d) from hv.ints)
    have Hs := Lib.hid (mnL_short l d)
    clear h hT
    generalize vtR l d = e0 at *
    generalize MnR l d = MR at *
    generalize mnL l d = L at *
    have tok := Lib.hid (Nat.le_refl 0)
    go_enter Tryd.func4, Tryd.ntmps4
    go_wp2_with (first
      | (have tk := tok; clear tok; go_at_call 23; refine c1.out.mono ?_; rintro e w1 ⟨v1, rfl, hv1, hd1⟩; obtain ⟨A1, k1, rfl, i1⟩ := HM.out _ _ _ hv1; have tok2 := tk; clear hv1)
      | (have tk2 := tok2; clear tok2; go_at_call 24; refine (c2.out _ hd1).mono ?_; rintro e w2 ⟨v2, rfl, hv2, hd2⟩; obtain ⟨A2, k2, rfl, i2⟩ := HM.out _ _ _ hv2; have tok3 := tk2; clear hv2; have hb2 := hd1.trans (hd2.mono hd1.size))
      | (have tk3 := tok3; clear tok3; go_at_call 25; refine (sameInts_ref A1 A2 k1 k2 _ L L _ (i1.below hd2 hd2.size) i2 Hs.out).mono ?_; rintro e w3 ⟨rfl, hd3⟩; have tok4 := tk3; have hb3 := hb2.trans (hd3.below _))
      | (have tk4 := tok4; clear tok4; go_at_call 18; refine (ck.out _ hb3).mono ?_; rintro e w4 ⟨rfl, hd4⟩))
    go_ret
    exact ⟨rfl, hb3.trans (hd4.mono hb3.size)⟩
end Go.Proofs.YtgoojcjfhghmgaaDoor
