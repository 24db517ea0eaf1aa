/- VanTrees and VanBounds: the calls return true. -/
import Derived.Test.YtmodbpglopfghaaVanS
set_option linter.unusedSimpArgs false
set_option linter.unusedVariables false
namespace Go.Proofs.Ytmodbpglopfghaa
open Go.RowKit

set_option maxRecDepth 100000 in
set_option maxHeartbeats 1000000 in
theorem trees_law (A : Option Addr) (c : Nat) (rows : List (List Int)) (w : World) (h : TblAt w.heap.size w A rows) :
    Calls Try.prog 3 #[.slice A rows.length c] w fun e w' => e = .returned (.bool true) ∧ Below w.heap.size w w' := by
  have cl := Lib.hid (Large_any A c w.heap.size rows w h)
  by_cases hlg : lgW rows = true
  · rw [hlg] at cl
    clear h hlg
    go_enter Try.func3, Try.ntmps3
    go_wp2_with (first | (go_at_call 17; refine cl.out.mono ?_; rintro e w1 ⟨rfl, hw1⟩; obtain rfl := hw1.symm; clear hw1) | (go_at_call 18; refine (known_any _).mono ?_; rintro e w5 ⟨rfl, hb5⟩))
    go_ret
    exact ⟨rfl, hb5⟩
  · have hlg' : lgW rows = false := by simpa using hlg
    rw [hlg'] at cl
    have hl := lgW_small hlg'
    have ct := Lib.hid (fun W (hW : Below w.heap.size w W) => Tree_any A c w.heap.size rows W hW.size (h.below hW (Nat.le_refl _)) hl.2)
    have cr := Lib.hid (fun W (hW : Below w.heap.size w W) => Tree_ref A c w.heap.size rows W hW.size (h.below hW (Nat.le_refl _)) hl)
    have cs := Lib.hid (fun W (hW : Below w.heap.size w W) => Shortest_any A c w.heap.size rows W hW.size (h.below hW (Nat.le_refl _)) hl.2)
    have HU := Lib.hid (fun y z => TreeR.unique (rows := rows) (y := y) (z := z))
    have HL := Lib.hid (show ∀ y z, TreeR rows y → ShortR rows z → vwR rows = 0 → y ≤ z from fun y z h1 h2 h3 => by
      have hv := vw_zero h3
      exact short_tree (h1.1 hv).1 (h2.1 hv).1 hv.sym hv.bd hv.n0)
    have hB0 := Below.refl w.heap.size w
    clear h hlg hlg' hl
    generalize vwR rows = e0 at ct cr cs HL
    by_cases he : e0 = 0
    · subst he
      go_enter Try.func3, Try.ntmps3
      go_wp2_with (first
        | (go_at_call 17; refine cl.out.mono ?_; rintro e w1 ⟨rfl, hw1⟩; obtain rfl := hw1.symm; clear hw1)
        | (go_at_call 19; refine (ct.out _ hB0).mono ?_; rintro e w1 ⟨z1, rfl, ht1, hb1⟩; have hB1 := hB0.trans (hb1.mono hB0.size))
        | (go_at_call 20; refine (cr.out _ hB1).mono ?_; rintro e w2 ⟨z2, rfl, ht2, hb2⟩; have hB2 := hB1.trans (hb2.mono hB1.size); obtain rfl := HU.out _ _ ht1 ht2)
        | (go_at_call 21; refine (cs.out _ hB2).mono ?_; rintro e w3 ⟨n, rfl, hs, hb3⟩; have hB3 := hB2.trans (hb3.mono hB2.size); have hd := decide_eq_true (HL.out _ _ ht1 hs (by simp)))
        | (go_at_call 18; refine (known_any _).mono ?_; rintro e w5 ⟨rfl, hb5⟩))
      go_ret
      exact ⟨rfl, hB3.trans (hb5.mono hB3.size)⟩
    · have hne : (e0 != 0) = true := by simpa using he
      have hne2 : (e0 == 0) = false := by simpa using he
      go_enter Try.func3, Try.ntmps3
      go_wp2_with (first
        | (go_at_call 17; refine cl.out.mono ?_; rintro e w1 ⟨rfl, hw1⟩; obtain rfl := hw1.symm; clear hw1)
        | (go_at_call 19; refine (ct.out _ hB0).mono ?_; rintro e w1 ⟨z1, rfl, ht1, hb1⟩; have hB1 := hB0.trans (hb1.mono hB0.size))
        | (go_at_call 20; refine (cr.out _ hB1).mono ?_; rintro e w2 ⟨z2, rfl, ht2, hb2⟩; have hB2 := hB1.trans (hb2.mono hB1.size); obtain rfl := HU.out _ _ ht1 ht2)
        | (go_at_call 21; refine (cs.out _ hB2).mono ?_; rintro e w3 ⟨n, rfl, hs, hb3⟩; have hB3 := hB2.trans (hb3.mono hB2.size))
        | (go_at_call 18; refine (known_any _).mono ?_; rintro e w5 ⟨rfl, hb5⟩))
      go_ret
      exact ⟨rfl, hB3.trans (hb5.mono hB3.size)⟩
theorem long_any (A : Option Addr) (n c : Nat) (w : World) : Calls Try.prog 22 #[.slice A n c] w fun e w' => e = .returned (.bool (decide (60 < (n : Int)))) ∧ w = w' := by
  go_enter Try.func22, Try.ntmps22
  go_wp2
  go_ret
  exact ⟨rfl, rfl⟩
theorem lg2 (a b : Bool) : (a = true) ∨ (a = false ∧ b = true) ∨ (a = false ∧ b = false) := by cases a <;> cases b <;> simp

set_option maxRecDepth 100000 in
set_option maxHeartbeats 1000000 in
theorem bounds_law (A A' : Option Addr) (c c' : Nat) (rows : List (List Int)) (p : List Int) (w : World) (h : TblAt w.heap.size w A rows) (h' : IntsAt w.heap.size w A' p) :
    Calls Try.prog 4 #[.slice A rows.length c, .slice A' p.length c'] w fun e w' => e = .returned (.bool true) ∧ Below w.heap.size w w' := by
  have cl := Lib.hid (Large_any A c w.heap.size rows w h)
  have cg := Lib.hid (long_any A' p.length c' w)
  have hB0 := Below.refl w.heap.size w
  rcases lg2 (lgW rows) (decide (60 < (p.length : Int))) with hlg | ⟨hlg, hlo⟩ | ⟨hlg, hlo⟩
  · rw [hlg] at cl
    clear h h' hlg
    go_enter Try.func4, Try.ntmps4
    go_wp2_with (first | (go_at_call 17; refine cl.out.mono ?_; rintro e w1 ⟨rfl, hw1⟩; obtain rfl := hw1.symm; clear hw1) | (go_at_call 18; refine (known_any _).mono ?_; rintro e w5 ⟨rfl, hb5⟩))
    go_ret
    exact ⟨rfl, hb5⟩
  · rw [hlg] at cl
    rw [hlo] at cg
    clear h h' hlg hlo
    go_enter Try.func4, Try.ntmps4
    go_wp2_with (first | (go_at_call 17; refine cl.out.mono ?_; rintro e w1 ⟨rfl, hw1⟩; obtain rfl := hw1.symm; clear hw1) | (go_at_call 22; refine cg.out.mono ?_; rintro e w1 ⟨rfl, rfl⟩) | (go_at_call 18; refine (known_any _).mono ?_; rintro e w5 ⟨rfl, hb5⟩))
    go_ret
    exact ⟨rfl, hb5⟩
  · rw [hlg] at cl
    rw [hlo] at cg
    have hl := lgW_small hlg
    have hm : p.length ≤ 1000 := by simp at hlo; omega
    have ct := Lib.hid (fun W (hW : Below w.heap.size w W) => Bound_any A A' c c' w.heap.size rows p W hW.size (h.below hW (Nat.le_refl _)) (h'.below hW (Nat.le_refl _)) hl.2 hm)
    have cr := Lib.hid (fun W (hW : Below w.heap.size w W) => Bound_ref A A' c c' w.heap.size rows p W hW.size (h.below hW (Nat.le_refl _)) (h'.below hW (Nat.le_refl _)) hl hm)
    have cs := Lib.hid (fun W (hW : Below w.heap.size w W) => Shortest_any A c w.heap.size rows W hW.size (h.below hW (Nat.le_refl _)) hl.2)
    have HU := Lib.hid (fun y z => BoundR.unique (rows := rows) (p := p) (y := y) (z := z))
    have HL := Lib.hid (show ∀ y z, BoundR rows p y → ShortR rows z → wgR rows p = 0 → y ≤ z from fun y z h1 h2 h3 => by
      have hv := wg_zero h3
      exact short_bound (h1.1 hv).1 (h2.1 hv.vw).1 hv.vw.sym (fun i k hi hk => cg_bd hv.vw.bd hv.ok hv.len hi hk) hv.n3 hv.len)
    have HV := Lib.hid (show wgR rows p = 0 → vwR rows = 0 from fun h => vw_ok (wg_zero h).vw)
    clear h h' hlg hl hm hlo
    generalize vwR rows = v0 at cs HV
    generalize wgR rows p = e0 at ct cr HL HV
    by_cases he : e0 = 0
    · subst he
      obtain rfl := HV.out rfl
      go_enter Try.func4, Try.ntmps4
      go_wp2_with (first
        | (go_at_call 17; refine cl.out.mono ?_; rintro e w1 ⟨rfl, hw1⟩; obtain rfl := hw1.symm; clear hw1)
        | (go_at_call 22; refine cg.out.mono ?_; rintro e w1 ⟨rfl, rfl⟩)
        | (go_at_call 23; refine (ct.out _ hB0).mono ?_; rintro e w1 ⟨z1, rfl, ht1, hb1⟩; have hB1 := hB0.trans (hb1.mono hB0.size))
        | (go_at_call 24; refine (cr.out _ hB1).mono ?_; rintro e w2 ⟨z2, rfl, ht2, hb2⟩; have hB2 := hB1.trans (hb2.mono hB1.size); obtain rfl := HU.out _ _ ht1 ht2)
        | (go_at_call 21; refine (cs.out _ hB2).mono ?_; rintro e w3 ⟨n, rfl, hs, hb3⟩; have hB3 := hB2.trans (hb3.mono hB2.size); have hd := decide_eq_true (HL.out _ _ ht1 hs (by simp)))
        | (go_at_call 18; refine (known_any _).mono ?_; rintro e w5 ⟨rfl, hb5⟩))
      go_ret
      exact ⟨rfl, hB3.trans (hb5.mono hB3.size)⟩
    · have hne : (e0 != 0) = true := by simpa using he
      have hne2 : (e0 == 0) = false := by simpa using he
      go_enter Try.func4, Try.ntmps4
      go_wp2_with (first
        | (go_at_call 17; refine cl.out.mono ?_; rintro e w1 ⟨rfl, hw1⟩; obtain rfl := hw1.symm; clear hw1)
        | (go_at_call 22; refine cg.out.mono ?_; rintro e w1 ⟨rfl, rfl⟩)
        | (go_at_call 23; refine (ct.out _ hB0).mono ?_; rintro e w1 ⟨z1, rfl, ht1, hb1⟩; have hB1 := hB0.trans (hb1.mono hB0.size))
        | (go_at_call 24; refine (cr.out _ hB1).mono ?_; rintro e w2 ⟨z2, rfl, ht2, hb2⟩; have hB2 := hB1.trans (hb2.mono hB1.size); obtain rfl := HU.out _ _ ht1 ht2)
        | (go_at_call 21; refine (cs.out _ hB2).mono ?_; rintro e w3 ⟨n, rfl, hs, hb3⟩; have hB3 := hB2.trans (hb3.mono hB2.size))
        | (go_at_call 18; refine (known_any _).mono ?_; rintro e w5 ⟨rfl, hb5⟩))
      go_ret
      exact ⟨rfl, hB3.trans (hb5.mono hB3.size)⟩
end Go.Proofs.Ytmodbpglopfghaa
