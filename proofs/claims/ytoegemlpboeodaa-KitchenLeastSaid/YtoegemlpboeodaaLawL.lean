/- KitchenLeast: the call returns true. -/
import Derived.Test.YtoegemlpboeodaaKitO
import Derived.Test.YtoegemlpboeodaaPlain9
namespace Go.Proofs.Ytoegemlpboeodaa
open Go.RowKit

set_option maxRecDepth 100000 in
set_option maxHeartbeats 1000000 in
theorem least_law (A : Option Addr) (c : Nat) (l : List Bt) (w : World) (h : PairsAt w.heap.size w A l) (hm : l.length ≤ maxLen) :
    Calls Try.prog 13 #[.slice A l.length c] w fun e w' => e = .returned (.bool true) ∧ Below w.heap.size w w' := by
  have cl := Lib.hid (long_any A none c 0 l.length 0 w hm (by decide))
  unfold maxLen at hm
  by_cases hlong : longB l.length 0 = true
  · rw [hlong] at cl
    clear h hlong
    go_enter Try.func13, Try.ntmps13
    go_wp2_with (first | (go_at_call 24; refine cl.out.mono ?_; rintro e w1 ⟨rfl, rfl⟩) | (go_at_call 18; refine (known_any _).mono ?_; rintro e w5 ⟨rfl, hb5⟩))
    go_ret
    exact ⟨rfl, hb5⟩
  · have hl1 : longB l.length 0 = false := by simpa using hlong
    rw [hl1] at cl
    have hs : l.length ≤ 100 := by simp [longB] at hl1; omega
    clear hm hlong hl1
    have c44 := Lib.hid (Least_any A c w.heap.size l w (Nat.le_refl _) h (by omega))
    have c45 := Lib.hid (fun W hW => Least_ref A c w.heap.size l W (Below.size hW) (h.below (B' := w.heap.size) hW (Nat.le_refl _)) (by omega))
    have c46 := Lib.hid (fun W hW => Best_any A c w.heap.size l W (Below.size hW) (h.below (B' := w.heap.size) hW (Nat.le_refl _)) (by omega))
    by_cases hv : valB l = 0
    · obtain ⟨bx, bt, _⟩ := best_top hv
      have hbl : (bestR l).length ≤ 100 := by rw [ord_length (exB_zero bx).2]; omega
      have c39 := Lib.hid (fun A9 c9 W hW hI => Time_ref A A9 c c9 (World.heap W).size l (bestR l) W (h.below (B' := (World.heap W).size) hW hW.size) hI (by omega) (by omega))
      rw [bx, bt] at c39
      rw [hv] at c44 c45 c46
      generalize leastR l = ln at c44 c45 c39
      generalize bestR l = bo at c46 c39 hbl
      clear h hv bx bt
      go_enter Try.func13, Try.ntmps13
      go_wp2_with (first
        | (go_at_call 24; refine cl.out.mono ?_; rintro e w1 ⟨rfl, rfl⟩)
        | (go_at_call 44; refine c44.out.mono ?_; rintro e w2 ⟨rfl, hb2⟩)
        | (go_at_call 45; refine (c45.out _ hb2).mono ?_; rintro e w3 ⟨rfl, hd⟩; have hb3 := hb2.trans (hd.mono hb2.size); clear hd)
        | (go_at_call 46; refine (c46.out _ hb3).mono ?_; rintro e w4 ⟨v4, rfl, ho, hd⟩; have hb4 := hb3.trans (hd.mono hb3.size); obtain ⟨A9, c9, rfl, hI4⟩ := IntsAt.of_own' ho; clear hd ho)
        | (go_at_call 39; refine (c39.out _ _ _ hb4 hI4).mono ?_; rintro e w5 ⟨rfl, rfl⟩)
        | (go_at_call 18; refine (known_any _).mono ?_; rintro e w6 ⟨rfl, hb6⟩))
      go_ret
      exact ⟨rfl, hb4.trans (hb6.mono hb4.size)⟩
    · have hb0 : bestR l = [] := if_neg hv
      have hne : (valB l == 0) = false := by simpa using hv
      have hne2 : (valB l != 0) = true := by simpa using hv
      rw [hb0] at c46
      generalize leastR l = ln at c44 c45
      generalize valB l = v at c44 c45 c46 hne hne2
      clear h hv hb0
      simp only [List.length_nil, List.map_nil] at c46
      go_enter Try.func13, Try.ntmps13
      go_wp2_with (first
        | (go_at_call 24; refine cl.out.mono ?_; rintro e w1 ⟨rfl, rfl⟩)
        | (go_at_call 44; refine c44.out.mono ?_; rintro e w2 ⟨rfl, hb2⟩)
        | (go_at_call 45; refine (c45.out _ hb2).mono ?_; rintro e w3 ⟨rfl, hd⟩; have hb3 := hb2.trans (hd.mono hb2.size); clear hd)
        | (go_at_call 46; refine (c46.out _ hb3).mono ?_; rintro e w4 ⟨v4, rfl, ho, hd⟩; have hb4 := hb3.trans (hd.mono hb3.size); obtain ⟨A9, c9, rfl⟩ := own_form ho; clear hd ho)
        | (go_at_call 18; refine (known_any _).mono ?_; rintro e w6 ⟨rfl, hb6⟩))
      go_ret
      exact ⟨rfl, hb4.trans (hb6.mono hb4.size)⟩
end Go.Proofs.Ytoegemlpboeodaa
