/- TopKitchen: the call returns true where the order is none of the batches, or there are none. -/
import Derived.Test.YtoegemlpboeodaaLawG
namespace Go.Proofs.Ytoegemlpboeodaa
open Go.RowKit

set_option maxRecDepth 100000 in
set_option maxHeartbeats 1000000 in
theorem top_other (A A' : Option Addr) (c c' : Nat) (l : List Bt) (o : List Int) (w : World) (h : PairsAt w.heap.size w A l) (h' : IntsAt w.heap.size w A' o) (hm : l.length ≤ 100) (hm' : o.length ≤ 100) (hv : valB l = 0) (hx : ¬ exB l o = 0) :
    Calls Try.prog 16 #[.slice A l.length c, .slice A' o.length c'] w fun e w' => e = .returned (.bool true) ∧ Below w.heap.size w w' := by
  have k44 := Lib.hid (k44_any w)
  obtain ⟨bx, bt, bb⟩ := best_top hv
  have c44 := Lib.hid (fun W hW => Least_any A c w.heap.size l W (Below.size hW) (h.below (B' := w.heap.size) hW (Nat.le_refl _)) (by omega))
  have c46 := Lib.hid (fun W hW => Best_any A c w.heap.size l W (Below.size hW) (h.below (B' := w.heap.size) hW (Nat.le_refl _)) (by omega))
  have c25 := Lib.hid (fun W hW => Bound_any A c w.heap.size l W (Below.size hW) (h.below (B' := w.heap.size) hW (Nat.le_refl _)) (by omega))
  have c27 := Lib.hid (fun W hW => Time_any A A' c c' w.heap.size l o W (Below.size hW) (h.below (B' := w.heap.size) hW (Nat.le_refl _)) (h'.below (B' := w.heap.size) hW (Nat.le_refl _)) (by omega) (by omega))
  have hbl : (bestR l).length ≤ 100 := by rw [ord_length (exB_zero bx).2]; exact hm
  have c27b := Lib.hid (fun A9 c9 W hW hI => Time_any A A9 c c9 (World.heap W).size l (bestR l) W (Nat.le_refl _) (h.below (B' := (World.heap W).size) hW hW.size) hI (by omega) (by omega))
  rw [exB_other hv hx] at c27
  rw [bx, bt] at c27b
  rw [hv] at c44 c46 c25
  have hgt : decide (bndR l > leastR l) = false := by simpa using bb
  generalize leastR l = ln at c44 c27b hgt bb
  generalize bndR l = bn at c25 hgt bb
  generalize timeR l o = tn at c27
  generalize bestR l = bo at c46 c27b hbl
  clear h h' bx bt hx hv
  go_enter Try.func16, Try.ntmps16
  have tok := Lib.hid (Nat.le_refl 0)
  go_wp2_with (first
    | (go_at_call 44; have tk := tok; clear tok; refine k44.out.mono ?_; rintro e w1 ⟨rfl, hb1⟩)
    | (go_at_call 44; refine (c44.out _ hb1).mono ?_; rintro e w2 ⟨rfl, hd⟩; have hb2 := hb1.trans (hd.mono hb1.size); clear hd)
    | (go_at_call 46; refine (c46.out _ hb2).mono ?_; rintro e w3 ⟨v3, rfl, ho, hd⟩; have hb3 := hb2.trans (hd.mono hb2.size); obtain ⟨A9, c9, rfl, hI3⟩ := IntsAt.of_own' ho; clear hd ho)
    | (go_at_call 25; refine (c25.out _ hb3).mono ?_; rintro e w4 ⟨rfl, hd⟩; have hb4 := hb3.trans (hd.mono hb3.size); have hI4 := hI3.below hd hd.size; clear hd hI3)
    | (go_at_call 27; refine (c27b.out _ _ _ hb4 hI4).mono ?_; rintro e w5 ⟨rfl, hd⟩; have hb5 := hb4.trans (hd.mono hb4.size); clear hd hI4)
    | (go_at_call 27; refine (c27.out _ hb5).mono ?_; rintro e w6 ⟨rfl, hd⟩; have hb6 := hb5.trans (hd.mono hb5.size); clear hd))
  go_ret
  exact ⟨rfl, hb6⟩

set_option maxRecDepth 100000 in
set_option maxHeartbeats 1000000 in
theorem top_none (A A' : Option Addr) (c c' : Nat) (l : List Bt) (o : List Int) (w : World) (h : PairsAt w.heap.size w A l) (h' : IntsAt w.heap.size w A' o) (hm : l.length ≤ 100) (hm' : o.length ≤ 100) (hcap : o.length ≤ c') (hcap2 : c' ≤ maxLen) (hx : exB l o = 0) (h0 : l.length = 0) :
    Calls Try.prog 16 #[.slice A l.length c, .slice A' o.length c'] w fun e w' => e = .returned (.bool true) ∧ Below w.heap.size w w' := by
  unfold maxLen at hcap2
  have k44 := Lib.hid (k44_any w)
  obtain ⟨hv, hp⟩ := exB_zero hx
  have hol := ord_length hp
  obtain rfl : l = [] := List.eq_nil_of_length_eq_zero h0
  obtain rfl : o = [] := List.eq_nil_of_length_eq_zero (by omega)
  have e1 : leastR [] = 0 := by decide +kernel
  have e2 : timeR [] [] = 0 := by decide +kernel
  have e3 : idR [] [] = 0 := by decide +kernel
  have e4 : bndR [] = 0 := by decide +kernel
  have e5 : bestR [] = [] := by decide +kernel
  have c44 := Lib.hid (fun W hW => Least_any A c w.heap.size [] W (Below.size hW) (h.below (B' := w.heap.size) hW (Nat.le_refl _)) (by simp))
  have c46 := Lib.hid (fun W hW => Best_any A c w.heap.size [] W (Below.size hW) (h.below (B' := w.heap.size) hW (Nat.le_refl _)) (by simp))
  have c25 := Lib.hid (fun W hW => Bound_any A c w.heap.size [] W (Below.size hW) (h.below (B' := w.heap.size) hW (Nat.le_refl _)) (by simp))
  have c27 := Lib.hid (fun W hW => Time_any A A' c c' w.heap.size [] [] W (Below.size hW) (h.below (B' := w.heap.size) hW (Nat.le_refl _)) (h'.below (B' := w.heap.size) hW (Nat.le_refl _)) (by simp) (by simp))
  have c27b := Lib.hid (fun A9 c9 W hW => Time_any A A9 c c9 w.heap.size [] [] W (Below.size hW) (h.below (B' := w.heap.size) hW (Nat.le_refl _)) (IntsAt.nil _ _ _) (by simp) (by simp))
  have c37 := Lib.hid (fun W hW => Run_any A A' c c' w.heap.size [] [] W (Below.size hW) (h.below (B' := w.heap.size) hW (Nat.le_refl _)) (h'.below (B' := w.heap.size) hW (Nat.le_refl _)) (by simp) (by simp) hx)
  have c40 := Lib.hid (fun W hW => Idle_any A A' c c' w.heap.size [] [] W (Below.size hW) (h.below (B' := w.heap.size) hW (Nat.le_refl _)) (h'.below (B' := w.heap.size) hW (Nat.le_refl _)) (by simp) (by simp))
  have c50 := Lib.hid (fun W hW => Sorted_any A A' c c' w.heap.size [] [] W (Below.size hW) (h.below (B' := w.heap.size) hW (Nat.le_refl _)) (h'.below (B' := w.heap.size) hW (Nat.le_refl _)) (by simp) (by simp) hcap hcap2)
  rw [show srtR [] [] = true by decide +kernel] at c50
  rw [hx] at c27 c27b c40 c50
  rw [e2] at c27 c27b
  rw [hv] at c44 c46 c25
  rw [e1] at c44
  rw [e3] at c40
  rw [e4] at c25
  rw [e5] at c46
  clear h h' hx hv hp hol e1 e2 e3 e4 e5 h0 hm hm'
  simp only [List.length_nil, List.map_nil] at c44 c46 c25 c27 c27b c37 c40 c50 ⊢
  go_enter Try.func16, Try.ntmps16
  have tok := Lib.hid (Nat.le_refl 0)
  go_wp2_with (first
    | (go_at_call 44; have tk := tok; clear tok; refine k44.out.mono ?_; rintro e w1 ⟨rfl, hb1⟩)
    | (go_at_call 44; refine (c44.out _ hb1).mono ?_; rintro e w2 ⟨rfl, hd⟩; have hb2 := hb1.trans (hd.mono hb1.size); clear hd)
    | (go_at_call 46; refine (c46.out _ hb2).mono ?_; rintro e w3 ⟨v3, rfl, ho, hd⟩; have hb3 := hb2.trans (hd.mono hb2.size); obtain ⟨A9, c9, rfl⟩ := own_form ho; have tok := Lib.hid (Nat.le_refl 0); clear hd ho)
    | (go_at_call 25; refine (c25.out _ hb3).mono ?_; rintro e w4 ⟨rfl, hd⟩; have hb4 := hb3.trans (hd.mono hb3.size); clear hd)
    | (go_at_call 27; have tok2 := tok; clear tok; refine (c27b.out _ _ _ hb4).mono ?_; rintro e w5 ⟨rfl, hd⟩; have hb5 := hb4.trans (hd.mono hb4.size); clear hd)
    | (go_at_call 27; refine (c27.out _ hb5).mono ?_; rintro e w6 ⟨rfl, hd⟩; have hb6 := hb5.trans (hd.mono hb5.size); clear hd)
    | (go_at_call 37; refine (c37.out _ hb6).mono ?_; rintro e w7 ⟨C1, q1, rfl, _, hd⟩; have hb7 := hb6.trans (hd.mono hb6.size); clear hd)
    | (go_at_call 40; refine (c40.out _ hb7).mono ?_; rintro e w8 ⟨rfl, hd⟩; have hb8 := hb7.trans (hd.mono hb7.size); clear hd)
    | (go_at_call 50; refine (c50.out _ hb8).mono ?_; rintro e w9 ⟨rfl, hd⟩; have hb9 := hb8.trans (hd.mono hb8.size); clear hd))
  go_loop [22, 23] (fun x i => x = .int .i64 0 ∧ i = .int .i64 0) (fun _ _ => 0)
  case atStart => exact ⟨rfl, rfl⟩
  case round =>
    obtain ⟨rfl, rfl⟩ := hrel
    go_wp2_with fail
    go_ret
    exact ⟨rfl, hb9⟩
end Go.Proofs.Ytoegemlpboeodaa
