/- The reference's least time. -/
import Derived.Test.YtoegemlpboeodaaKitN
import Derived.Test.YtoegemlpboeodaaKitD
namespace Go.Proofs.Ytoegemlpboeodaa
open Go.RowKit

set_option maxRecDepth 100000 in
set_option maxHeartbeats 1000000 in
theorem Least_ref (A : Option Addr) (c B : Nat) (l : List Bt) (w : World) (hB : B ≤ w.heap.size) (h : PairsAt B w A l) (hm : l.length ≤ 1000) :
    Calls Try.prog 45 #[.slice A l.length c] w fun e w' => e = .returned (.tuple #[.int .i64 (leastR l), .int .i64 (valB l)]) ∧ Below w.heap.size w w' := by
  have cv := Lib.hid (validate_ref A c B l w h hm)
  by_cases hv : valB l = 0
  · rw [hv] at cv
    have h7 := (valB_zero hv).1
    have c69 := Lib.hid (Orders_ref l.length h7 w)
    have c63 := Lib.hid (fun A' c' W o hW hI hp => longest_ref A A' c c' (World.heap W).size l o W ((h.below (Below.refl _ _) hB).below (w' := W) (B' := (World.heap W).size) hW hW.size) hI hv hp)
    have Hm := Lib.hid (minTo_all hv)
    have hpos := ordS_pos l.length
    have hbd := ordS_bd h7
    have Hv := Lib.hid hv
    clear hv h
    rw [Hv.out]
    go_enter Try.func45, Try.ntmps45
    go_wp2_with (first
      | (go_at_call 43; refine cv.out.mono ?_; rintro e w1 ⟨rfl, rfl⟩)
      | (go_at_call 69; refine c69.out.mono ?_; rintro e w1 ⟨v, vs, rfl, hown, hL, hb⟩; obtain ⟨A0, c0, rfl⟩ := own_form hown; obtain ⟨A1, c1, hv1, hI1, _⟩ := hL.2 0 hpos; obtain ⟨g0, rfl, hg0, _, hcell⟩ := own_cell hown hpos hv1)
      | (go_at_call 63; refine (c63.out _ _ _ _ hb hI1 ((ordS_perm _ _).1 (List.getElem_mem hpos))).mono ?_; rintro e w2 ⟨rfl, rfl⟩))
    have H1 := Lib.hid (minTo_one l)
    go_loop [6, 8] (fun x i => ∃ k : Nat, 1 ≤ k ∧ k ≤ (ordS l.length).length ∧ i = .int .i64 k ∧ x = .int .i64 (minTo l k)) (fun _ i => (ordS l.length).length - (intOf i).toNat)
    case atStart => exact ⟨1, Nat.le_refl _, hpos, rfl, by rw [H1.out]⟩
    case round =>
      obtain ⟨k, hk1, hk, rfl, rfl⟩ := hrel
      by_cases hlt : k < (ordS l.length).length
      · obtain ⟨A2, c2, hv2, hI2, _⟩ := hL.2 k hlt
        obtain ⟨g1, e1, _, _, hcell2⟩ := own_cell hown hlt hv2
        obtain rfl : g0 = g1 := by injection e1 with e1; injection e1
        have hs := Lib.hid (minTo_succ l hk1 hlt)
        go_wp2_with (go_at_call 63; refine (c63.out _ _ _ _ hb hI2 ((ordS_perm _ _).1 (List.getElem_mem hlt))).mono ?_; rintro e w2 ⟨rfl, rfl⟩)
        go_round
        case rel => exact ⟨k + 1, by omega, by omega, by go_num, by rw [hs.out]⟩
        case measure => simp [intOf]; omega
      · obtain rfl : k = (ordS l.length).length := by omega
        rw [Hm.out]
        go_wp2_with fail
        go_ret2
        exact ⟨rfl, hb⟩
  · have hne : (valB l == 0) = false := by simpa using hv
    have hr : leastR l = 0 := if_neg hv
    rw [hr]
    generalize valB l = v at cv hv hne ⊢
    clear hr hv h
    go_enter Try.func45, Try.ntmps45
    go_wp2_with (go_at_call 43; refine cv.out.mono ?_; rintro e w1 ⟨rfl, rfl⟩)
    go_ret2
    exact ⟨rfl, Below.refl _ _⟩
end Go.Proofs.Ytoegemlpboeodaa
