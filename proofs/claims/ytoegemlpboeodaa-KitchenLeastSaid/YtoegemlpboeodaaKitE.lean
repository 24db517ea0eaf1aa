/- Bound, the program's and the reference's. -/
import Derived.Test.YtoegemlpboeodaaKitD
import Derived.Test.YtoegemlpboeodaaPlain4
import Derived.WalkLawsBesides
namespace Go.Proofs.Ytoegemlpboeodaa
open Go.RowKit

/-- Some orders have been drawn; else the world is as it was. -/
def Drew (w w' : World) : Prop := ∃ n, w' = w.drewN n
theorem Drew.cell {w w' : World} (h : Drew w w') (p : Addr) : w'.cell? p = w.cell? p := by obtain ⟨n, rfl⟩ := h; rfl
theorem Drew.drewN {w w' : World} (h : Drew w w') (m : Nat) : Drew w (w'.drewN m) := by obtain ⟨n, rfl⟩ := h; exact ⟨n + m, by rw [World.drewN_drewN]⟩
theorem Drew.below {w w' : World} (h : Drew w w') (B : Nat) : Below B w w' := by obtain ⟨n, rfl⟩ := h; exact below_drewN (Below.refl _ _) n

set_option maxRecDepth 100000 in
set_option maxHeartbeats 1000000 in
theorem Bound_any (A : Option Addr) (c B : Nat) (l : List Bt) (w : World) (hB : B ≤ w.heap.size) (h : PairsAt B w A l) (hm : l.length ≤ 1000) :
    Calls Try.prog 25 #[.slice A l.length c] w fun e w' => e = .returned (.tuple #[.int .i64 (bndR l), .int .i64 (valB l)]) ∧ Below w.heap.size w w' := by
  have ce := Lib.hid (validate_any A c B l w hB h hm)
  by_cases hx : valB l = 0
  · rw [hx] at ce
    have h7 := (valB_zero hx).1
    have okl : OkL l := (valB_zero hx).2
    by_cases h0 : l.length = 0
    · have Hr := Lib.hid (show bndR l = 0 ∧ valB l = 0 by simp [bndR, bndS, hx, h0])
      have h1 : ((l.length : Int) == 0) = true := by rw [beq_iff_eq]; omega
      clear h hx h0
      go_enter Try.func25, Try.ntmps25
      go_wp2_with (go_at_call 42; refine ce.out.mono ?_; rintro e w1 ⟨rfl, hb1⟩)
      go_ret2
      exact ⟨by rw [Hr.out.1, Hr.out.2]; rfl, hb1⟩
    · have h0' : 0 < l.length := by omega
      have Hr := Lib.hid (show bndR l = max (max (cookT l + mnP l l.length) (mnC l l.length + packT l)) (mxB l l.length) ∧ valB l = 0 by simp [bndR, bndS, hx, h0])
      have h1 : ((l.length : Int) == 0) = false := by rw [beq_eq_false_iff_ne]; omega
      have h2 : (0 : Int) < (l.length : Int) := by omega
      obtain ⟨b0, off0, rfl, hbB0, z1, z2⟩ := h.at h0'
      have Hz := Lib.hid (show mnC l 0 = l[0].1 ∧ mnP l 0 = l[0].2 by simp [mnC, mnP, bt_zero h0'])
      clear hx h0
      simp only [Nat.zero_mul, Nat.add_zero] at z1 z2
      go_enter Try.func25, Try.ntmps25
      go_wp2_with (go_at_call 42; refine ce.out.mono ?_; rintro e w1 ⟨rfl, hb1⟩; have y1 := (hb1.cell (p := ⟨b0, off0, none⟩) (by simp; omega)).trans z1; have y2 := (hb1.cell (p := ⟨b0, off0 + 1, none⟩) (by simp; omega)).trans z2)
      go_quiet (fail)
      go_wp2_with fail
      go_loopw [5, 6, 7, 8, 9, 30] (fun x5 x6 x7 x8 x9 i wr => ∃ k : Nat, k ≤ l.length ∧ i = .int .i64 k ∧ x5 = .int .i64 (cookT (l.take k)) ∧ x6 = .int .i64 (packT (l.take k)) ∧ x7 = .int .i64 (mxB l k) ∧ x8 = .int .i64 (mnC l k) ∧ x9 = .int .i64 (mnP l k) ∧ Below w.heap.size w wr) (fun _ _ _ _ _ i _ => l.length - (intOf i).toNat)
      case atStart => exact ⟨0, Nat.zero_le _, rfl, rfl, rfl, rfl, by rw [Hz.out.1], by rw [Hz.out.2], below_drewN hb1 _⟩
      case round =>
        obtain ⟨k, hk, rfl, rfl, rfl, rfl, rfl, rfl, hb⟩ := hrel
        have hbd := T_bd (okl.take k)
        have hll : (l.take k).length ≤ 7 := by simp; omega
        have hmn := mn_bd okl h0' hk
        by_cases hlt : k < l.length
        · obtain ⟨b, off, e, hbB, hc1, hc2⟩ := h.at hlt
          obtain ⟨rfl, rfl⟩ : b0 = b ∧ off0 = off := by injection e with e; injection e with e1 e2; exact ⟨e1, e2⟩
          have hc1' := (hb.cell (p := ⟨b0, off0 + k * 2, none⟩) (by simp; omega)).trans hc1
          have hc2' := (hb.cell (p := ⟨b0, off0 + k * 2 + 1, none⟩) (by simp; omega)).trans hc2
          have hg := okl.get hlt
          have Hpt := Lib.hid (show cookT (l.take (k + 1)) = _ ∧ packT (l.take (k + 1)) = _ ∧ mxB l (k + 1) = _ ∧ mnC l (k + 1) = _ ∧ mnP l (k + 1) = _ from ⟨cookT_take hlt, packT_take hlt, mxB_succ hlt, mnC_succ hlt, mnP_succ hlt⟩)
          clear hc1 hc2
          go_wp2_with fail
          go_quiet (fail)
          go_wp2_with fail
          go_roundw
          case rel => exact ⟨k + 1, by omega, by go_num, by rw [Hpt.out.1], by rw [Hpt.out.2.1], by rw [Hpt.out.2.2.1], by rw [Hpt.out.2.2.2.1], by rw [Hpt.out.2.2.2.2], below_drewN (hb.alloc hb.size _) _⟩
          case measure => simp [intOf]; omega
        · obtain rfl : k = l.length := by omega
          have hbd2 := T_bd okl
          go_wp2_with fail
          all_goals
            go_ret2
            refine ⟨?_, hb⟩
            rw [Hr.out.1, Hr.out.2]
            simp
            omega
  · have Hr := Lib.hid (show bndR l = 0 by simp [bndR, hx])
    clear h
    have hne : (valB l == 0) = false := by simpa using hx
    generalize valB l = e0 at ce hx hne ⊢
    clear hx
    go_enter Try.func25, Try.ntmps25
    go_wp2_with (go_at_call 42; refine ce.out.mono ?_; rintro e w1 ⟨rfl, hb1⟩)
    go_ret2
    exact ⟨by rw [Hr.out]; rfl, hb1⟩

set_option maxRecDepth 100000 in
set_option maxHeartbeats 1000000 in
theorem Bound_ref (A : Option Addr) (c B : Nat) (l : List Bt) (w : World) (h : PairsAt B w A l) (hm : l.length ≤ 1000) :
    Calls Try.prog 26 #[.slice A l.length c] w fun e w' => e = .returned (.tuple #[.int .i64 (bndR l), .int .i64 (valB l)]) ∧ ∃ n, w' = w.drewN n := by
  have ce := Lib.hid (validate_ref A c B l w h hm)
  by_cases hx : valB l = 0
  · rw [hx] at ce
    have h7 := (valB_zero hx).1
    have okl : OkL l := (valB_zero hx).2
    by_cases h0 : l.length = 0
    · have Hr := Lib.hid (show bndR l = 0 ∧ valB l = 0 by simp [bndR, bndS, hx, h0])
      have h1 : ((l.length : Int) == 0) = true := by rw [beq_iff_eq]; omega
      clear h hx h0
      go_enter Try.func26, Try.ntmps26
      go_wp2_with (go_at_call 43; refine ce.out.mono ?_; rintro e w1 ⟨rfl, rfl⟩)
      go_ret2
      exact ⟨by rw [Hr.out.1, Hr.out.2]; rfl, 0, rfl⟩
    · have h0' : 0 < l.length := by omega
      have Hr := Lib.hid (show bndR l = max (max (cookT l + mnP l l.length) (mnC l l.length + packT l)) (mxB l l.length) ∧ valB l = 0 by simp [bndR, bndS, hx, h0])
      have h1 : ((l.length : Int) == 0) = false := by rw [beq_eq_false_iff_ne]; omega
      have h2 : (0 : Int) < (l.length : Int) := by omega
      obtain ⟨b0, off0, rfl, hbB0, z1, z2⟩ := h.at h0'
      have Hz := Lib.hid (show mnC l 0 = l[0].1 ∧ mnP l 0 = l[0].2 by simp [mnC, mnP, bt_zero h0'])
      clear hx h0
      simp only [Nat.zero_mul, Nat.add_zero] at z1 z2
      go_enter Try.func26, Try.ntmps26
      go_wp2_with (go_at_call 43; refine ce.out.mono ?_; rintro e w1 ⟨rfl, rfl⟩)
      go_quiet (fail)
      go_wp2_with fail
      go_loopw [5, 6, 7, 8, 9, 10] (fun x5 x6 x7 x8 x9 i wr => ∃ k : Nat, k ≤ l.length ∧ i = .int .i64 k ∧ x5 = .int .i64 (cookT (l.take k)) ∧ x6 = .int .i64 (packT (l.take k)) ∧ x7 = .int .i64 (mxB l k) ∧ x8 = .int .i64 (mnC l k) ∧ x9 = .int .i64 (mnP l k) ∧ Drew w wr) (fun _ _ _ _ _ i _ => l.length - (intOf i).toNat)
      case atStart => exact ⟨0, Nat.zero_le _, rfl, rfl, rfl, rfl, by rw [Hz.out.1], by rw [Hz.out.2], _, rfl⟩
      case round =>
        obtain ⟨k, hk, rfl, rfl, rfl, rfl, rfl, rfl, hb⟩ := hrel
        have hbd := T_bd (okl.take k)
        have hll : (l.take k).length ≤ 7 := by simp; omega
        have hmn := mn_bd okl h0' hk
        by_cases hlt : k < l.length
        · obtain ⟨b, off, e, hbB, hc1, hc2⟩ := h.at hlt
          obtain ⟨rfl, rfl⟩ : b0 = b ∧ off0 = off := by injection e with e; injection e with e1 e2; exact ⟨e1, e2⟩
          have hc1' := (hb.cell _).trans hc1
          have hc2' := (hb.cell _).trans hc2
          have hg := okl.get hlt
          have hki : (0 : Int) ≤ (k : Int) := by omega
          have hkl : (k : Int) < (l.length : Int) := by omega
          have Hpt := Lib.hid (show cookT (l.take (k + 1)) = _ ∧ packT (l.take (k + 1)) = _ ∧ mxB l (k + 1) = _ ∧ mnC l (k + 1) = _ ∧ mnP l (k + 1) = _ from ⟨cookT_take hlt, packT_take hlt, mxB_succ hlt, mnC_succ hlt, mnP_succ hlt⟩)
          have Hb := Lib.hid hb
          clear hc1 hc2 hb
          go_wp2_with fail
          go_quiet (fail)
          go_wp2_with fail
          go_roundw
          case rel => exact ⟨k + 1, by omega, by go_num, by rw [Hpt.out.1], by rw [Hpt.out.2.1], by rw [Hpt.out.2.2.1], by rw [Hpt.out.2.2.2.1], by rw [Hpt.out.2.2.2.2], Hb.out.drewN _⟩
          case measure => simp [intOf]; omega
        · obtain rfl : k = l.length := by omega
          have Hb := Lib.hid hb
          have hbd2 := T_bd okl
          clear hb
          go_wp2_with fail
          all_goals
            go_ret2
            refine ⟨?_, Hb.out⟩
            rw [Hr.out.1, Hr.out.2]
            simp
            omega
  · have Hr := Lib.hid (show bndR l = 0 by simp [bndR, hx])
    clear h
    have hne : (valB l == 0) = false := by simpa using hx
    generalize valB l = e0 at ce hx hne ⊢
    clear hx
    go_enter Try.func26, Try.ntmps26
    go_wp2_with (go_at_call 43; refine ce.out.mono ?_; rintro e w1 ⟨rfl, rfl⟩)
    go_ret2
    exact ⟨by rw [Hr.out]; rfl, 0, rfl⟩
end Go.Proofs.Ytoegemlpboeodaa
