/- KitchenCritical: the call returns true. -/
import Derived.Test.YtoegemlpboeodaaLawC
namespace Go.Proofs.Ytoegemlpboeodaa
open Go.RowKit

theorem crE_zero {l : List Bt} {o : List Int} (h : crE l o = 0) : exB l o = 0 ∧ ∃ a : Nat, crR l o = (a : Int) ∧ a < o.length ∧ sumK (bts l o) a = timeR l o := by
  unfold crE at h
  split at h
  · rename_i hx
    split at h
    · omega
    · rename_i h0
      obtain ⟨hv, hp⟩ := exB_zero hx
      have hol := ord_length hp
      obtain ⟨a, e, ha, hs⟩ := crit_at (bts_ok hv o) (by rw [bts_length]; omega)
      rw [bts_length] at ha
      exact ⟨hx, a, by rw [crR, if_pos hx, if_neg h0, e], ha, by rw [hs, timeR, if_pos hx]⟩
  · exact absurd h ‹_›

set_option maxRecDepth 100000 in
set_option maxHeartbeats 1000000 in
theorem critical_law (A A' : Option Addr) (c c' : Nat) (l : List Bt) (o : List Int) (w : World) (h : PairsAt w.heap.size w A l) (h' : IntsAt w.heap.size w A' o) (hm : l.length ≤ maxLen) (hm' : o.length ≤ maxLen) :
    Calls Try.prog 8 #[.slice A l.length c, .slice A' o.length c'] w fun e w' => e = .returned (.bool true) ∧ Below w.heap.size w w' := by
  have cl := Lib.hid (long_any A A' c c' l.length o.length w hm hm')
  unfold maxLen at hm hm'
  by_cases hlong : longB l.length o.length = true
  · rw [hlong] at cl
    clear h h' hlong
    go_enter Try.func8, Try.ntmps8
    go_wp2_with (first | (go_at_call 24; refine cl.out.mono ?_; rintro e w1 ⟨rfl, rfl⟩) | (go_at_call 18; refine (known_any _).mono ?_; rintro e w5 ⟨rfl, hb5⟩))
    go_ret
    exact ⟨rfl, hb5⟩
  · have hl1 : longB l.length o.length = false := by simpa using hlong
    rw [hl1] at cl
    have hs : l.length ≤ 100 ∧ o.length ≤ 100 := by simp [longB] at hl1; omega
    obtain ⟨hs1, hs2⟩ := hs
    clear hm hm' hlong hl1
    have c30 := Lib.hid (Critical_any A A' c c' w.heap.size l o w (Nat.le_refl _) h h' (by omega) (by omega))
    have c31 := Lib.hid (fun W hW => Critical_ref A A' c c' w.heap.size l o W (h.below (w' := W) (B' := w.heap.size) hW (Nat.le_refl _)) (h'.below (w' := W) (B' := w.heap.size) hW (Nat.le_refl _)) (by omega) (by omega))
    by_cases hx : crE l o = 0
    · obtain ⟨hx0, a, hcr, ha, hsum⟩ := crE_zero hx
      obtain ⟨hv, hp⟩ := exB_zero hx0
      have h7 := (valB_zero hv).1
      have hol := ord_length hp
      have ho7 : o.length ≤ 7 := by omega
      have c27 := Lib.hid (fun W hW => Time_any A A' c c' w.heap.size l o W (Below.size hW) (h.below (B' := w.heap.size) hW (Nat.le_refl _)) (h'.below (B' := w.heap.size) hW (Nat.le_refl _)) (by omega) (by omega))
      rw [hx0, ← hsum] at c27
      rw [hx, hcr] at c30 c31
      clear hx hcr hsum hol
      go_enter Try.func8, Try.ntmps8
      go_wp2_with (first
        | (go_at_call 24; refine cl.out.mono ?_; rintro e w1 ⟨rfl, rfl⟩)
        | (go_at_call 30; refine c30.out.mono ?_; rintro e w1 ⟨rfl, hb1⟩)
        | (go_at_call 31; refine (c31.out _ hb1).mono ?_; rintro e w2 ⟨rfl, rfl⟩)
        | (go_at_call 27; refine (c27.out _ hb1).mono ?_; rintro e w3 ⟨rfl, hb3⟩))
      have hb4 := hb1.trans (hb3.mono hb1.size)
      clear hb3
      go_loop [11, 12] (fun x i => ∃ j : Nat, j ≤ o.length ∧ i = .int .i64 j ∧ x = .int .i64 (smAt (bts l o) a j)) (fun _ i => o.length - (intOf i).toNat)
      case atStart => exact ⟨0, Nat.zero_le _, rfl, by rw [smAt_zero]⟩
      case round =>
        obtain ⟨j, hj, rfl, rfl⟩ := hrel
        have hbd := smAt_bd (bts_ok hv o) a (i := j) (by rw [bts_length]; exact hj)
        by_cases hlt : j < o.length
        · obtain ⟨m, b, off, b', off', hm, hml, rfl, rfl, hbB, hbB', c0, c1, c2⟩ := ord_cells h h' hp hlt
          have d0 := (hb4.cell (p := ⟨b', off' + j, none⟩) (by simp; omega)).trans c0
          have d1 := (hb4.cell (p := ⟨b, off + m * 2, none⟩) (by simp; omega)).trans c1
          have d2 := (hb4.cell (p := ⟨b, off + m * 2 + 1, none⟩) (by simp; omega)).trans c2
          have hbt := bt_bd hv o[j]
          have hss := smB_succ l o a hlt
          clear hm c0 c1 c2
          rcases Nat.lt_trichotomy j a with h1 | h1 | h1
          · rw [if_pos (by omega), if_neg (by omega)] at hss
            have Hss := Lib.hid hss
            clear hss
            go_wp2_with fail
            go_round
            case rel => exact ⟨j + 1, by omega, by go_num, by rw [Hss.out]; simp⟩
            case measure => simp [intOf]; omega
          · rw [if_pos (by omega), if_pos (by omega)] at hss
            have Hss := Lib.hid hss
            clear hss
            have h2 : j ≤ a := by omega
            have h3 : a ≤ j := by omega
            clear h1
            go_wp2_with fail
            go_round
            case rel => exact ⟨j + 1, by omega, by go_num, by rw [Hss.out]⟩
            case measure => simp [intOf]; omega
          · rw [if_neg (by omega), if_pos (by omega)] at hss
            have Hss := Lib.hid hss
            clear hss
            go_wp2_with fail
            go_round
            case rel => exact ⟨j + 1, by omega, by go_num, by rw [Hss.out]; simp⟩
            case measure => simp [intOf]; omega
        · obtain rfl : j = o.length := by omega
          have hss : smAt (bts l o) a o.length = sumK (bts l o) a := by rw [← bts_length l o, smAt_all]
          rw [hss]
          clear hss
          go_wp2_with (go_at_call 18; refine (known_any _).mono ?_; rintro e w5 ⟨rfl, hb5⟩)
          go_ret
          exact ⟨rfl, hb4.trans (hb5.mono hb4.size)⟩
    · have hne : (crE l o == 0) = false := by simpa using hx
      have hne2 : (crE l o != 0) = true := by simpa using hx
      generalize crE l o = e0 at c30 c31 hx hne hne2
      clear hx h h'
      go_enter Try.func8, Try.ntmps8
      go_wp2_with (first
        | (go_at_call 24; refine cl.out.mono ?_; rintro e w1 ⟨rfl, rfl⟩)
        | (go_at_call 30; refine c30.out.mono ?_; rintro e w1 ⟨rfl, hb1⟩)
        | (go_at_call 31; refine (c31.out _ hb1).mono ?_; rintro e w2 ⟨rfl, rfl⟩)
        | (go_at_call 18; refine (known_any _).mono ?_; rintro e w5 ⟨rfl, hb5⟩))
      go_ret
      exact ⟨rfl, hb1.trans (hb5.mono hb1.size)⟩

set_option maxRecDepth 100000 in
set_option maxHeartbeats 2000000 in
theorem runs_law (A A' : Option Addr) (c c' : Nat) (l : List Bt) (o : List Int) (w : World) (h : PairsAt w.heap.size w A l) (h' : IntsAt w.heap.size w A' o) (hm : l.length ≤ maxLen) (hm' : o.length ≤ maxLen) :
    Calls Try.prog 11 #[.slice A l.length c, .slice A' o.length c'] w fun e w' => e = .returned (.bool true) ∧ Below w.heap.size w w' := by
  have cl := Lib.hid (long_any A A' c c' l.length o.length w hm hm')
  unfold maxLen at hm hm'
  by_cases hlong : longB l.length o.length = true
  · rw [hlong] at cl
    clear h h' hlong
    go_enter Try.func11, Try.ntmps11
    go_wp2_with (first | (go_at_call 24; refine cl.out.mono ?_; rintro e w1 ⟨rfl, rfl⟩) | (go_at_call 18; refine (known_any _).mono ?_; rintro e w5 ⟨rfl, hb5⟩))
    go_ret
    exact ⟨rfl, hb5⟩
  · have hl1 : longB l.length o.length = false := by simpa using hlong
    rw [hl1] at cl
    have hs : l.length ≤ 100 ∧ o.length ≤ 100 := by simp [longB] at hl1; omega
    obtain ⟨hs1, hs2⟩ := hs
    clear hm hm' hlong hl1
    have c27 := Lib.hid (fun W hW => Time_any A A' c c' w.heap.size l o W (Below.size hW) (h.below (B' := w.heap.size) hW (Nat.le_refl _)) (h'.below (B' := w.heap.size) hW (Nat.le_refl _)) (by omega) (by omega))
    have c39 := Lib.hid (fun W hW => Time_ref A A' c c' w.heap.size l o W (h.below (w' := W) (B' := w.heap.size) hW (Nat.le_refl _)) (h'.below (w' := W) (B' := w.heap.size) hW (Nat.le_refl _)) (by omega) (by omega))
    have c40 := Lib.hid (fun W hW => Idle_any A A' c c' w.heap.size l o W (Below.size hW) (h.below (B' := w.heap.size) hW (Nat.le_refl _)) (h'.below (B' := w.heap.size) hW (Nat.le_refl _)) (by omega) (by omega))
    have c41 := Lib.hid (fun W hW => Idle_ref A A' c c' w.heap.size l o W (Below.size hW) (h.below (w' := W) (B' := w.heap.size) hW (Nat.le_refl _)) (h'.below (w' := W) (B' := w.heap.size) hW (Nat.le_refl _)) (by omega) (by omega))
    have c42 := Lib.hid (fun W hW => validate_any A c w.heap.size l W (Below.size hW) (h.below (w' := W) (B' := w.heap.size) hW (Nat.le_refl _)) (by omega))
    have c43 := Lib.hid (fun W hW => validate_ref A c w.heap.size l W (h.below (w' := W) (B' := w.heap.size) hW (Nat.le_refl _)) (by omega))
    by_cases hx : exB l o = 0
    · have c37 := Lib.hid (Run_any A A' c c' w.heap.size l o w (Nat.le_refl _) h h' (by omega) (by omega) hx)
      have c38 := Lib.hid (fun W hW => Run_ref A A' c c' w.heap.size l o W (Below.size hW) (h.below (w' := W) (B' := w.heap.size) hW (Nat.le_refl _)) (h'.below (w' := W) (B' := w.heap.size) hW (Nat.le_refl _)) (by omega) (by omega) hx)
      rw [hx] at c27 c39 c40 c41
      generalize timeR l o = tn at c27 c39
      generalize idR l o = dn at c40 c41
      generalize valB l = vn at c42 c43
      clear hx h h'
      go_enter Try.func11, Try.ntmps11
      go_wp2_with (first
        | (go_at_call 24; refine cl.out.mono ?_; rintro e w1 ⟨rfl, rfl⟩)
        | (go_at_call 37; refine c37.out.mono ?_; rintro e w1 ⟨C1, q1, rfl, hR1, hb1⟩)
        | (go_at_call 38; refine (c38.out _ hb1).mono ?_; rintro e w2 ⟨C2, q2, rfl, hR2, hb2⟩; have hbb := hb1.trans (hb2.mono hb1.size); have B0 := Below.refl w2.heap.size w2)
        | (go_at_call 27; refine (c27.out _ hbb).mono ?_; rintro e w3 ⟨rfl, hb3⟩; have hbb3 := hbb.trans (hb3.mono hbb.size))
        | (go_at_call 39; refine (c39.out _ hbb3).mono ?_; rintro e w4 ⟨rfl, rfl⟩)
        | (go_at_call 40; refine (c40.out _ hbb3).mono ?_; rintro e w5 ⟨rfl, hb5⟩; have hbb5 := hbb3.trans (hb5.mono hbb3.size); have B5 := hb3.trans (hb5.mono hb3.size))
        | (go_at_call 41; refine (c41.out _ hbb5).mono ?_; rintro e w6 ⟨rfl, hb6⟩; have hbb6 := hbb5.trans (hb6.mono hbb5.size); have B6 := B5.trans (hb6.mono B5.size))
        | (go_at_call 42; refine (c42.out _ hbb6).mono ?_; rintro e w7 ⟨rfl, hb7⟩; have hbb7 := hbb6.trans (hb7.mono hbb6.size); have B7 := B6.trans (hb7.mono B6.size))
        | (go_at_call 43; refine (c43.out _ hbb7).mono ?_; rintro e w8 ⟨rfl, rfl⟩))
      have R1 := (hR1.below hb2 hb2.size).below B7 (Nat.le_refl _)
      have R2 := hR2.below B7 (Nat.le_refl _)
      have Hbb7 := Lib.hid hbb7
      clear hR1 hR2 hb1 hb2 hbb B0 hb3 hbb3 hb5 hbb5 B5 hb6 hbb6 B6 hb7 hbb7 B7
      go_loopw [17] (fun i wr => ∃ k : Nat, k ≤ o.length ∧ i = .int .i64 k ∧ Drew w7 wr) (fun i _ => o.length - (intOf i).toNat)
      case atStart => exact ⟨0, Nat.zero_le _, rfl, 0, rfl⟩
      case round =>
        obtain ⟨k, hk, rfl, hb⟩ := hrel
        by_cases hlt : k < o.length
        · obtain ⟨b, off, rfl, hbB, r0, r1, r2, r3, r4⟩ := run_cells R1 hlt
          obtain ⟨b', off', rfl, hbB', t0, t1, t2, t3, t4⟩ := run_cells R2 hlt
          have d0 := (hb.cell _).trans r0
          have d1 := (hb.cell _).trans r1
          have d2 := (hb.cell _).trans r2
          have d3 := (hb.cell _).trans r3
          have d4 := (hb.cell _).trans r4
          have e0 := (hb.cell _).trans t0
          have e1 := (hb.cell _).trans t1
          have e2 := (hb.cell _).trans t2
          have e3 := (hb.cell _).trans t3
          have e4 := (hb.cell _).trans t4
          have Hb := Lib.hid hb
          have k0 : (0 : Int) ≤ (k : Int) := by omega
          have k1 : (k : Int) < (o.length : Int) := by omega
          generalize max ((stAt l o k).1 + (bt l o[k]).1) (stAt l o k).2 + (bt l o[k]).2 = x4 at d4 e4
          generalize max ((stAt l o k).1 + (bt l o[k]).1) (stAt l o k).2 = x3 at d3 e3
          generalize (stAt l o k).1 + (bt l o[k]).1 = x2 at d2 e2
          generalize (stAt l o k).1 = x1 at d1 e1
          generalize o[k] = x0 at d0 e0
          clear hb r0 r1 r2 r3 r4 t0 t1 t2 t3 t4
          go_wp2_with fail
          go_quiet (fail)
          go_wp2_with fail
          go_roundw
          case rel => exact ⟨k + 1, by omega, by go_num, Hb.out.drewN _⟩
          case measure => simp [intOf]; omega
        · obtain rfl : k = o.length := by omega
          have hbz := Hbb7.out.trans (hb.below w.heap.size)
          go_wp2_with (go_at_call 18; refine (known_any _).mono ?_; rintro e w9 ⟨rfl, hb9⟩)
          go_ret
          exact ⟨rfl, hbz.trans (hb9.mono hbz.size)⟩
    · have c37 := Lib.hid (Run_bad A A' c c' w.heap.size l o w (Nat.le_refl _) h h' (by omega) (by omega) hx)
      have c38 := Lib.hid (fun W hW => Run_ref_bad A A' c c' w.heap.size l o W (h.below (w' := W) (B' := w.heap.size) hW (Nat.le_refl _)) (h'.below (w' := W) (B' := w.heap.size) hW (Nat.le_refl _)) (by omega) (by omega) hx)
      generalize exB l o = en at c37 c38 c27 c39 c40 c41
      generalize timeR l o = tn at c27 c39
      generalize idR l o = dn at c40 c41
      generalize valB l = vn at c42 c43
      clear hx h h'
      go_enter Try.func11, Try.ntmps11
      go_wp2_with (first
        | (go_at_call 24; refine cl.out.mono ?_; rintro e w1 ⟨rfl, rfl⟩)
        | (go_at_call 37; refine c37.out.mono ?_; rintro e w1 ⟨rfl, hbb⟩)
        | (go_at_call 38; refine (c38.out _ hbb).mono ?_; rintro e w2 ⟨rfl, rfl⟩)
        | (go_at_call 27; refine (c27.out _ hbb).mono ?_; rintro e w3 ⟨rfl, hb3⟩; have hbb3 := hbb.trans (hb3.mono hbb.size))
        | (go_at_call 39; refine (c39.out _ hbb3).mono ?_; rintro e w4 ⟨rfl, rfl⟩)
        | (go_at_call 40; refine (c40.out _ hbb3).mono ?_; rintro e w5 ⟨rfl, hb5⟩; have hbb5 := hbb3.trans (hb5.mono hbb3.size))
        | (go_at_call 41; refine (c41.out _ hbb5).mono ?_; rintro e w6 ⟨rfl, hb6⟩; have hbb6 := hbb5.trans (hb6.mono hbb5.size))
        | (go_at_call 42; refine (c42.out _ hbb6).mono ?_; rintro e w7 ⟨rfl, hb7⟩; have hbb7 := hbb6.trans (hb7.mono hbb6.size))
        | (go_at_call 43; refine (c43.out _ hbb7).mono ?_; rintro e w8 ⟨rfl, rfl⟩))
      go_loop [17] (fun i => i = .int .i64 0) (fun _ => 0)
      case atStart => rfl
      case round =>
        obtain rfl := hrel
        go_wp2_with (go_at_call 18; refine (known_any _).mono ?_; rintro e w9 ⟨rfl, hb9⟩)
        go_ret
        exact ⟨rfl, hbb7.trans (hb9.mono hbb7.size)⟩
end Go.Proofs.Ytoegemlpboeodaa
