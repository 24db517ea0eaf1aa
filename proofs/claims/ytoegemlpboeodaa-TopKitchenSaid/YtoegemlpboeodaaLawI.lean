/- TopKitchen: the call returns true where the order is one of some batches. -/
import Derived.Test.YtoegemlpboeodaaLawH
namespace Go.Proofs.Ytoegemlpboeodaa
open Go.RowKit

theorem timeR_bd {l : List Bt} {o : List Int} (hx : exB l o = 0) : 0 ≤ timeR l o ∧ timeR l o ≤ 14000 := by
  obtain ⟨hv, hp⟩ := exB_zero hx
  have hol := ord_length hp
  have hm := (valB_zero hv).1
  have := (stAt_bd (o := o) hv (Nat.le_refl _)).2.2
  rw [stAt_all] at this
  rw [timeR, if_pos hx]
  omega
theorem top_facts {l : List Bt} {o : List Int} (hx : exB l o = 0) : (srtR l o = false ∨ (srtR l o = true ∧ (timeR l o != leastR l) = false ∧ (timeR l o == leastR l) = true)) ∧ leastR l ≤ timeR l o := by
  refine ⟨?_, time_top hx⟩
  cases hs : srtR l o
  · exact .inl rfl
  · refine .inr ⟨rfl, ?_⟩
    rw [(srt_best hs).1]
    simp

set_option maxRecDepth 100000 in
set_option maxHeartbeats 1000000 in
theorem top_some (A A' : Option Addr) (c c' : Nat) (l : List Bt) (o : List Int) (w : World) (h : PairsAt w.heap.size w A l) (h' : IntsAt w.heap.size w A' o) (hm' : o.length ≤ 100) (hcap : o.length ≤ c') (hcap2 : c' ≤ maxLen) (hx : exB l o = 0) (h0 : 0 < l.length) :
    Calls Try.prog 16 #[.slice A l.length c, .slice A' o.length c'] w fun e w' => e = .returned (.bool true) ∧ Below w.heap.size w w' := by
  unfold maxLen at hcap2
  have k44 := Lib.hid (k44_any w)
  obtain ⟨hv, hp⟩ := exB_zero hx
  have hol := ord_length hp
  have hm := (valB_zero hv).1
  obtain ⟨bx, bt, bb⟩ := best_top hv
  have c44 := Lib.hid (fun W hW => Least_any A c w.heap.size l W (Below.size hW) (h.below (B' := w.heap.size) hW (Nat.le_refl _)) (by omega))
  have c46 := Lib.hid (fun W hW => Best_any A c w.heap.size l W (Below.size hW) (h.below (B' := w.heap.size) hW (Nat.le_refl _)) (by omega))
  have c25 := Lib.hid (fun W hW => Bound_any A c w.heap.size l W (Below.size hW) (h.below (B' := w.heap.size) hW (Nat.le_refl _)) (by omega))
  have c27 := Lib.hid (fun W hW => Time_any A A' c c' w.heap.size l o W (Below.size hW) (h.below (B' := w.heap.size) hW (Nat.le_refl _)) (h'.below (B' := w.heap.size) hW (Nat.le_refl _)) (by omega) (by omega))
  have hbl : (bestR l).length ≤ 100 := by rw [ord_length (exB_zero bx).2]; omega
  have c27b := Lib.hid (fun A9 c9 W hW hI => Time_any A A9 c c9 (World.heap W).size l (bestR l) W (Nat.le_refl _) (h.below (B' := (World.heap W).size) hW hW.size) hI (by omega) (by omega))
  have c37 := Lib.hid (fun W hW => Run_any A A' c c' w.heap.size l o W (Below.size hW) (h.below (B' := w.heap.size) hW (Nat.le_refl _)) (h'.below (B' := w.heap.size) hW (Nat.le_refl _)) (by omega) (by omega) hx)
  have c40 := Lib.hid (fun W hW => Idle_any A A' c c' w.heap.size l o W (Below.size hW) (h.below (B' := w.heap.size) hW (Nat.le_refl _)) (h'.below (B' := w.heap.size) hW (Nat.le_refl _)) (by omega) (by omega))
  have c50 := Lib.hid (fun W hW => Sorted_any A A' c c' w.heap.size l o W (Below.size hW) (h.below (B' := w.heap.size) hW (Nat.le_refl _)) (h'.below (B' := w.heap.size) hW (Nat.le_refl _)) (by omega) (by omega) hcap hcap2)
  have c30 := Lib.hid (fun W hW => Critical_any A A' c c' w.heap.size l o W (Below.size hW) (h.below (B' := w.heap.size) hW (Nat.le_refl _)) (h'.below (B' := w.heap.size) hW (Nat.le_refl _)) (by omega) (by omega))
  obtain ⟨kc, hk1, hk2, hk3, hk4⟩ := run_crit hx h0
  obtain ⟨hsn, htn⟩ := top_facts hx
  have hil := idle_all hx
  obtain ⟨n, hn⟩ : ∃ n, l.length = n + 1 := ⟨l.length - 1, by omega⟩
  have hlast := run_last (l := l) (o := o) (k := n) (by omega) hx
  rw [run_row (by omega)] at hlast
  rw [run_row hk3] at hk4
  rw [hx] at c27 c40 c50
  rw [bx, bt] at c27b
  rw [hv] at c44 c46 c25
  rw [hk1, hk2] at c30
  have okl : OkL l := (valB_zero hv).2
  have hgt : decide (bndR l > leastR l) = false := by simpa using bb
  have hlt : decide (timeR l o < leastR l) = false := by simpa using htn
  have T0 := And.intro (T_bd okl) (timeR_bd hx)
  clear hx hv hp bx bt hk1 hk2
  -- the cells of runs are named, then the numbers
  have hruns : ∀ B W C, RowsAt B W C 5 (runS l o) → ∃ b off, C = some ⟨b, off, none⟩ ∧ b < B ∧ W.cell? ⟨b, off + n * 5 + 4, none⟩ = some (.int .i64 (timeR l o)) ∧
      ∃ z, W.cell? ⟨b, off + kc * 5 + 2, none⟩ = some (.int .i64 z) ∧ W.cell? ⟨b, off + kc * 5 + 3, none⟩ = some (.int .i64 z) := by
    intro B W C hR
    obtain ⟨b, off, rfl, hbB, _, _, _, _, r4⟩ := run_cells hR (k := n) (by omega)
    obtain ⟨b', off', e, _, _, _, t2, t3, _⟩ := run_cells hR (k := kc) hk3
    obtain ⟨rfl, rfl⟩ : b = b' ∧ off = off' := by injection e with e; injection e with e1 e2; exact ⟨e1, e2⟩
    refine ⟨b, off, rfl, hbB, ?_, _, t2, ?_⟩
    · rw [r4]; exact congrArg (fun x => some (Value.int .i64 x)) hlast
    · rw [t3]; exact congrArg (fun x => some (Value.int .i64 x)) hk4
  have HR := Lib.hid hruns
  clear hruns hlast hk4
  have e1 : ((o.length : Int) != (l.length : Int)) = false := by rw [hol]; simp
  have e2 : ((o.length : Int) == (l.length : Int)) = true := by rw [hol]; simp
  have e3 : ((o.length : Int) == 0) = false := by rw [beq_eq_false_iff_ne]; omega
  generalize leastR l = ln at c44 c27b hgt bb hsn htn hlt
  generalize bndR l = bn at c25 hgt bb
  generalize timeR l o = tn at c27 HR hsn htn hlt hil T0
  generalize bestR l = bo at c46 c27b hbl
  generalize idR l o = dn at c40 hil
  generalize runS l o = rs at HR c37
  generalize srtR l o = sn at c50 hsn
  have HE := Lib.hid (And.intro hol (And.intro hn (And.intro hil (And.intro h (And.intro okl (And.intro T0 hk3))))))
  clear hol hn hil h h' okl T0 hk3 hcap hcap2 hbl
  rcases hsn with hsn | ⟨hsn, hq1, hq2⟩
  · subst hsn
    have tok := Lib.hid (Nat.le_refl 0)
    go_enter Try.func16, Try.ntmps16
    go_wp2_with (first
      | (go_at_call 44; have tk := tok; clear tok; refine k44.out.mono ?_; rintro e w1 ⟨rfl, hb1⟩)
      | (go_at_call 44; refine (c44.out _ hb1).mono ?_; rintro e w2 ⟨rfl, hd⟩; have hb2 := hb1.trans (hd.mono hb1.size); clear hd)
      | (go_at_call 46; refine (c46.out _ hb2).mono ?_; rintro e w3 ⟨v3, rfl, ho, hd⟩; have hb3 := hb2.trans (hd.mono hb2.size); obtain ⟨A9, c9, rfl, hI3⟩ := IntsAt.of_own' ho; clear hd ho)
      | (go_at_call 25; refine (c25.out _ hb3).mono ?_; rintro e w4 ⟨rfl, hd⟩; have hb4 := hb3.trans (hd.mono hb3.size); have hI4 := hI3.below hd hd.size; clear hd hI3)
      | (go_at_call 27; refine (c27b.out _ _ _ hb4 hI4).mono ?_; rintro e w5 ⟨rfl, hd⟩; have hb5 := hb4.trans (hd.mono hb4.size); clear hd hI4)
      | (go_at_call 27; refine (c27.out _ hb5).mono ?_; rintro e w6 ⟨rfl, hd⟩; have hb6 := hb5.trans (hd.mono hb5.size); clear hd)
      | (go_at_call 37; refine (c37.out _ hb6).mono ?_; rintro e w7 ⟨C1, q1, rfl, hR, hd⟩; have hb7 := hb6.trans (hd.mono hb6.size); clear hd)
      | (go_at_call 40; refine (c40.out _ hb7).mono ?_; rintro e w8 ⟨rfl, hd⟩; have hb8 := hb7.trans (hd.mono hb7.size); have hd8 := hd; clear hd)
      | (go_at_call 50; refine (c50.out _ hb8).mono ?_; rintro e w9 ⟨rfl, hd⟩; have hb9 := hb8.trans (hd.mono hb8.size); have hd9 := hd8.trans (hd.mono hd8.size); clear hd))
    go_loop [22, 23] (fun x i => ∃ k : Nat, k ≤ l.length ∧ i = .int .i64 k ∧ x = .int .i64 (packT (l.take k))) (fun _ i => l.length - (intOf i).toNat)
    case atStart => exact ⟨0, Nat.zero_le _, rfl, rfl⟩
    case round =>
      obtain ⟨k, hk, rfl, rfl⟩ := hrel
      obtain ⟨hol, hn, hil, h, okl, T0, hk3⟩ := HE.out
      have T1 := T_bd (okl.take k)
      have hll : (l.take k).length ≤ 7 := by simp; omega
      by_cases hlt : k < l.length
      · obtain ⟨b, off, rfl, hbB, hc1, hc2⟩ := h.at hlt
        have hc2' := (hb9.cell (p := ⟨b, off + k * 2 + 1, none⟩) hbB).trans hc2
        have hg := okl.get hlt
        have Hpt := Lib.hid (packT_take hlt)
        clear hc1 hc2
        go_wp2_with fail
        go_round
        case rel => exact ⟨k + 1, by omega, by go_num, by rw [Hpt.out]⟩
        case measure => simp [intOf]; omega
      · obtain rfl : k = l.length := by omega
        obtain ⟨b, off, rfl, hbB, r4, z, t2, t3⟩ := HR.out _ _ _ hR
        obtain ⟨m, hmn, r4m⟩ : ∃ m, m = (o.length - 1) ∧ w7.cell? ⟨b, off + m * 5 + 4, none⟩ = some (.int .i64 tn) := ⟨n, by omega, r4⟩
        subst hmn
        have y4 := (hd9.cell (p := ⟨b, off + (o.length - 1) * 5 + 4, none⟩) hbB).trans r4m
        have y2 := (hd9.cell (p := ⟨b, off + kc * 5 + 2, none⟩) hbB).trans t2
        have y3 := (hd9.cell (p := ⟨b, off + kc * 5 + 3, none⟩) hbB).trans t3
        have hsum : packT (l.take l.length) = packT l := by rw [List.take_length]
        rw [hsum]
        generalize packT l = pk at hil T0
        have Ha := Lib.hid (And.intro hol hn)
        have i1 : (n : Int) + 1 ≤ o.length := by omega
        have i2 : (o.length : Int) ≤ n + 1 := by omega
        have i3 : (kc : Int) < o.length := by omega
        have i4 : 0 ≤ dn + pk ∧ dn + pk ≤ 14000 := by omega
        have j1 : ((dn + pk : Int) == tn) = true := by rw [beq_iff_eq]; omega
        have j2 : ((dn + pk : Int) != tn) = false := by rw [hil]; simp
        clear T1 hll hsum r4 r4m t2 t3 hR hol hn hil
        have hbl9 : b < w9.heap.size := Nat.lt_of_lt_of_le hbB hd9.size
        go_wp2_with (go_at_call 30; refine (c30.out _ hb9).mono ?_; rintro e w10 ⟨rfl, hd⟩; have hb10 := hb9.trans (hd.mono hb9.size); have z4 := (hd.cell (p := ⟨b, off + (o.length - 1) * 5 + 4, none⟩) hbl9).trans y4; have z2 := (hd.cell (p := ⟨b, off + kc * 5 + 2, none⟩) hbl9).trans y2; have z3 := (hd.cell (p := ⟨b, off + kc * 5 + 3, none⟩) hbl9).trans y3; clear hd)
        go_quiet (fail)
        go_wp2_with fail
        go_ret
        exact ⟨rfl, below_drewN hb10 _⟩
  · subst hsn
    have tok := Lib.hid (Nat.le_refl 0)
    go_enter Try.func16, Try.ntmps16
    go_wp2_with (first
      | (go_at_call 44; have tk := tok; clear tok; refine k44.out.mono ?_; rintro e w1 ⟨rfl, hb1⟩)
      | (go_at_call 44; refine (c44.out _ hb1).mono ?_; rintro e w2 ⟨rfl, hd⟩; have hb2 := hb1.trans (hd.mono hb1.size); clear hd)
      | (go_at_call 46; refine (c46.out _ hb2).mono ?_; rintro e w3 ⟨v3, rfl, ho, hd⟩; have hb3 := hb2.trans (hd.mono hb2.size); obtain ⟨A9, c9, rfl, hI3⟩ := IntsAt.of_own' ho; clear hd ho)
      | (go_at_call 25; refine (c25.out _ hb3).mono ?_; rintro e w4 ⟨rfl, hd⟩; have hb4 := hb3.trans (hd.mono hb3.size); have hI4 := hI3.below hd hd.size; clear hd hI3)
      | (go_at_call 27; refine (c27b.out _ _ _ hb4 hI4).mono ?_; rintro e w5 ⟨rfl, hd⟩; have hb5 := hb4.trans (hd.mono hb4.size); clear hd hI4)
      | (go_at_call 27; refine (c27.out _ hb5).mono ?_; rintro e w6 ⟨rfl, hd⟩; have hb6 := hb5.trans (hd.mono hb5.size); clear hd)
      | (go_at_call 37; refine (c37.out _ hb6).mono ?_; rintro e w7 ⟨C1, q1, rfl, hR, hd⟩; have hb7 := hb6.trans (hd.mono hb6.size); clear hd)
      | (go_at_call 40; refine (c40.out _ hb7).mono ?_; rintro e w8 ⟨rfl, hd⟩; have hb8 := hb7.trans (hd.mono hb7.size); have hd8 := hd; clear hd)
      | (go_at_call 50; refine (c50.out _ hb8).mono ?_; rintro e w9 ⟨rfl, hd⟩; have hb9 := hb8.trans (hd.mono hb8.size); have hd9 := hd8.trans (hd.mono hd8.size); clear hd))
    go_loop [22, 23] (fun x i => ∃ k : Nat, k ≤ l.length ∧ i = .int .i64 k ∧ x = .int .i64 (packT (l.take k))) (fun _ i => l.length - (intOf i).toNat)
    case atStart => exact ⟨0, Nat.zero_le _, rfl, rfl⟩
    case round =>
      obtain ⟨k, hk, rfl, rfl⟩ := hrel
      obtain ⟨hol, hn, hil, h, okl, T0, hk3⟩ := HE.out
      have T1 := T_bd (okl.take k)
      have hll : (l.take k).length ≤ 7 := by simp; omega
      by_cases hlt : k < l.length
      · obtain ⟨b, off, rfl, hbB, hc1, hc2⟩ := h.at hlt
        have hc2' := (hb9.cell (p := ⟨b, off + k * 2 + 1, none⟩) hbB).trans hc2
        have hg := okl.get hlt
        have Hpt := Lib.hid (packT_take hlt)
        clear hc1 hc2
        go_wp2_with fail
        go_round
        case rel => exact ⟨k + 1, by omega, by go_num, by rw [Hpt.out]⟩
        case measure => simp [intOf]; omega
      · obtain rfl : k = l.length := by omega
        obtain ⟨b, off, rfl, hbB, r4, z, t2, t3⟩ := HR.out _ _ _ hR
        obtain ⟨m, hmn, r4m⟩ : ∃ m, m = (o.length - 1) ∧ w7.cell? ⟨b, off + m * 5 + 4, none⟩ = some (.int .i64 tn) := ⟨n, by omega, r4⟩
        subst hmn
        have y4 := (hd9.cell (p := ⟨b, off + (o.length - 1) * 5 + 4, none⟩) hbB).trans r4m
        have y2 := (hd9.cell (p := ⟨b, off + kc * 5 + 2, none⟩) hbB).trans t2
        have y3 := (hd9.cell (p := ⟨b, off + kc * 5 + 3, none⟩) hbB).trans t3
        have hsum : packT (l.take l.length) = packT l := by rw [List.take_length]
        rw [hsum]
        generalize packT l = pk at hil T0
        have Ha := Lib.hid (And.intro hol hn)
        have i1 : (n : Int) + 1 ≤ o.length := by omega
        have i2 : (o.length : Int) ≤ n + 1 := by omega
        have i3 : (kc : Int) < o.length := by omega
        have i4 : 0 ≤ dn + pk ∧ dn + pk ≤ 14000 := by omega
        have j1 : ((dn + pk : Int) == tn) = true := by rw [beq_iff_eq]; omega
        have j2 : ((dn + pk : Int) != tn) = false := by rw [hil]; simp
        clear T1 hll hsum r4 r4m t2 t3 hR hol hn hil
        have hbl9 : b < w9.heap.size := Nat.lt_of_lt_of_le hbB hd9.size
        go_wp2_with (go_at_call 30; refine (c30.out _ hb9).mono ?_; rintro e w10 ⟨rfl, hd⟩; have hb10 := hb9.trans (hd.mono hb9.size); have z4 := (hd.cell (p := ⟨b, off + (o.length - 1) * 5 + 4, none⟩) hbl9).trans y4; have z2 := (hd.cell (p := ⟨b, off + kc * 5 + 2, none⟩) hbl9).trans y2; have z3 := (hd.cell (p := ⟨b, off + kc * 5 + 3, none⟩) hbl9).trans y3; clear hd)
        go_quiet (fail)
        go_wp2_with fail
        go_ret
        exact ⟨rfl, below_drewN hb10 _⟩
end Go.Proofs.Ytoegemlpboeodaa
