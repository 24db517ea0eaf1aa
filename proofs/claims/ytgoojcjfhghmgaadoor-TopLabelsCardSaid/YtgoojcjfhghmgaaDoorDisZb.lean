/- The reference's ruleOK, Validate. -/
import Derived.Test.YtgoojcjfhghmgaaDoorDisZ
import Derived.StillTailTactics
namespace Go.Proofs.YtgoojcjfhghmgaaDoor
open Go.RowKit

theorem Drew.belowOf {w W W' : World} (h : Below w.heap.size w W) (hd : Drew W W') : Below w.heap.size w W' := h.trans (hd.below _)
set_option maxRecDepth 100000 in
set_option maxHeartbeats 2000000 in
theorem ruleOK_ref (A : Option Addr) (c B : Nat) (x : Ru) (p : Int) (w : World) (hB : B ≤ w.heap.size) (h : IntsAt B w A x.1) (hm : x.1.length ≤ 1000) (hp : 0 ≤ p ∧ p ≤ 10) :
    Calls Tryd.prog 62 #[.agg #[.slice A x.1.length c, .int .i64 x.2], .int .i64 p] w fun e w' => e = .returned (.bool (ruOk p x)) ∧ Below w.heap.size w w' := by
  obtain ⟨l, t⟩ := x
  have hw0 : Below w.heap.size w (w.alloc (.cells #[.slice A l.length c, .int .i64 t] 42)) := (Below.refl _ _).alloc (Nat.le_refl _) _
  have hb0 := Blk.new w 42 #[.slice A l.length c, .int .i64 t]
  have hlt : w.heap.size < (w.alloc (.cells #[.slice A l.length c, .int .i64 t] 42)).heap.size := hb0.lt
  have jw : wrap64 (p - 1) = p - 1 := by unfold wrap64; omega
  have cs0 := IsSet_ref A c w.heap.size l (p - 1) _ ((h.below (Below.refl _ _) hB).below hw0 (Nat.le_refl _)) hm
  rw [show p - 1 + 1 = p by omega] at cs0
  have cs := Lib.hid cs0
  have Hr := Lib.hid (show ruOk p (l, t) = (isS l p && decide (0 ≤ t) && decide (t < p)) from rfl)
  have Hw := Lib.hid hw0
  have HB := Lib.hid hb0
  simp only at h ⊢
  clear h cs0 hw0 hb0 hp
  generalize ruOk p (l, t) = r at Hr ⊢
  generalize isS l p = s at cs Hr
  cases s
  · go_enter Tryd.func62, Tryd.ntmps62
    go_wp2_with (go_at_call 61; try rw [jw]; refine cs.out.mono ?_; rintro e w1 ⟨rfl, hd⟩; have hx1 := HB.out.below (hd.below _) hlt; have z1 := hx1.cell 1)
    go_ret
    exact ⟨by rw [Hr.out]; rfl, Drew.belowOf Hw.out hd⟩
  · by_cases h0 : 0 ≤ t
    · have h0d : decide (0 ≤ t) = true := by simpa using h0
      go_enter Tryd.func62, Tryd.ntmps62
      go_wp2_with (go_at_call 61; try rw [jw]; refine cs.out.mono ?_; rintro e w1 ⟨rfl, hd⟩; have hx1 := HB.out.below (hd.below _) hlt; have z1 := hx1.cell 1)
      go_ret
      exact ⟨by rw [Hr.out, h0d]; rfl, Drew.belowOf Hw.out hd⟩
    · have h0d : decide (0 ≤ t) = false := by simpa using h0
      go_enter Tryd.func62, Tryd.ntmps62
      go_wp2_with (go_at_call 61; try rw [jw]; refine cs.out.mono ?_; rintro e w1 ⟨rfl, hd⟩; have hx1 := HB.out.below (hd.below _) hlt; have z1 := hx1.cell 1)
      go_ret
      exact ⟨by rw [Hr.out, h0d]; rfl, Drew.belowOf Hw.out hd⟩
theorem quiet_drew {P : Program} {f : FuncId} {args : Array Value} {w : World} {n : Nat} {v : Value} (h : Calls P f args (w.drewN n) fun e w' => e = .returned v ∧ Drew (w.drewN n) w') : Calls P f args (w.drewN n) fun e w'' => e = .returned v ∧ ∃ m, w'' = w.drewN m := Calls.quiet_of h

set_option maxRecDepth 100000 in
set_option maxHeartbeats 2000000 in
theorem Validate_ref (AI AR : Option Addr) (cI cR B : Nat) (b : Bk) (w : World) (hB : B ≤ w.heap.size) (h : ItsAt B w AI b.its) (h' : RusAt B w AR b.rus) (hs : Short b) :
    Calls Tryd.prog 21 #[.agg #[.int .i64 b.p, .slice AI b.its.length cI, .slice AR b.rus.length cR]] w fun e w' => e = .returned (.int .i64 (vlR b)) ∧ Below w.heap.size w w' := by
  obtain ⟨p, its, rus⟩ := b
  obtain ⟨s1, s2, s3, s4⟩ := hs
  simp only at h h' s1 s2 s3 s4 ⊢
  have hw0 : Below w.heap.size w (w.alloc (.cells #[.int .i64 p, .slice AI its.length cI, .slice AR rus.length cR] 25)) := (Below.refl _ _).alloc (Nat.le_refl _) _
  have hb0 := Blk.new w 25 #[.int .i64 p, .slice AI its.length cI, .slice AR rus.length cR]
  by_cases h1 : p < 0 ∨ 10 < p
  · have Hr := Lib.hid (show vlR ⟨p, its, rus⟩ = 1 from if_pos h1)
    clear h h' s3 s4
    by_cases h2 : p < 0
    · go_enter Tryd.func21, Tryd.ntmps21
      go_wp2_with fail
      go_ret
      exact ⟨by rw [Hr.out]; rfl, hw0⟩
    · have h3 : 10 < p := by omega
      go_enter Tryd.func21, Tryd.ntmps21
      go_wp2_with fail
      go_ret
      exact ⟨by rw [Hr.out]; rfl, hw0⟩
  · have h1' := Lib.hid h1
    have h1a : 0 ≤ p := by omega
    have h1b : p ≤ 10 := by omega
    clear h1
    by_cases h2 : 20 < its.length ∨ 16 < rus.length
    · have Hr := Lib.hid (show vlR ⟨p, its, rus⟩ = 4 by rw [vlR, if_neg h1'.out, if_pos h2])
      clear h h' s3 s4
      by_cases h3 : 20 < its.length
      · go_enter Tryd.func21, Tryd.ntmps21
        go_wp2_with fail
        go_ret
        exact ⟨by rw [Hr.out]; rfl, hw0⟩
      · have h4 : 16 < rus.length := by omega
        go_enter Tryd.func21, Tryd.ntmps21
        go_wp2_with fail
        go_ret
        exact ⟨by rw [Hr.out]; rfl, hw0⟩
    · have hl1 : its.length ≤ 20 := by omega
      have hl2 : rus.length ≤ 16 := by omega
      have Hr := Lib.hid (show vlR ⟨p, its, rus⟩ = if itsE p 0 its = 0 then (if rus.all (ruOk p) then 0 else 1) else itsE p 0 its by rw [vlR, if_neg h1'.out, if_neg h2])
      have H := Lib.hid (h.below (Below.refl _ _) hB)
      have H' := Lib.hid (h'.below (Below.refl _ _) hB)
      have HB0 := Lib.hid hb0
      have jp : IntKind.i64.wrap (p - 1) = p - 1 := by rw [IntKind.wrap_i64]; omega
      clear h h' h2 hb0
      go_enter Tryd.func21, Tryd.ntmps21
      go_wp2_with fail
      go_loopw [3] (fun i wr => ∃ k : Nat, k ≤ its.length ∧ i = .int .i64 k ∧ itsE p 0 its = itsE p k (its.drop k) ∧ Below w.heap.size w wr ∧ Blk wr w.heap.size 25 #[.int .i64 p, .slice AI its.length cI, .slice AR rus.length cR]) (fun i _ => its.length - (intOf i).toNat)
      case atStart => exact ⟨0, Nat.zero_le _, rfl, rfl, hw0, HB0.out⟩
      case round =>
        obtain ⟨k, hk, rfl, he, hb, hblk⟩ := hrel
        obtain ⟨y0, y1, y2, _⟩ := blk3 hblk
        by_cases hlt : k < its.length
        · obtain ⟨bb, off, A1, c1, A2, c2, rfl, hbB, e0, e1, i1, i2⟩ := H.out k hlt
          obtain ⟨m1, m2⟩ := s3 its[k] (List.getElem_mem hlt)
          have d0 := (hb.cell (p := ⟨bb, off + k * 2, none⟩) hbB).trans e0
          have d1 := (hb.cell (p := ⟨bb, off + k * 2 + 1, none⟩) hbB).trans e1
          have He := Lib.hid (he.trans (itsE_step hlt))
          have Hi := Lib.hid (show itE p k its[k] = if 6 < its[k].1.length then 4 else if isS its[k].1 k && isS its[k].2 p then 0 else 1 from rfl)
          have HK := Lib.hid hblk
          have Hb := Lib.hid hb
          have jk : IntKind.i64.wrap ((k : Int) - 1) = (k : Int) - 1 := by rw [IntKind.wrap_i64]; omega
          have k0 : (0 : Int) ≤ (k : Int) := by omega
          have k1 : (k : Int) < (its.length : Int) := by omega
          have q1 := fun W (hW : Below w.heap.size w W) => IsSet_ref A1 c1 w.heap.size its[k].1 ((k : Int) - 1) W (i1.below hW (Nat.le_refl _)) (by omega)
          rw [show (k : Int) - 1 + 1 = k by omega] at q1
          have q2 := fun W (hW : Below w.heap.size w W) => IsSet_ref A2 c2 w.heap.size its[k].2 (p - 1) W (i2.below hW (Nat.le_refl _)) (by omega)
          rw [show p - 1 + 1 = p by omega] at q2
          have cs1 := Lib.hid q1
          have cs2 := Lib.hid q2
          clear e0 e1 i1 i2 he hblk hb q1 q2
          generalize its[k].1.length = n1 at d0 cs1 Hi m1
          generalize its[k].2.length = n2 at d1 cs2 m2
          by_cases h6 : 6 < n1
          · have Hz := Lib.hid (show itE p k its[k] = 4 by rw [Hi.out, if_pos h6])
            clear cs1 cs2
            go_wp2_with fail
            go_ret
            exact ⟨by rw [Hr.out, He.out, Hz.out]; rfl, Hb.out⟩
          · have Hz := Lib.hid (show itE p k its[k] = if isS its[k].1 k && isS its[k].2 p then 0 else 1 by rw [Hi.out, if_neg h6])
            clear Hi
            generalize isS its[k].1 k = s at cs1 Hz
            generalize isS its[k].2 p = t at cs2 Hz
            cases s
            · clear cs2
              go_wp2_with fail
              go_quiet ((go_at_call 61; exact quiet_drew (cs1.out _ (below_drewN Hb.out _))))
              go_wp2_with fail
              go_ret
              exact ⟨by rw [Hr.out, He.out, Hz.out]; rfl, below_drewN Hb.out _⟩
            · have tok := Lib.hid (Nat.le_refl 0)
              cases t
              all_goals
                go_wp2_with fail
                go_quiet ((first
                  | (go_at_call_of 61 (Value.slice A1 n1 c1); exact quiet_drew (cs1.out _ (below_drewN Hb.out _)))
                  | (go_at_call_of 61 (Value.slice A2 n2 c2); exact quiet_drew (cs2.out _ (below_drewN Hb.out _)))))
                go_wp2_with fail
              · go_ret
                exact ⟨by rw [Hr.out, He.out, Hz.out]; rfl, below_drewN Hb.out _⟩
              · go_roundw
                case rel => exact ⟨k + 1, by omega, by go_num, by rw [He.out, Hz.out]; rfl, below_drewN Hb.out _, HK.out.drewN _⟩
                case measure => simp [intOf]; omega
        · obtain rfl : k = its.length := by omega
          rw [List.drop_length] at he
          have He := Lib.hid (show itsE p 0 its = 0 from he)
          clear he
          go_wp2_with fail
          go_loopw [4] (fun i wr => ∃ k : Nat, k ≤ rus.length ∧ i = .int .i64 k ∧ (∀ j (hj : j < rus.length), j < k → ruOk p rus[j] = true) ∧ Below w.heap.size w wr ∧ Blk wr w.heap.size 25 #[.int .i64 p, .slice AI its.length cI, .slice AR rus.length cR]) (fun i _ => rus.length - (intOf i).toNat)
          case atStart => exact ⟨0, Nat.zero_le _, rfl, fun j hj hk => by omega, hb, hblk⟩
          case round =>
            obtain ⟨k, hk, rfl, hn, hb2, hblk2⟩ := hrel
            obtain ⟨y0, y1, y2, _⟩ := blk3 hblk2
            by_cases hlt2 : k < rus.length
            · obtain ⟨bb, off, A1, c1, rfl, hbB, e0, e1, i1⟩ := H'.out k hlt2
              have m1 := s4 rus[k] (List.getElem_mem hlt2)
              have d0 := (hb2.cell (p := ⟨bb, off + k * 2, none⟩) hbB).trans e0
              have d1 := (hb2.cell (p := ⟨bb, off + k * 2 + 1, none⟩) hbB).trans e1
              have cs := Lib.hid (fun W (hW : Below w.heap.size w W) => ruleOK_ref A1 c1 w.heap.size rus[k] p W hW.size (i1.below hW (Nat.le_refl _)) (by omega) ⟨h1a, h1b⟩)
              have Hn := Lib.hid hn
              have Hb2 := Lib.hid hb2
              have HK := Lib.hid hblk2
              have k0 : (0 : Int) ≤ (k : Int) := by omega
              have k1 : (k : Int) < (rus.length : Int) := by omega
              clear e0 e1 i1 hn hb2 hblk2
              cases hr : ruOk p rus[k] with
              | false =>
                have Ha := Lib.hid (show rus.all (ruOk p) = false by
                  rw [List.all_eq_false]; exact ⟨rus[k], List.getElem_mem hlt2, by rw [hr]; simp⟩)
                rw [hr] at cs
                clear hr
                go_wp2_with fail
                go_still_tail 7, (by kernel_rfl)
                change wpList _ _ _ _ _ wr.drew
                have hbd := Hb2.out.drew
                have HKd := HK.out.drew
                generalize wr.drew = W1 at hbd HKd ⊢
                go_wp2_with (go_at_call 62; refine (cs.out _ hbd).mono ?_; rintro e w3 ⟨rfl, hd⟩)
                go_ret
                exact ⟨by rw [Hr.out, He.out, Ha.out]; rfl, hbd.trans (hd.mono hbd.size)⟩
              | true =>
                rw [hr] at cs
                have Hru := Lib.hid hr
                clear hr
                go_wp2_with fail
                go_still_tail 7, (by kernel_rfl)
                change wpList _ _ _ _ _ wr.drew
                have hbd := Hb2.out.drew
                have HKd := HK.out.drew
                generalize wr.drew = W1 at hbd HKd ⊢
                go_wp2_with (go_at_call 62; refine (cs.out _ hbd).mono ?_; rintro e w3 ⟨rfl, hd⟩)
                go_roundw
                case rel =>
                  refine ⟨k + 1, by omega, by go_num, fun j hj hjk => ?_, hbd.trans (hd.mono hbd.size), HKd.below hd HKd.lt⟩
                  by_cases e : j = k
                  · subst e; exact Hru.out
                  · exact Hn.out j hj (by omega)
                case measure => simp [intOf]; omega
            · obtain rfl : k = rus.length := by omega
              have Ha := Lib.hid (show rus.all (ruOk p) = true by
                rw [List.all_eq_true]
                intro x hx
                obtain ⟨i, hi, rfl⟩ := List.getElem_of_mem hx
                exact hn i hi hi)
              clear hn
              go_wp2_with fail
              go_ret
              exact ⟨by rw [Hr.out, He.out, Ha.out]; rfl, hb2⟩
end Go.Proofs.YtgoojcjfhghmgaaDoor
