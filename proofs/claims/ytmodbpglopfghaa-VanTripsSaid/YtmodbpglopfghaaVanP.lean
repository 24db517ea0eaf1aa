/- The reference's bound of potentials: the walk. -/
import Derived.Test.YtmodbpglopfghaaVanO
set_option linter.unusedSimpArgs false
set_option linter.unusedVariables false
namespace Go.Proofs.Ytmodbpglopfghaa
open Go.RowKit

/-- The ways of which those before i, k have their potentials. -/
def ub (f : Nat → Nat → Int) (p : List Int) (i k : Nat) : Nat → Nat → Int := fun i' k' => if i' < i ∨ (i' = i ∧ k' < k) then cg f p i' k' else f i' k'
theorem ub_next (f : Nat → Nat → Int) (p : List Int) (i n : Nat) : ∀ i' k', k' < n → ub f p i n i' k' = ub f p (i + 1) 0 i' k' := fun i' k' h => by
  unfold ub
  by_cases h1 : i' < i ∨ i' = i ∧ k' < n
  · rw [if_pos h1, if_pos (by omega)]
  · rw [if_neg h1, if_neg (by omega)]
theorem MT.congr {base g n : Nat} {f f' : Nat → Nat → Int} {w : World} (h : MT base g n f w) (hf : ∀ i k, i < n → k < n → f i k = f' i k) : MT base g n f' w := by
  obtain ⟨h1, h2, bs, h3, h4, h5⟩ := h
  exact ⟨h1, h2, bs, h3, h4, fun i hi => ⟨(h5 i hi).1, fun j hj => ⟨by rw [((h5 i hi).2 j hj).1, hf i j hi hj], ((h5 i hi).2 j hj).2⟩⟩⟩
/-- The least sum of two ways before i, k. -/
def TwoTo (n : Nat) (h : Nat → Int) (i k : Nat) (t : Int) : Prop := (∀ i' k', 1 ≤ k' → k' < i' → (i' < i ∨ (i' = i ∧ k' < k)) → t ≤ h i' + h k') ∧ ∃ i' k', 1 ≤ k' ∧ k' < i' ∧ i' < n ∧ t = h i' + h k'
theorem TwoTo.start {n : Nat} (h : Nat → Int) (hn : 3 ≤ n) : TwoTo n h 1 1 (h 1 + h 2) := ⟨fun i' k' h1 h2 h3 => by omega, 2, 1, by omega, by omega, by omega, by omega⟩
theorem TwoTo.next {n : Nat} {h : Nat → Int} {i : Nat} {t : Int} (a : TwoTo n h i i t) : TwoTo n h (i + 1) 1 t := ⟨fun i' k' h1 h2 h3 => a.1 i' k' h1 h2 (by omega), a.2⟩
theorem TwoTo.step {n : Nat} {h : Nat → Int} {i k : Nat} {t : Int} (a : TwoTo n h i k t) (h1 : 1 ≤ k) (h2 : k < i) (h3 : i < n) : TwoTo n h i (k + 1) (min t (h i + h k)) := by
  refine ⟨fun i' k' g1 g2 g3 => ?_, ?_⟩
  · by_cases e : i' = i ∧ k' = k
    · obtain ⟨rfl, rfl⟩ := e; exact Int.min_le_right _ _
    · exact Int.le_trans (Int.min_le_left _ _) (a.1 i' k' g1 g2 (by omega))
  · rcases Int.min_def t (h i + h k) with hm
    by_cases hc : t ≤ h i + h k
    · rw [if_pos hc] at hm; rw [hm]; exact a.2
    · rw [if_neg hc] at hm; exact ⟨i, k, h1, h2, h3, hm⟩
theorem TwoTo.done {n : Nat} {h : Nat → Int} {t : Int} {k : Nat} (a : TwoTo n h n k t) : TwoIs n h t := ⟨fun i k' h1 h2 h3 => a.1 i k' h1 h2 (.inl h3), a.2⟩

set_option maxRecDepth 100000 in
set_option maxHeartbeats 4000000 in
theorem Bound_ref (A A' : Option Addr) (c c' B : Nat) (rows : List (List Int)) (p : List Int) (w : World) (hB : B ≤ w.heap.size) (h : TblAt B w A rows) (h' : IntsAt B w A' p) (hl : rows.length ≤ 30 ∧ ∀ r ∈ rows, r.length ≤ 30) (hm : p.length ≤ 1000) :
    Calls Try.prog 24 #[.slice A rows.length c, .slice A' p.length c'] w fun e w' => ∃ z, e = .returned (.tuple #[.int .i64 z, .int .i64 (wgR rows p)]) ∧ BoundR rows p z ∧ Below w.heap.size w w' := by
  have cv := Lib.hid (Validate_ref A c B rows w hB h hl)
  by_cases hv : VW rows
  · rw [vw_ok hv] at cv
    have hbad := fun (hw : ¬ WG rows p) => wg_bad hv hw
    by_cases h3 : rows.length < 3
    · have HR := Lib.hid (hbad fun hw => by have := hw.n3; omega)
      have hBR := Lib.hid (show BoundR rows p 0 from ⟨fun hw => by have := hw.n3; omega, fun _ => rfl⟩)
      have hd : decide ((rows.length : Int) < 3) = true := by simp; omega
      clear h h' hl hv hbad
      go_enter Try.func24, Try.ntmps24
      go_wp2_with (go_at_call 31; refine cv.out.mono ?_; rintro e w1 ⟨rfl, hb1⟩)
      go_ret2
      exact ⟨0, by rw [HR.out]; rfl, hBR.out, hb1⟩
    · have hd : decide ((rows.length : Int) < 3) = false := by simp; omega
      by_cases hlen : p.length = rows.length
      · obtain ⟨n, hn⟩ : ∃ n, n = rows.length := ⟨_, rfl⟩
        rw [hlen]
        have hcp := Copy_ref A c w.heap.size rows
        have hI' : IntsAt w.heap.size w A' p := h'.below (Below.refl _ _) hB
        have hT : TblAt w.heap.size w A rows := h.below (Below.refl _ _) hB
        have cc := Lib.hid (fun W (hW : Below w.heap.size w W) => Copy_ref A c w.heap.size rows W hW.size (hT.below hW (Nat.le_refl _)) (by omega) (fun r hr => by have := hl.2 r hr; omega))
        have hlt0 : 0 < p.length := by omega
        obtain ⟨b1, o1, rfl, hb1, hz0⟩ := hI'.at hlt0
        clear hz0
        have HI := Lib.hid hI'
        have hwr := Lib.hid (fun x W => within_ref x (-1000) 1000 W)
        have Hbad := Lib.hid hbad
        have HV := Lib.hid hv
        have Hlen := Lib.hid hlen
        have hn3 : 3 ≤ rows.length := by omega
        have hn7 := hv.n1
        have HW := Lib.hid (show (∀ x ∈ p, -1000 ≤ x ∧ x ≤ 1000) → WG rows p from fun ho => ⟨hv, hn3, hlen, ho⟩)
        have Hbf := Lib.hid hv.bd
        clear h h' hl hv hbad hlen hcp hI' hT hn hlt0
        go_enter Try.func24, Try.ntmps24
        go_wp2_with (go_at_call 31; refine cv.out.mono ?_; rintro e w1 ⟨rfl, hb1'⟩)
        have HB1 := Lib.hid hb1'
        clear hb1'
        go_loopw [8, 9] (fun vs vi wr => ∃ i : Nat, i ≤ rows.length ∧ vi = .int .i64 i ∧ vs = .int .i64 (p.take i).sum ∧ Aside (∀ x ∈ p.take i, -1000 ≤ x ∧ x ≤ 1000) ∧ Below w.heap.size w wr) (fun _ vi _ => rows.length - (intOf vi).toNat)
        case atStart => exact ⟨0, Nat.zero_le _, rfl, rfl, (fun x hx => by simp at hx), HB1.out⟩
        case round =>
          obtain ⟨i, hi, rfl, rfl, hok, hbr⟩ := hrel
          have HOk := Lib.hid hok.out
          have HBr := Lib.hid hbr
          clear hok hbr
          by_cases hlt : i < rows.length
          · have hip : i < p.length := by rw [Hlen.out]; exact hlt
            have y1 := ((HI.out.below HBr.out (Nat.le_refl _)).cells hip).2
            have Hst := Lib.hid (sum_take_succ hip)
            have hsb := sum_bd (p.take i) HOk.out
            have hlt7 : (p.take i).length ≤ 7 := by rw [List.length_take]; omega
            have cw := Lib.hid (hwr.out p[i] wr)
            have hiI : (i : Int) < (rows.length : Int) := by omega
            by_cases hx : -1000 ≤ p[i] ∧ p[i] ≤ 1000
            · rw [show inI p[i] (-1000) 1000 = true by simp [inI]; omega] at cw
              have hw1 : IntKind.i64.wrap ((p.take i).sum + p[i]) = (p.take i).sum + p[i] := IntWalk.i64_in _ (by omega)
              have HOk2 := Lib.hid (show ∀ x ∈ p.take (i + 1), -1000 ≤ x ∧ x ≤ 1000 from fun x hx' => by
                rw [List.take_succ_eq_append_getElem hip, List.mem_append] at hx'
                rcases hx' with hx' | hx'
                · exact HOk.out x hx'
                · rw [List.mem_singleton] at hx'; subst hx'; exact hx)
              generalize p[i] = pi at y1 hw1 Hst cw
              clear hx hsb hlt7
              go_wp2_with (go_at_call 60; refine cw.out.mono ?_; rintro e w2 ⟨rfl, hw2⟩; obtain rfl := hw2.symm; clear hw2)
              go_roundw
              case rel => exact ⟨i + 1, by omega, by go_num, by rw [Hst.out], HOk2.out, HBr.out⟩
              case measure => simp [intOf]; omega
            · rw [show inI p[i] (-1000) 1000 = false by simp [inI]; omega] at cw
              have HR := Lib.hid (Hbad.out fun hw => hx (hw.ok _ (List.getElem_mem hip)))
              have hBR := Lib.hid (show BoundR rows p 0 from ⟨fun hw => absurd (hw.ok _ (List.getElem_mem hip)) hx, fun _ => rfl⟩)
              generalize p[i] = pi at y1 cw
              clear hx hsb hlt7
              go_wp2_with (go_at_call 60; refine cw.out.mono ?_; rintro e w2 ⟨rfl, hw2⟩; obtain rfl := hw2.symm; clear hw2)
              go_ret2
              exact ⟨0, by rw [HR.out]; rfl, hBR.out, HBr.out⟩
          · obtain rfl : i = rows.length := by omega
            have htk : p.take rows.length = p := List.take_of_length_le (by rw [Hlen.out]; exact Nat.le_refl _)
            rw [htk] at HOk ⊢
            have hWG := HW.out HOk.out
            have HWG := Lib.hid hWG
            have HR := Lib.hid (wg_ok hWG)
            have hsb := sum_bd p HOk.out
            rw [Hlen.out] at hsb
            have ccr := Lib.hid (cc.out wr HBr.out)
            clear htk hWG
            go_wp2_with (go_at_call 45; refine ccr.out.mono ?_; rintro e w3 ⟨A3, c3, vs3, rfl, hown3, hR3, hd3⟩)
            obtain ⟨g, rfl, hMT⟩ := MT.of_copy (n := rows.length) rfl (by omega) HV.out.sq hown3 hR3
            have HMT := Lib.hid (show MT wr.heap.size g rows.length (ub (wy rows) p 0 0) w3 from hMT.congr fun i k hi hk => by unfold ub; rw [if_neg (by omega)])
            have hbw : Below w.heap.size w w3 := HBr.out.trans (hd3.mono HBr.out.size)
            have Hbw := Lib.hid hbw
            have hsz : w.heap.size ≤ wr.heap.size := HBr.out.size
            have HIp := Lib.hid (fun W (hW : Below w.heap.size w W) (j : Nat) (hj : j < rows.length) => ((HI.out.below hW (Nat.le_refl _)).cells (k := j) (by rw [Hlen.out]; exact hj)).2)
            clear hown3 hR3 hd3 hMT hbw
            generalize hS : p.sum = S at hsb ⊢
            have HS := Lib.hid hS
            clear hS
            have HF := Lib.hid (fun j k hj hk => cg_bd Hbf.out HOk.out Hlen.out (i := j) (k := k) hj hk)
            have HBd := Lib.hid (show ∀ T t, IsTree (cg (wy rows) p) (fun x => x ∈ frm 1 rows.length) (rows.length - 1) T → TwoIs rows.length (cg (wy rows) p 0) t → -18000 ≤ T → T ≤ 18000 → -4000 ≤ t → t ≤ 6000 → BoundR rows p (T + t - 2 * S) from fun T t h1 h2 h3 h4 h5 h6 => ⟨fun _ => ⟨⟨T, t, h1, h2, by rw [HS.out]⟩, by omega, by omega⟩, fun h => absurd HWG.out h⟩)
            have HPp := Lib.hid (show ∀ j (hj : j < rows.length), p[j]?.getD 0 = p[j]'(by rw [Hlen.out]; exact hj) from fun j hj => by simp [show j < p.length by rw [Hlen.out]; exact hj])
            have hn1 : 1 ≤ rows.length := by omega
            clear ccr cc hlt HB1
            generalize rows.length = n at *
            generalize hlo : wr.heap.size = lo at *
            clear hlo hi HBr
            go_loopw [11] (fun vi wx => ∃ i : Nat, i ≤ n ∧ vi = .int .i64 i ∧ MT lo g n (ub (wy rows) p i 0) wx ∧ Below w.heap.size w wx) (fun vi _ => n - (intOf vi).toNat)
            case atStart => exact ⟨0, Nat.zero_le _, rfl, HMT.out, Hbw.out⟩
            case round =>
              clear HMT Hbw
              obtain ⟨i, hi, rfl, hMT, hbw⟩ := hrel
              by_cases hlt : i < n
              · have HMT := Lib.hid hMT
                have Hbw := Lib.hid hbw
                have hiI : (i : Int) < (n : Int) := by omega
                have hi0 : (0 : Int) ≤ (i : Int) := by omega
                clear hMT hbw
                go_wp2_with fail
                go_loopw [12] (fun vk wx => ∃ k : Nat, k ≤ n ∧ vk = .int .i64 k ∧ MT lo g n (ub (wy rows) p i k) wx ∧ Below w.heap.size w wx) (fun vk _ => n - (intOf vk).toNat)
                case atStart => exact ⟨0, Nat.zero_le _, rfl, HMT.out, Hbw.out⟩
                case round =>
                  clear HMT Hbw
                  obtain ⟨k, hk, rfl, hMT, hbw⟩ := hrel
                  by_cases hklt : k < n
                  · obtain ⟨bi, ci, hbl, hbh, e0, e1, hput⟩ := hMT.at hlt
                    obtain ⟨x0, x1⟩ := e1 k hklt
                    have hk1 : ub (wy rows) p i k i k = wy rows i k := by unfold ub; rw [if_neg (by omega)]
                    rw [hk1] at x0
                    have y1 := HIp.out _ hbw i hlt
                    have y2 := HIp.out _ hbw k hklt
                    have hbd1 := Hbf.out i k hlt hklt
                    have hpi := HOk.out _ (List.getElem_mem (show i < p.length by rw [Hlen.out]; exact hlt))
                    have hpk := HOk.out _ (List.getElem_mem (show k < p.length by rw [Hlen.out]; exact hklt))
                    have hk2 : ub (wy rows) p i (k + 1) i k = wy rows i k + (p[i]'(by rw [Hlen.out]; exact hlt) + p[k]'(by rw [Hlen.out]; exact hklt)) := by
                      unfold ub
                      rw [if_pos (by omega), cg, HPp.out i hlt, HPp.out k hklt, Int.add_assoc]
                    have hp2 := hput (ub (wy rows) p i (k + 1)) k hklt (fun i' j' h1 h2 h3 => by
                      unfold ub
                      by_cases h4 : i' < i ∨ i' = i ∧ j' < k
                      · rw [if_pos h4, if_pos (by omega)]
                      · rw [if_neg h4, if_neg (by omega)])
                    rw [hk2] at hp2
                    have HP2 := Lib.hid hp2
                    have Hbw := Lib.hid hbw
                    have hbl2 : w.heap.size ≤ bi := by omega
                    generalize p[i]'(by rw [Hlen.out]; exact hlt) = pi at y1 hpi HP2
                    generalize p[k]'(by rw [Hlen.out]; exact hklt) = pk at y2 hpk HP2
                    generalize wy rows i k = d at x0 hbd1 HP2
                    have hw1 : IntKind.i64.wrap (pi + pk) = pi + pk := IntWalk.i64_in _ (by omega)
                    have hw2 : IntKind.i64.wrap (d + (pi + pk)) = d + (pi + pk) := IntWalk.i64_in _ (by omega)
                    have hkI : (k : Int) < (n : Int) := by omega
                    have hk0 : (0 : Int) ≤ (k : Int) := by omega
                    clear hk1 hk2 hp2 hput e1 hMT hbw
                    go_wp2_with fail
                    go_still_tail 17, (by kernel_rfl)
                    change wpList _ _ _ _ _ (wr.drewN 1)
                    go_wp2_with fail
                    go_roundw
                    case rel => exact ⟨k + 1, by omega, by go_num, HP2.out, below_put (below_drewN Hbw.out 1) hbl2 k _⟩
                    case measure => simp [intOf]; omega
                  · obtain rfl : k = n := by omega
                    have HMT := Lib.hid (hMT.congr (fun i' k' _ h2 => ub_next (wy rows) p i k i' k' h2))
                    have Hbw := Lib.hid hbw
                    clear hMT hbw
                    go_wp2_with fail
                    go_roundw
                    case rel => exact ⟨i + 1, by omega, by go_num, HMT.out, Hbw.out⟩
                    case measure => simp [intOf]; omega
              · obtain rfl : i = n := by omega
                have HMT := Lib.hid (hMT.congr (f' := cg (wy rows) p) (fun i' k' h1 h2 => by unfold ub; rw [if_pos (.inl h1)]))
                have Hbw := Lib.hid hbw
                obtain ⟨b0, c0, hbl0, hbh0, e0, e1, _⟩ := HMT.out.at (i := 0) (by omega)
                have E1 := Lib.hid (fun j hj => (e1 j hj).1)
                have x1 := E1.out 1 (by omega)
                have x2 := E1.out 2 (by omega)
                have HTw := Lib.hid (TwoTo.start (n := i) (cg (wy rows) p 0) hn3)
                have ht1 := HF.out 0 1 (by omega) (by omega)
                have ht2 := HF.out 0 2 (by omega) (by omega)
                have hw1 : IntKind.i64.wrap (cg (wy rows) p 0 1 + cg (wy rows) p 0 2) = cg (wy rows) p 0 1 + cg (wy rows) p 0 2 := IntWalk.i64_in _ (by omega)
                generalize cg (wy rows) p 0 1 = z1 at x1 HTw hw1
                generalize cg (wy rows) p 0 2 = z2 at x2 HTw hw1
                have hi1I : (1 : Int) < (i : Int) := by omega
                have hi2I : (2 : Int) < (i : Int) := by omega
                have hi0I : (0 : Int) < (i : Int) := by omega
                have hi0N : 0 < i := by omega
                clear hMT hbw e1 ht1 ht2
                go_wp2_with fail
                go_quiet (fail)
                go_wp2_with fail
                go_loopw [13, 14] (fun vt vi wx => ∃ (j : Nat) (t : Int), 1 ≤ j ∧ j ≤ i ∧ vi = .int .i64 j ∧ vt = .int .i64 t ∧ Aside (TwoTo i (cg (wy rows) p 0) j 1 t) ∧ MT lo g i (cg (wy rows) p) wx ∧ Below w.heap.size w wx) (fun _ vi _ => i - (intOf vi).toNat)
                case atStart => exact ⟨1, _, Nat.le_refl _, by omega, rfl, rfl, HTw.out, HMT.out.keep (below_drewN (Below.refl _ _) _), below_drewN Hbw.out _⟩
                case round =>
                  clear HMT Hbw HTw E1 e0 x1 x2 hbl0 hbh0
                  obtain ⟨j, t, hj1, hj2, rfl, rfl, hTw, hMT, hbw⟩ := hrel
                  have HTw := Lib.hid hTw.out
                  have HMT := Lib.hid hMT
                  have Hbw := Lib.hid hbw
                  clear hTw hMT hbw
                  by_cases hjlt : j < i
                  · have hjI : (j : Int) < (i : Int) := by omega
                    have hj0I : (0 : Int) ≤ (j : Int) := by omega
                    go_wp2_with fail
                    go_loopw [13, 15] (fun vt vk wx => ∃ (k : Nat) (t : Int), 1 ≤ k ∧ k ≤ j ∧ vk = .int .i64 k ∧ vt = .int .i64 t ∧ Aside (TwoTo i (cg (wy rows) p 0) j k t) ∧ MT lo g i (cg (wy rows) p) wx ∧ Below w.heap.size w wx) (fun _ vk _ => j - (intOf vk).toNat)
                    case atStart => exact ⟨1, t, Nat.le_refl _, hj1, rfl, rfl, HTw.out, HMT.out, Hbw.out⟩
                    case round =>
                      clear HMT Hbw HTw
                      obtain ⟨k, t, hk1, hk2, rfl, rfl, hTw, hMT, hbw⟩ := hrel
                      by_cases hklt : k < j
                      · obtain ⟨b0, c0, hbl0, hbh0, e0, e1, _⟩ := hMT.at (i := 0) (by omega)
                        have x1 := (e1 j hjlt).1
                        have x2 := (e1 k (by omega)).1
                        have HT2 := Lib.hid (hTw.out.step hk1 hklt hjlt)
                        have ht1 := HF.out 0 j (by omega) hjlt
                        have ht2 := HF.out 0 k (by omega) (by omega)
                        have HMT := Lib.hid hMT
                        have Hbw := Lib.hid hbw
                        generalize cg (wy rows) p 0 j = z3 at x1 ht1 HT2
                        generalize cg (wy rows) p 0 k = z4 at x2 ht2 HT2
                        have hw3 : IntKind.i64.wrap (z3 + z4) = z3 + z4 := IntWalk.i64_in _ (by omega)
                        have hkI : (k : Int) < (j : Int) := by omega
                        have hkI2 : (k : Int) < (i : Int) := by omega
                        have hk0I : (0 : Int) ≤ (k : Int) := by omega
                        clear hTw hMT hbw e1 ht1 ht2
                        go_wp2_with fail
                        go_quiet (fail)
                        go_wp2_with fail
                        go_roundw
                        case rel => exact ⟨k + 1, _, by omega, by omega, by go_num, rfl, HT2.out, HMT.out.keep (below_drewN (Below.refl _ _) _), below_drewN Hbw.out _⟩
                        case measure => simp [intOf]; omega
                      · obtain rfl : k = j := by omega
                        have HT2 := Lib.hid hTw.out.next
                        have HMT := Lib.hid hMT
                        have Hbw := Lib.hid hbw
                        clear hTw hMT hbw
                        go_wp2_with fail
                        go_roundw
                        case rel => exact ⟨k + 1, t, by omega, by omega, by go_num, rfl, HT2.out, HMT.out, Hbw.out⟩
                        case measure => simp [intOf]; omega
                  · obtain rfl : j = i := by omega
                    have hTI := HTw.out.done
                    have htb : -4000 ≤ t ∧ t ≤ 6000 := by
                      obtain ⟨i', k', q1, q2, q3, q4⟩ := HTw.out.2
                      have := HF.out 0 i' (by omega) q3
                      have := HF.out 0 k' (by omega) (by omega)
                      omega
                    have HTI := Lib.hid hTI
                    have cgr := grown_ref g 0 j c3 1 wr.heap.size (cg (wy rows) p) wr (-2000) 3000 (by omega) (by omega) (by omega) (by omega) (Nat.le_refl _) HMT.out.wa hn7 (by omega) (fun i' k' h1 h2 => HF.out i' k' (mem_frm.1 h1).2 (mem_frm.1 h2).2)
                    have CG := Lib.hid (show Calls Try.prog 56 #[.slice (some ⟨g, 0, none⟩) j c3, .int .i64 1] wr fun e w' => ∃ z, e = .returned (.int .i64 z) ∧ IsTree (cg (wy rows) p) (fun x => x ∈ frm 1 j) (j - 1) z ∧ -18000 ≤ z ∧ z ≤ 18000 ∧ Below wr.heap.size wr w' from cgr)
                    have hwS : IntKind.i64.wrap (2 * S) = 2 * S := IntWalk.i64_in _ (by omega)
                    clear hTI cgr
                    go_wp2_with (go_at_call 56; refine CG.out.mono ?_; rintro e w9 ⟨T, rfl, ht, ht0, ht1, hd9⟩; have hwA : IntKind.i64.wrap (T + t) = T + t := IntWalk.i64_in _ (by omega); have hwC : IntKind.i64.wrap (T + t - 2 * S) = T + t - 2 * S := IntWalk.i64_in _ (by omega); have HT9 := Lib.hid ht; clear ht)
                    go_ret2
                    exact ⟨_, by rw [HR.out]; rfl, HBd.out T t HT9.out HTI.out ht0 ht1 htb.1 htb.2, Hbw.out.trans (hd9.mono Hbw.out.size)⟩
      · have hne : ((p.length : Int) != (rows.length : Int)) = true := by simp; omega
        have HR := Lib.hid (hbad fun hw => hlen hw.len)
        have hBR := Lib.hid (show BoundR rows p 0 from ⟨fun hw => absurd hw.len hlen, fun _ => rfl⟩)
        clear h h' hl hv hbad hlen
        go_enter Try.func24, Try.ntmps24
        go_wp2_with (go_at_call 31; refine cv.out.mono ?_; rintro e w1 ⟨rfl, hb1⟩)
        go_ret2
        exact ⟨0, by rw [HR.out]; rfl, hBR.out, hb1⟩
  · have HR := Lib.hid (wg_vw (p := p) hv)
    have hne : (vwR rows != 0) = true := by simpa using vw_ne hv
    have hne2 : (vwR rows == 0) = false := by simpa using vw_ne hv
    have hBR := Lib.hid (show BoundR rows p 0 from ⟨fun hw => absurd hw.vw hv, fun _ => rfl⟩)
    generalize vwR rows = e0 at cv hne hne2 HR
    clear h h' hl hv
    go_enter Try.func24, Try.ntmps24
    go_wp2_with (go_at_call 31; refine cv.out.mono ?_; rintro e w1 ⟨rfl, hb1⟩)
    go_ret2
    exact ⟨0, by rw [HR.out]; rfl, hBR.out, hb1⟩
end Go.Proofs.Ytmodbpglopfghaa
