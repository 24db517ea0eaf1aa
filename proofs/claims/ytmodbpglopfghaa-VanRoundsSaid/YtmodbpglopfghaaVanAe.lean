/- The tour that goes always on to the nearest stop. -/
import Derived.Test.YtmodbpglopfghaaVanAc
set_option linter.unusedSimpArgs false
set_option linter.unusedVariables false
namespace Go.Proofs.Ytmodbpglopfghaa
open Go.RowKit

/-- The nearest of the stops up to k that is not in the tour; 0 for none. -/
def scn (f : Nat → Nat → Int) (a : Nat) (t : List Nat) : Nat → Nat
  | 0 => 0
  | k + 1 => if (k + 1) ∈ t then scn f a t k else if scn f a t k = 0 ∨ f a (k + 1) < f a (scn f a t k) then k + 1 else scn f a t k
theorem scn_le (f : Nat → Nat → Int) (a : Nat) (t : List Nat) : ∀ k, scn f a t k ≤ k
  | 0 => Nat.le_refl _
  | k + 1 => by
    have := scn_le f a t k
    unfold scn
    split
    · omega
    · split <;> omega
theorem scn_new (f : Nat → Nat → Int) (a : Nat) (t : List Nat) : ∀ k, scn f a t k = 0 ∨ scn f a t k ∉ t
  | 0 => .inl rfl
  | k + 1 => by
    have := scn_new f a t k
    unfold scn
    split
    · exact this
    · split
      · exact .inr ‹_›
      · exact this
theorem scn_pos (f : Nat → Nat → Int) (a : Nat) (t : List Nat) : ∀ k j, 1 ≤ j → j ≤ k → j ∉ t → scn f a t k ≠ 0
  | 0, j, h1, h2, _ => by omega
  | k + 1, j, h1, h2, h3 => by
    unfold scn
    split
    · rename_i hm
      refine scn_pos f a t k j h1 ?_ h3
      by_cases e : j = k + 1
      · subst e; exact absurd hm h3
      · omega
    · split
      · omega
      · rename_i h; omega
/-- The tour so far. -/
def rdT (f : Nat → Nat → Int) (n first : Nat) : Nat → List Nat
  | 0 => [first]
  | k + 1 => rdT f n first k ++ [scn f ((rdT f n first k).getLast?.getD 0) (rdT f n first k) (n - 1)]
theorem rdT_length (f : Nat → Nat → Int) (n first : Nat) : ∀ k, (rdT f n first k).length = k + 1
  | 0 => rfl
  | k + 1 => by simp [rdT, rdT_length f n first k]
theorem rdT_stp (f : Nat → Nat → Int) {n first : Nat} (h1 : 1 ≤ first) (h2 : first < n) : ∀ k, k + 1 ≤ n - 1 → Stp n (rdT f n first k)
  | 0, _ => ⟨by simp [rdT], fun x hx => by simp [rdT] at hx; omega⟩
  | k + 1, hk => by
    have ih := rdT_stp f h1 h2 k (by omega)
    have hl := rdT_length f n first k
    have : ∃ j, 1 ≤ j ∧ j ≤ n - 1 ∧ j ∉ rdT f n first k := Classical.byContradiction fun hc => by
      have := len_ge (n - 1) (rdT f n first k) ih.1 fun i hi1 hi2 => Classical.byContradiction fun h => hc ⟨i, hi1, hi2, h⟩
      omega
    obtain ⟨j, j1, j2, j3⟩ := this
    have hp := scn_pos f ((rdT f n first k).getLast?.getD 0) (rdT f n first k) (n - 1) j j1 j2 j3
    have hle := scn_le f ((rdT f n first k).getLast?.getD 0) (rdT f n first k) (n - 1)
    have hnew := (scn_new f ((rdT f n first k).getLast?.getD 0) (rdT f n first k) (n - 1)).resolve_left hp
    refine ⟨?_, fun x hx => ?_⟩
    · unfold rdT
      exact List.nodup_append.2 ⟨ih.1, by simp, fun x hx y hy => by rw [List.mem_singleton] at hy; subst hy; exact fun e => hnew (e ▸ hx)⟩
    · unfold rdT at hx
      rcases List.mem_append.1 hx with hx | hx
      · exact ih.2 x hx
      · rw [List.mem_singleton] at hx; subst hx; omega
theorem rdT_tour (f : Nat → Nat → Int) {n first : Nat} (h1 : 1 ≤ first) (h2 : first < n) : Tour n (rdT f n first (n - 2)) :=
  ⟨rdT_stp f h1 h2 (n - 2) (by omega), by rw [rdT_length]; omega⟩
/-- The error of ways and a first stop. -/
noncomputable def rdE (rows : List (List Int)) (first : Int) : Int := @ite _ (VW rows) (Classical.propDecidable _) (if 1 ≤ first ∧ first < (rows.length : Int) then 0 else 5) (vwR rows)
theorem rd_ok {rows : List (List Int)} {first : Int} (h : VW rows) (h1 : 1 ≤ first ∧ first < (rows.length : Int)) : rdE rows first = 0 := by rw [rdE, if_pos h, if_pos h1]
theorem rd_none {rows : List (List Int)} {first : Int} (h : VW rows) (h1 : ¬ (1 ≤ first ∧ first < (rows.length : Int))) : rdE rows first = 5 := by rw [rdE, if_pos h, if_neg h1]
theorem rd_bad {rows : List (List Int)} (first : Int) (h : ¬ VW rows) : rdE rows first = vwR rows := if_neg h

set_option maxRecDepth 100000 in
set_option maxHeartbeats 2000000 in
theorem Round_any (b off c B first : Nat) (rows : List (List Int)) (w : World) (hB : B ≤ w.heap.size) (h : TblAt B w (some ⟨b, off, none⟩) rows) (hl : ∀ r ∈ rows, r.length ≤ 30) (hv : VW rows) (h1 : 1 ≤ first) (h2 : first < rows.length) :
    Calls Try.prog 32 #[.slice (some ⟨b, off, none⟩) rows.length c, .int .i64 (first : Int)] w fun e w' => ∃ A' c', e = .returned (.tuple #[.slice A' (rows.length - 1) c', .int .i64 0]) ∧ IntsAt w'.heap.size w' A' (intL (rdT (wy rows) rows.length first (rows.length - 2))) ∧ rows.length - 1 ≤ c' ∧ Below w.heap.size w w' := by
  have cv := Lib.hid (Validate_any (some ⟨b, off, none⟩) c B rows w h hl)
  rw [vw_ok hv] at cv
  obtain ⟨b', off', e', hwa⟩ := WaAt.of_tbl h hv
  obtain ⟨rfl, rfl⟩ : b = b' ∧ off = off' := by injection e' with e'; injection e' with q1 q2; exact ⟨q1, q2⟩
  have H := Lib.hid (show WaAt w.heap.size w b off rows.length (wy rows) from hwa.below (Below.refl _ _) hB)
  have cs := Lib.hid (fun W => stops_any (some ⟨b, off, none⟩) rows.length c W (by have := hv.n1; omega))
  have hn7 := hv.n1
  have hfi : (first : Int) < (rows.length : Int) := by omega
  have hd1 : decide ((first : Int) < 1) = false := by simp; omega
  have hd2 : decide ((rows.length : Int) ≤ (first : Int)) = false := by simp; omega
  have hd2n : decide (rows.length ≤ first) = false := by simp; omega
  have HO0 := Lib.hid (World.ownsRow_lit (base := w.heap.size) (size := 1) (e := 3) w #[.int .i64 (first : Int)] 1 (Nat.le_refl _) (by decide) rfl)
  have HB0 := Lib.hid ((Below.refl w.heap.size w).alloc (Nat.le_refl _) (.cells #[.int .i64 (first : Int)] 3))
  have HS := Lib.hid (rdT_stp (wy rows) h1 h2)
  have HLn := Lib.hid (rdT_length (wy rows) rows.length first)
  obtain ⟨j0, hj, hy0, hy1, hy2⟩ := info_parts info3
  have hlu := upto_length rows.length
  have hwn : IntKind.i64.wrap ((rows.length : Int) - 1) = (rows.length : Int) - 1 := IntWalk.i64_in _ (by omega)
  clear h hl hv hwa e'
  generalize wy rows = f at *
  generalize hn : rows.length = n at *
  clear hn
  go_enter Try.func32, Try.ntmps32
  go_wp2_with (go_at_call 30; refine cv.out.mono ?_; rintro e w1 ⟨rfl, hw1⟩; obtain rfl := hw1.symm; clear hw1)
  go_loopw [7] (fun vt wr => ∃ k : Nat, k + 1 ≤ n - 1 ∧ wr.ownsRow w.heap.size 3 1 vt (k + 1) ((intL (rdT f n first k)).map (Value.int .i64)) ∧ Below w.heap.size w wr) (fun vt _ => n - lenV vt)
  case atStart => exact ⟨0, by omega, HO0.out, HB0.out⟩
  case round =>
    clear HO0 HB0
    obtain ⟨k, hk, hown, hbr⟩ := hrel
    obtain ⟨A3, c3, rfl⟩ := own_form hown
    have HO := Lib.hid hown
    have HBr := Lib.hid hbr
    clear hown hbr
    by_cases hlt : k + 1 < n - 1
    · have hIt : IntsAt wr.heap.size wr A3 (intL (rdT f n first k)) := IntsAt.of_own (by rw [intL_length, HLn.out]; exact HO.out)
      have hlen := HLn.out k
      obtain ⟨bt, ot, rfl, hbt, y0⟩ := hIt.at (k := k) (by rw [intL_length, hlen]; omega)
      rw [intL_get (by omega)] at y0
      have hlast : (rdT f n first k).getLast?.getD 0 = (rdT f n first k)[k] := by
        simp only [List.getLast?_eq_getElem?, hlen, Nat.add_sub_cancel]
        rw [List.getElem?_eq_getElem (by omega)]; rfl
      have hat := (HS.out k (by omega)).2 _ (List.getElem_mem (show k < (rdT f n first k).length by omega))
      have hnx : rdT f n first (k + 1) = rdT f n first k ++ [scn f (rdT f n first k)[k] (rdT f n first k) (n - 1)] := by
        rw [rdT, hlast]
      have HNx := Lib.hid hnx
      have HIt := Lib.hid hIt
      have Hlen := Lib.hid hlen
      have Htk := Lib.hid (HS.out k (by omega))
      generalize (rdT f n first k)[k] = a at y0 hat HNx
      have hkI : ((k + 1 : Nat) : Int) < (n : Int) - 1 := by omega
      have hkz : IntKind.i64.wrap (((k + 1 : Nat) : Int) - 1) = (k : Int) := by
        rw [IntWalk.i64_in _ (by omega)]; omega
      clear hIt hlen hlast hnx
      go_wp2_with (go_at_call 55; refine (cs.out _).mono ?_; rintro e w2 ⟨A2, c2, rfl, hown2, hd2⟩; have HI2 := Lib.hid (IntsAt.of_own (zs := upto n) (by rw [hlu]; exact hown2)); have HO2 := Lib.hid (own_below HO.out hd2); have HIt2 := Lib.hid (HIt.out.below hd2 hd2.size); have HB2 := Lib.hid (HBr.out.trans (hd2.mono HBr.out.size)); clear hown2 hd2)
      have hnn : ((n - 1 : Nat) : Int) = (n : Int) - 1 := by omega
      have ccx := Lib.hid (fun (x : Int) (W : World) (hW : Below w2.heap.size w2 W) => by
        have := contains_any (some ⟨bt, ot, none⟩) c3 W.heap.size (intL (rdT f n first k)) x W (by rw [intL_length, Hlen.out]; omega) (HIt2.out.below hW hW.size)
        rw [intL_length, Hlen.out] at this
        exact this.mono fun e w' ⟨h1, h2⟩ => And.intro h1 h2.symm)
      have HScs := Lib.hid (show ∀ j, scn f a (rdT f n first k) (j + 1) = if (j + 1) ∈ rdT f n first k then scn f a (rdT f n first k) j else if scn f a (rdT f n first k) j = 0 ∨ f a (j + 1) < f a (scn f a (rdT f n first k) j) then j + 1 else scn f a (rdT f n first k) j from fun j => rfl)
      have HScl := Lib.hid (scn_le f a (rdT f n first k))
      have Hct := Lib.hid (show ∀ j, (intL (rdT f n first k)).contains ((j : Nat) : Int) = decide (j ∈ rdT f n first k) from fun j => by
        rw [Bool.eq_iff_iff, List.contains_iff_mem, decide_eq_true_iff]
        unfold intL
        rw [List.mem_map]
        constructor
        · rintro ⟨y, hy, e⟩
          have : y = j := by omega
          exact this ▸ hy
        · exact fun h => ⟨j, h, rfl⟩)
      generalize hS : scn f a (rdT f n first k) = S at HScs HScl HNx
      have HS0 := Lib.hid (show S 0 = 0 by rw [← hS]; rfl)
      clear hS
      have HBe := Lib.hid (Below.refl w2.heap.size w2)
      (try rw [hnn])
      go_loopw [9, 42] (fun vb vi wx => ∃ j : Nat, j ≤ n - 1 ∧ vi = .int .i64 j ∧ vb = .int .i64 (S j : Nat) ∧ Below w2.heap.size w2 wx) (fun _ vi _ => n - 1 - (intOf vi).toNat)
      case atStart => exact ⟨0, Nat.zero_le _, rfl, by rw [HS0.out]; rfl, HBe.out⟩
      case round =>
        clear HBe
        obtain ⟨j, hj2, rfl, rfl, hbx⟩ := hrel
        have HBx := Lib.hid hbx
        clear hbx
        by_cases hjlt : j < n - 1
        · have hjI : (j : Int) < (n : Int) - 1 := by omega
          obtain ⟨bs, os, rfl, hbs, q0⟩ := (HI2.out.below HBx.out HBx.out.size).at (k := j) (by rw [hlu]; exact hjlt)
          rw [upto_get] at q0
          obtain ⟨b2, o2, c2', hb2, e1, f1⟩ := ((H.out.below HB2.out (Nat.le_refl _)).below (HBx.out.mono HB2.out.size) (Nat.le_refl _)).2 a (by omega)
          have e2 := f1 (j + 1) (by omega)
          have hsl := HScl.out j
          have e3 := f1 (S j) (by omega)
          have hss := HScs.out j
          have hct := Hct.out (j + 1)
          have ccj := Lib.hid (ccx.out (((j + 1 : Nat) : Nat) : Int))
          rw [hct] at ccj
          have HIt3 := Lib.hid (HIt2.out.below HBx.out HBx.out.size)
          by_cases hin : (j + 1) ∈ rdT f n first k
          · rw [decide_eq_true hin] at ccj
            rw [if_pos hin] at hss
            have Hss := Lib.hid hss
            clear hin hss hct e2 e3 f1
            go_wp2_with fail
            go_quiet ((go_at_call 69; exact Calls.quiet_of_same (ccj.out _ (by first | exact HBx.out | exact HBx.out.drew | exact below_drewN HBx.out _))))
            go_wp2_with fail
            go_roundw
            case rel => exact ⟨j + 1, by omega, by go_num, by rw [Hss.out], below_drewN HBx.out _⟩
            case measure => simp [intOf]; omega
          · rw [decide_eq_false hin] at ccj
            rw [if_neg hin] at hss
            by_cases h0 : S j = 0
            · rw [if_pos (.inl h0)] at hss
              have Hss := Lib.hid hss
              rw [h0]
              clear hin hss hct e2 e3 f1 h0
              go_wp2_with fail
              go_quiet ((go_at_call 69; exact Calls.quiet_of_same (ccj.out _ (by first | exact HBx.out | exact HBx.out.drew | exact below_drewN HBx.out _))))
              go_wp2_with fail
              go_roundw
              case rel => exact ⟨j + 1, by omega, by go_num, by rw [Hss.out]; rfl, below_drewN HBx.out _⟩
              case measure => simp [intOf]; omega
            · have hz1 : (((S j : Nat) : Int) == 0) = false := beqf (by omega)
              have hz0 : (0 : Int) ≤ ((S j : Nat) : Int) := by omega
              have hz2 : ((S j : Nat) : Int) < (n : Int) := by omega
              have ha1 : (a : Int) < (n : Int) := by omega
              have ha0 : (0 : Int) ≤ (a : Int) := by omega
              have hj1 : (((j + 1 : Nat) : Nat) : Int) < (n : Int) := by omega
              have hj0 : (0 : Int) ≤ (((j + 1 : Nat) : Nat) : Int) := by omega
              by_cases hlt2 : f a (j + 1) < f a (S j)
              · rw [if_pos (.inr hlt2)] at hss
                have hd3 : decide (f a (j + 1) < f a (S j)) = true := by simpa using hlt2
                have Hss := Lib.hid hss
                generalize f a (j + 1) = d1 at e2 hd3
                generalize f a (S j) = d2 at e3 hd3
                generalize S j = sj at *
                clear hin hss hct f1 hlt2 h0
                go_wp2_with fail
                go_quiet ((go_at_call 69; exact Calls.quiet_of_same (ccj.out _ (by first | exact HBx.out | exact HBx.out.drew | exact below_drewN HBx.out _))))
                go_wp2_with fail
                go_roundw
                case rel => exact ⟨j + 1, by omega, by go_num, by rw [Hss.out]; rfl, below_drewN HBx.out _⟩
                case measure => simp [intOf]; omega
              · rw [if_neg (by omega)] at hss
                have hd3 : decide (f a (j + 1) < f a (S j)) = false := by simpa using hlt2
                have Hss := Lib.hid hss
                generalize f a (j + 1) = d1 at e2 hd3
                generalize f a (S j) = d2 at e3 hd3
                clear hin hss hct f1 hlt2 h0
                generalize hsj : S j = sj at *
                have Hsj := Lib.hid hsj
                clear hsj
                go_wp2_with fail
                go_quiet ((go_at_call 69; exact Calls.quiet_of_same (ccj.out _ (by first | exact HBx.out | exact HBx.out.drew | exact below_drewN HBx.out _))))
                go_wp2_with fail
                go_roundw
                case rel => exact ⟨j + 1, by omega, by go_num, by rw [Hss.out], below_drewN HBx.out _⟩
                case measure => simp [intOf]; omega
        · obtain rfl : j = n - 1 := by omega
          have HNx2 := Lib.hid HNx.out
          have HO3 := Lib.hid (own_below HO2.out HBx.out)
          have HB3 := Lib.hid (HB2.out.trans (HBx.out.mono HB2.out.size))
          have HRow := Lib.hid (show (intL (rdT f n first (k + 1))).map (Value.int .i64) = (intL (rdT f n first k)).map (Value.int .i64) ++ [.int .i64 ((S (n - 1) : Nat) : Int)] by rw [HNx.out, intL_snoc])
          generalize S (n - 1) = sj at *
          have hjn : ((n - 1 : Nat) : Int) = (n : Int) - 1 := by omega
          rw [hjn]
          clear hjn
          go_wp2_with (at_builtin; refine wpList_app2' rfl _ _ 28 rfl w.heap.size 3 j0 _ 1 8 Try.underlying28 hj hy0 hy1 hy2 rfl (by decide) _ (k + 1) _ rfl (HO3.out.alloc _) wr.heap.size (.int .i64 (sj : Int)) rfl rfl (by exact cell_one_new _ _ _ 0 _ rfl) rfl (by omega) (by decide) (HB3.out.alloc HB3.out.size _).size ?_; intro A4 c4 w4 hown4 hg4 hlow4 hat4)
          have hb4 := (HB3.out.alloc HB3.out.size (.cells #[.int .i64 (sj : Int)] 3)).grown hg4 (HB3.out.alloc HB3.out.size _).size hlow4
          go_roundw
          case rel => exact ⟨k + 1, by omega, by rw [HRow.out]; exact hown4, hb4⟩
          case measure => simp [lenV]; omega
    · have hkn : k = n - 2 := by omega
      have hI := IntsAt.of_own (zs := intL (rdT f n first k)) (by rw [intL_length, HLn.out]; exact HO.out)
      have HI := Lib.hid hI
      have hc3 := (own_caps HO.out).1
      have hkl : k + 1 = n - 1 := by omega
      have HK := Lib.hid (And.intro hkn hkl)
      have hkI : (n : Int) - 1 ≤ ((k + 1 : Nat) : Int) := by omega
      clear hI hkn hkl
      go_wp2_with fail
      go_ret2
      exact ⟨A3, c3, by rw [← HK.out.2]; rfl, by rw [← HK.out.1]; exact HI.out, by rw [← HK.out.2]; exact hc3, HBr.out⟩
end Go.Proofs.Ytmodbpglopfghaa
