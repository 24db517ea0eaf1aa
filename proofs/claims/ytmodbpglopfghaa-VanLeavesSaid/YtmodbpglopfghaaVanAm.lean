/- VanDirects: the call returns true. -/
import Derived.Test.YtmodbpglopfghaaVanAl
set_option linter.unusedSimpArgs false
set_option linter.unusedVariables false
namespace Go.Proofs.Ytmodbpglopfghaa
open Go.RowKit

theorem RowsOwn.tbl {base n c : Nat} {A : Option Addr} {gx : Option Nat} {w : World} {vs : List Value} {rows : List (List Int)} (hn : rows.length = n) (hown : w.ownsRow base 28 1 (.slice A n c) n vs) (hR : RowsOwn base gx w vs rows) : TblAt w.heap.size w A rows := fun k hk => by
  obtain ⟨A1, c1, h1, h2, _⟩ := hR.2.1 k hk
  obtain ⟨g, rfl, hg, _, hc⟩ := own_cell hown (k := k) (by omega) h1
  exact ⟨g, 0, A1, c1, rfl, hg, by rw [Nat.zero_add]; exact hc, IntsAt.of_own h2⟩
theorem DirB.own {rows : List (List Int)} {D : Nat → Nat → Int} {x : Bool} (hD : IsDist rows.length (wy rows) D) (h : DirB (rowsOf D rows.length) x) : x = true := by
  obtain ⟨D2, h1, rfl⟩ := h
  rw [rowsOf_length] at h1 ⊢
  rw [decide_eq_true_iff]
  exact rowsOf_congr fun i j hi hj => hD.own.unique (h1.congr fun a b ha hb => wy_rowsOf D _ ha hb) hi hj
theorem td_direct {rows : List (List Int)} {D : Nat → Nat → Int} (hv : VW rows) (hD : IsDist rows.length (wy rows) D) (t : List Int) : tdR (rowsOf D rows.length) t = tdR rows t := by
  rw [td_vw t hv, td_vw t (vw_dist hv hD), rowsOf_length]
theorem ln_direct {rows : List (List Int)} {D : Nat → Nat → Int} (hv : VW rows) (hD : IsDist rows.length (wy rows) D) (t : List Int) : lnR (rowsOf D rows.length) t ≤ lnR rows t := by
  unfold lnR
  rw [td_direct hv hD]
  by_cases h0 : tdR rows t = 0
  · rw [if_pos h0, if_pos h0]
    obtain ⟨_, hu⟩ := td_zero h0
    exact len_mono (n := rows.length) (fun i j hi hj => by rw [wy_rowsOf D _ hi hj]; exact hD.le hi hj) hv.n0 (toN t) 0 hv.n0 (fun x hx => ((tu_stp hu).2.2 x hx).2)
  · rw [if_neg h0, if_neg h0]; exact Int.le_refl _

set_option maxRecDepth 100000 in
set_option maxHeartbeats 2000000 in
theorem directs_law (A A' : Option Addr) (c c' : Nat) (rows : List (List Int)) (p : List Int) (w : World) (h : TblAt w.heap.size w A rows) (h' : IntsAt w.heap.size w A' p) (hcap : p.length ≤ c') :
    Calls Try.prog 13 #[.slice A rows.length c, .slice A' p.length c'] w fun e w' => e = .returned (.bool true) ∧ Below w.heap.size w w' := by
  have cl := Lib.hid (Large_any A c w.heap.size rows w h)
  have cg := Lib.hid (long_any A' p.length c' w)
  have hB0 := Below.refl w.heap.size w
  rcases lg2 (lgW rows) (decide (60 < (p.length : Int))) with hlg | ⟨hlg, hlo⟩ | ⟨hlg, hlo⟩
  · rw [hlg] at cl
    clear h h' hlg
    go_enter Try.func13, Try.ntmps13
    go_wp2_with (first | (go_at_call 17; refine cl.out.mono ?_; rintro e w1 ⟨rfl, hw1⟩; obtain rfl := hw1.symm; clear hw1) | (go_at_call 18; refine (known_any _).mono ?_; rintro e w5 ⟨rfl, hb5⟩))
    go_ret
    exact ⟨rfl, hb5⟩
  · rw [hlg] at cl
    rw [hlo] at cg
    clear h h' hlg hlo
    go_enter Try.func13, Try.ntmps13
    go_wp2_with (first | (go_at_call 17; refine cl.out.mono ?_; rintro e w1 ⟨rfl, hw1⟩; obtain rfl := hw1.symm; clear hw1) | (go_at_call 22; refine cg.out.mono ?_; rintro e w1 ⟨rfl, rfl⟩) | (go_at_call 18; refine (known_any _).mono ?_; rintro e w5 ⟨rfl, hb5⟩))
    go_ret
    exact ⟨rfl, hb5⟩
  · rw [hlg] at cl
    rw [hlo] at cg
    have hl := lgW_small hlg
    have hm : p.length ≤ 60 := by simp at hlo; omega
    have cc := Lib.hid (Copy_ref A c w.heap.size rows w (Nat.le_refl _) h (by omega) (fun r hr => by have := hl.2 r hr; omega))
    have csm := Lib.hid (fun (A2 A3 : Option Addr) (c2 c3 : Nat) (l : List (List Int)) (W : World) (hT : TblAt W.heap.size W A2 l) (hT' : TblAt W.heap.size W A3 l) (hl1 : l.length ≤ 30 ∧ ∀ r ∈ l, r.length ≤ 30) => by
      have := Same_any A2 A3 c2 c3 W.heap.size l l W (Nat.le_refl _) hT hT' (by omega) (fun r hr => by have := hl1.2 r hr; omega)
      rw [decide_eq_true rfl] at this
      exact this)
    have Hl := Lib.hid hl
    have H := Lib.hid h
    have H' := Lib.hid h'
    by_cases hv : VW rows
    · have hn0 := hv.n0
      have hn7 := hv.n1
      have HV := Lib.hid hv
      obtain ⟨b, off, rfl, _⟩ := WaAt.of_tbl h hv
      have cd := Lib.hid (fun (b1 c1 : Nat) (W : World) (hT : TblAt W.heap.size W (some ⟨b1, 0, none⟩) rows) => Direct_any b1 0 c1 W.heap.size rows W (Nat.le_refl _) hT Hl.out.2 HV.out)
      have cdr := Lib.hid (fun W (hW : Below w.heap.size w W) => Direct_ref b off c w.heap.size rows W hW.size (H.out.below hW (Nat.le_refl _)) Hl.out HV.out)
      have ci := Lib.hid (fun W (hW : Below w.heap.size w W) => IsDirect_any b off c w.heap.size rows W hW.size (H.out.below hW (Nat.le_refl _)) Hl.out.2 HV.out)
      have cir := Lib.hid (fun W (hW : Below w.heap.size w W) => IsDirect_ref b off c w.heap.size rows W hW.size (H.out.below hW (Nat.le_refl _)) Hl.out HV.out)
      have cL := Lib.hid (fun W (hW : Below w.heap.size w W) => Length_any (some ⟨b, off, none⟩) A' c c' w.heap.size rows p W (H.out.below hW (Nat.le_refl _)) Hl.out.2 (H'.out.below hW (Nat.le_refl _)) (by omega) hcap)
      have cD : ∀ (g : Nat) (D : Nat → Nat → Int) (W : World), IsDist rows.length (wy rows) D → TblAt W.heap.size W (some ⟨g, 0, none⟩) (rowsOf D rows.length) → Below w.heap.size w W →
          (Calls Try.prog 47 #[.slice (some ⟨g, 0, none⟩) rows.length rows.length] W fun e w' => e = .returned (.tuple #[.bool true, .int .i64 0]) ∧ Below W.heap.size W w') ∧
          (Calls Try.prog 29 #[.slice (some ⟨g, 0, none⟩) rows.length rows.length, .slice A' p.length c'] W fun e w' => e = .returned (.tuple #[.int .i64 (lnR (rowsOf D rows.length) p), .int .i64 (tdR rows p)]) ∧ W = w') := fun g D W hD hT hW => by
        have hlen := rowsOf_length D rows.length
        have hl30 : ∀ r ∈ rowsOf D rows.length, r.length ≤ 30 := fun r hr => by rw [rowsOf_sq D _ r hr]; omega
        have h1 := IsDirect_any g 0 rows.length W.heap.size (rowsOf D rows.length) W (Nat.le_refl _) hT hl30 (vw_dist hv hD)
        have h2 := Length_any (some ⟨g, 0, none⟩) A' rows.length c' W.heap.size (rowsOf D rows.length) p W hT hl30 (h'.below hW hW.size) (by omega) hcap
        rw [hlen] at h1 h2
        rw [td_direct hv hD] at h2
        exact ⟨h1.mono fun e w' ⟨x, q1, q2, q3⟩ => ⟨by rw [q1, q2.own hD], q3⟩, h2⟩
      have CD := Lib.hid cD
      have HLe := Lib.hid (fun D (hD : IsDist rows.length (wy rows) D) => ln_direct hv hD p)
      have HTb := Lib.hid (fun (A1 : Option Addr) (c1 : Nat) (vs : List Value) (W : World) (h1 : W.ownsRow w.heap.size 28 1 (.slice A1 rows.length c1) rows.length vs) (h2 : RowsOwn w.heap.size (Value.slice A1 rows.length c1).ownBlock W vs rows) => And.intro (RowsOwn.tbl rfl h1 h2) (MT.of_copy rfl hn0 hv.sq h1 h2))
      have HEq := Lib.hid (show ∀ D D', IsDist rows.length (wy rows) D → IsDist rows.length (wy rows) D' → rowsOf D' rows.length = rowsOf D rows.length from fun D D' h1 h2 => rowsOf_congr fun i j hi hj => h2.unique h1 hi hj)
      have Hrl := Lib.hid (show ∀ D, (rowsOf D rows.length).length ≤ 30 ∧ ∀ r ∈ rowsOf D rows.length, r.length ≤ 30 from fun D => ⟨by rw [rowsOf_length]; omega, fun r hr => by rw [rowsOf_sq D _ r hr]; omega⟩)
      have Hlen := Lib.hid (show ∀ D, (rowsOf D rows.length).length = rows.length from fun D => rowsOf_length D _)
      have csmD := Lib.hid (fun (A2 A3 : Option Addr) (c2 c3 : Nat) (D : Nat → Nat → Int) (W : World) (hT : TblAt W.heap.size W A2 (rowsOf D rows.length)) (hT' : TblAt W.heap.size W A3 (rowsOf D rows.length)) => by
        have := csm.out A2 A3 c2 c3 _ W hT hT' (Hrl.out D)
        rw [Hlen.out] at this
        exact this)
      clear h h' hlg hlo hl hv cD
      go_enter Try.func13, Try.ntmps13
      have tok := Lib.hid (Nat.le_refl 0)
      go_wp2_with (first
        | (go_at_call 17; refine cl.out.mono ?_; rintro e w1 ⟨rfl, hw1⟩; obtain rfl := hw1.symm; clear hw1)
        | (go_at_call 22; refine cg.out.mono ?_; rintro e w1 ⟨rfl, rfl⟩)
        | (go_at_call 45; refine cc.out.mono ?_; rintro e w1 ⟨A1, c1, vs, rfl, ho1, hR1, hb1⟩; obtain ⟨hT1, g1, rfl, hM1⟩ := HTb.out _ _ _ _ ho1 hR1; have HT1 := Lib.hid hT1; clear ho1 hR1 hT1 hM1)
        | (go_at_call 35; refine (cd.out _ _ _ HT1.out).mono ?_; rintro e w2 ⟨g2, D, rfl, hM2, hD2, hb2⟩; have hB2 := hb1.trans (hb2.mono hb1.size); have HT2 := Lib.hid hM2.tbl; have HD2 := Lib.hid hD2; have HT12 := Lib.hid (HT1.out.below hb2 hb2.size); clear hM2 hD2)
        | (go_at_call 46; refine (cdr.out _ hB2).mono ?_; rintro e w3 ⟨g3, c3, D3, rfl, hM3, hD3, hb3⟩; have hB3 := hB2.trans (hb3.mono hB2.size); have hT3 := hM3.tbl; rw [HEq.out _ _ HD2.out hD3] at hT3; have HT3 := Lib.hid hT3; have HT23 := Lib.hid (HT2.out.below hb3 hb3.size); have HT13 := Lib.hid (HT12.out.below hb3 hb3.size); clear hM3 hD3 hT3)
        | (go_at_call 47; have tk := tok; clear tok; refine (ci.out _ hB3).mono ?_; rintro e w4 ⟨x, rfl, hx, hb4⟩; have tok2 := tk; have HX := Lib.hid hx; clear hx; have hB4 := hB3.trans (hb4.mono hB3.size))
        | (go_at_call 48; refine (cir.out _ hB4).mono ?_; rintro e w5 ⟨y, rfl, hy, hb5⟩; obtain rfl := HX.out.unique hy; clear hy; have hB5 := hB4.trans (hb5.mono hB4.size); have hb35 := hb4.trans (hb5.mono hb4.size); have HT25 := Lib.hid (HT23.out.below hb35 hb35.size); have HT35 := Lib.hid (HT3.out.below hb35 hb35.size); have HT15 := Lib.hid (HT13.out.below hb35 hb35.size); have tokA := Lib.hid (Nat.le_refl 0))
        | (go_at_call 49; have tk := tokA; clear tokA; refine (csmD.out _ _ _ _ D _ HT25.out HT35.out).mono ?_; rintro e w6 ⟨rfl, hb6⟩; have tokB := tk; have hB6 := hB5.trans (hb6.mono hB5.size); have HT26 := Lib.hid (HT25.out.below hb6 hb6.size); have HT16 := Lib.hid (HT15.out.below hb6 hb6.size); have HT06 := Lib.hid (H.out.below hB6 hB6.size))
        | (go_at_call 49; have tk := tokB; clear tokB; refine (csm.out _ _ _ _ rows _ HT16.out HT06.out Hl.out).mono ?_; rintro e w7 ⟨rfl, hb7⟩; have hB7 := hB6.trans (hb7.mono hB6.size); have HT27 := Lib.hid (HT26.out.below hb7 hb7.size))
        | (go_at_call 47; have tk := tok2; clear tok2; refine (CD.out g2 D _ HD2.out HT27.out hB7).1.mono ?_; rintro e w8 ⟨rfl, hb8⟩; have hB8 := hB7.trans (hb8.mono hB7.size); have HT28 := Lib.hid (HT27.out.below hb8 hb8.size); have tokC := tk)
        | (go_at_call 29; have tk := tokC; clear tokC; refine (cL.out _ hB8).mono ?_; rintro e w9 ⟨rfl, rfl⟩; have tokD := tk)
        | (go_at_call 29; have tk := tokD; clear tokD; refine (CD.out g2 D _ HD2.out HT28.out hB8).2.mono ?_; rintro e w9 ⟨rfl, rfl⟩; have d1 := decide_eq_true (HLe.out D HD2.out))
        | (go_at_call 18; refine (known_any _).mono ?_; rintro e w9 ⟨rfl, hb9⟩))
      go_ret
      exact ⟨rfl, hB8.trans (hb9.mono hB8.size)⟩
    · have HV := Lib.hid hv
      have cd := Lib.hid (fun (A1 : Option Addr) (c1 : Nat) (W : World) (hT : TblAt W.heap.size W A1 rows) => Direct_bad A1 c1 W.heap.size rows W hT Hl.out.2 HV.out)
      have cdr := Lib.hid (fun W (hW : Below w.heap.size w W) => Direct_ref_bad A c w.heap.size rows W hW.size (H.out.below hW (Nat.le_refl _)) Hl.out HV.out)
      have ci := Lib.hid (fun W (hW : Below w.heap.size w W) => IsDirect_bad A c w.heap.size rows W (H.out.below hW (Nat.le_refl _)) Hl.out.2 HV.out)
      have cir := Lib.hid (fun W (hW : Below w.heap.size w W) => IsDirect_ref_bad A c w.heap.size rows W hW.size (H.out.below hW (Nat.le_refl _)) Hl.out HV.out)
      have HTb := Lib.hid (fun (A1 : Option Addr) (c1 : Nat) (vs : List Value) (W : World) (h1 : W.ownsRow w.heap.size 28 1 (.slice A1 rows.length c1) rows.length vs) (h2 : RowsOwn w.heap.size (Value.slice A1 rows.length c1).ownBlock W vs rows) => RowsOwn.tbl rfl h1 h2)
      have csn := Lib.hid (fun (c2 c3 : Nat) (W : World) => csm.out none none c2 c3 [] W (fun k hk => by simp at hk) (fun k hk => by simp at hk) (by simp))
      have hne : (vwR rows != 0) = true := by simpa using vw_ne hv
      have hne2 : (vwR rows == 0) = false := by simpa using vw_ne hv
      generalize vwR rows = e0 at cd cdr ci cir hne hne2
      clear h h' hlg hlo hl hv
      go_enter Try.func13, Try.ntmps13
      have tokA := Lib.hid (Nat.le_refl 0)
      go_wp2_with (first
        | (go_at_call 17; refine cl.out.mono ?_; rintro e w1 ⟨rfl, hw1⟩; obtain rfl := hw1.symm; clear hw1)
        | (go_at_call 22; refine cg.out.mono ?_; rintro e w1 ⟨rfl, rfl⟩)
        | (go_at_call 45; refine cc.out.mono ?_; rintro e w1 ⟨A1, c1, vs, rfl, ho1, hR1, hb1⟩; have HT1 := Lib.hid (HTb.out _ _ _ _ ho1 hR1); clear ho1 hR1)
        | (go_at_call 35; refine (cd.out _ _ _ HT1.out).mono ?_; rintro e w2 ⟨rfl, rfl⟩)
        | (go_at_call 46; refine (cdr.out _ hb1).mono ?_; rintro e w3 ⟨rfl, hb3⟩; have hB3 := hb1.trans (hb3.mono hb1.size); have HT13 := Lib.hid (HT1.out.below hb3 hb3.size))
        | (go_at_call 47; refine (ci.out _ hB3).mono ?_; rintro e w4 ⟨rfl, rfl⟩)
        | (go_at_call 48; refine (cir.out _ hB3).mono ?_; rintro e w5 ⟨rfl, hb5⟩; have hB5 := hB3.trans (hb5.mono hB3.size); have HT15 := Lib.hid (HT13.out.below hb5 hb5.size))
        | (go_at_call 49; have tk := tokA; clear tokA; refine (csn.out _ _ _).mono ?_; rintro e w6 ⟨rfl, hb6⟩; have tokB := tk; have hB6 := hB5.trans (hb6.mono hB5.size); have HT16 := Lib.hid (HT15.out.below hb6 hb6.size); have HT06 := Lib.hid (H.out.below hB6 hB6.size))
        | (go_at_call 49; have tk := tokB; clear tokB; refine (csm.out _ _ _ _ rows _ HT16.out HT06.out Hl.out).mono ?_; rintro e w7 ⟨rfl, hb7⟩; have hB7 := hB6.trans (hb7.mono hB6.size))
        | (go_at_call 18; refine (known_any _).mono ?_; rintro e w9 ⟨rfl, hb9⟩))
      go_ret
      exact ⟨rfl, hB7.trans (hb9.mono hB7.size)⟩
end Go.Proofs.Ytmodbpglopfghaa
