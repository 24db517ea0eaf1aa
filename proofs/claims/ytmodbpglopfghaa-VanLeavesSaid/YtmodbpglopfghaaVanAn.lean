/- VanLeaves: the call returns true. -/
import Derived.Test.YtmodbpglopfghaaVanAm
set_option linter.unusedSimpArgs false
set_option linter.unusedVariables false
namespace Go.Proofs.Ytmodbpglopfghaa
open Go.RowKit

theorem erase_split (p : List Int) (k : Nat) : p.eraseIdx k = p.take k ++ p.drop (k + 1) := List.eraseIdx_eq_take_drop_succ p k
theorem tu_erase {n : Nat} {t : List Int} (k : Nat) (h : tuR n t = 0) : tuR n (t.eraseIdx k) = 0 := by
  obtain ⟨h1, h2⟩ := tu_zero h
  exact tu_ok (fun x hx => h1 x (List.mem_of_mem_eraseIdx hx)) (h2.sublist (List.eraseIdx_sublist t k))
theorem leave_all {rows : List (List Int)} {D : Nat → Nat → Int} (hv : VW rows) (hD : IsDist rows.length (wy rows) D) {t : List Int} (h0 : tdR rows t = 0) {k : Nat} (hk : k < t.length) :
    tdR (rowsOf D rows.length) (t.eraseIdx k) = 0 ∧ lnR (rowsOf D rows.length) (t.eraseIdx k) ≤ lnR (rowsOf D rows.length) t := by
  have hu := (td_zero h0).2
  have hv2 := vw_dist hv hD
  have e1 : tdR (rowsOf D rows.length) (t.eraseIdx k) = 0 := by rw [td_vw _ hv2, rowsOf_length]; exact tu_erase k hu
  have e2 : tdR (rowsOf D rows.length) t = 0 := by rw [td_direct hv hD]; exact h0
  refine ⟨e1, ?_⟩
  unfold lnR
  rw [if_pos e1, if_pos e2]
  have e3 : toN (t.eraseIdx k) = (toN t).eraseIdx k := by
    unfold toN
    rw [erase_split, List.eraseIdx_eq_take_drop_succ]
    simp
  rw [e3]
  have hs := (tu_stp hu).2
  exact len_less (n := rows.length) (fun i j m hi hj hm => by rw [wy_rowsOf D _ hi hj, wy_rowsOf D _ hi hm, wy_rowsOf D _ hm hj]; exact hD.tri hi hj hm) hv.n0 (toN t) k 0 hv.n0 (fun x hx => (hs.2 x hx).2) (by rw [toN_length]; exact hk)
theorem vw_nil : ¬ VW [] := fun h => by have := h.n0; simp at this

set_option maxRecDepth 100000 in
set_option maxHeartbeats 2000000 in
theorem leaves_law (A A' : Option Addr) (c c' : Nat) (rows : List (List Int)) (p : List Int) (at_ : Int) (w : World) (h : TblAt w.heap.size w A rows) (h' : IntsAt w.heap.size w A' p) (hcap : p.length ≤ c') (hcm : c' ≤ maxLen) :
    Calls Try.prog 9 #[.slice A rows.length c, .slice A' p.length c', .int .i64 at_] w fun e w' => e = .returned (.bool true) ∧ Below w.heap.size w w' := by
  have cl := Lib.hid (Large_any A c w.heap.size rows w h)
  have cg := Lib.hid (long_any A' p.length c' w)
  have hB0 := Below.refl w.heap.size w
  rcases lg2 (lgW rows) (decide (60 < (p.length : Int))) with hlg | ⟨hlg, hlo⟩ | ⟨hlg, hlo⟩
  · rw [hlg] at cl
    clear h h' hlg
    go_enter Try.func9, Try.ntmps9
    go_wp2_with (first | (go_at_call 17; refine cl.out.mono ?_; rintro e w1 ⟨rfl, hw1⟩; obtain rfl := hw1.symm; clear hw1) | (go_at_call 18; refine (known_any _).mono ?_; rintro e w5 ⟨rfl, hb5⟩))
    go_ret
    exact ⟨rfl, hb5⟩
  · rw [hlg] at cl
    rw [hlo] at cg
    clear h h' hlg hlo
    go_enter Try.func9, Try.ntmps9
    go_wp2_with (first | (go_at_call 17; refine cl.out.mono ?_; rintro e w1 ⟨rfl, hw1⟩; obtain rfl := hw1.symm; clear hw1) | (go_at_call 22; refine cg.out.mono ?_; rintro e w1 ⟨rfl, rfl⟩) | (go_at_call 18; refine (known_any _).mono ?_; rintro e w5 ⟨rfl, hb5⟩))
    go_ret
    exact ⟨rfl, hb5⟩
  · rw [hlg] at cl
    rw [hlo] at cg
    have hl := lgW_small hlg
    have hm : p.length ≤ 60 := by simp at hlo; omega
    by_cases hp0 : p.length = 0
    · have hz : ((p.length : Int) == 0) = true := by simp; exact List.eq_nil_of_length_eq_zero hp0
      rw [hp0] at cg ⊢
      clear h h' hlg hlo hz hcap
      go_enter Try.func9, Try.ntmps9
      go_wp2_with (first | (go_at_call 17; refine cl.out.mono ?_; rintro e w1 ⟨rfl, hw1⟩; obtain rfl := hw1.symm; clear hw1) | (go_at_call 22; refine cg.out.mono ?_; rintro e w1 ⟨rfl, rfl⟩) | (go_at_call 18; refine (known_any _).mono ?_; rintro e w5 ⟨rfl, hb5⟩))
      go_ret
      exact ⟨rfl, hb5⟩
    · have hz : ((p.length : Int) == 0) = false := beqf (by omega)
      by_cases hv : VW rows
      · have hn0 := hv.n0
        have hn7 := hv.n1
        obtain ⟨b, off, rfl, _⟩ := WaAt.of_tbl h hv
        have cd := Lib.hid (Direct_any b off c w.heap.size rows w (Nat.le_refl _) h hl.2 hv)
        have cL : ∀ (g : Nat) (D : Nat → Nat → Int) (A2 : Option Addr) (c2 : Nat) (t : List Int) (W : World), IsDist rows.length (wy rows) D → TblAt W.heap.size W (some ⟨g, 0, none⟩) (rowsOf D rows.length) → IntsAt W.heap.size W A2 t → t.length ≤ 60 → t.length ≤ c2 →
            Calls Try.prog 29 #[.slice (some ⟨g, 0, none⟩) rows.length rows.length, .slice A2 t.length c2] W fun e w' => e = .returned (.tuple #[.int .i64 (lnR (rowsOf D rows.length) t), .int .i64 (tdR (rowsOf D rows.length) t)]) ∧ W = w' := fun g D A2 c2 t W hD hT hI ht hc => by
          have h2 := Length_any (some ⟨g, 0, none⟩) A2 rows.length c2 W.heap.size (rowsOf D rows.length) t W hT (fun r hr => by rw [rowsOf_sq D _ r hr]; omega) hI (by omega) hc
          rw [rowsOf_length] at h2
          exact h2
        have H' := Lib.hid h'
        have CL := Lib.hid cL
        by_cases h0 : tdR rows p = 0
        · obtain ⟨u, hu⟩ : ∃ u, IntKind.u64.wrap at_ = u := ⟨_, rfl⟩
          have hu0 : 0 ≤ u := by rw [← hu, IntKind.wrap_u64]; omega
          have hkl : (u % (p.length : Int)).toNat < p.length := by
            have h1 := Int.emod_lt_of_pos u (show (0 : Int) < p.length by omega)
            have h2 := Int.emod_nonneg u (show (p.length : Int) ≠ 0 by omega)
            omega
          have hku : ((u % (p.length : Int)).toNat : Int) = u % (p.length : Int) := Int.toNat_of_nonneg (Int.emod_nonneg u (show (p.length : Int) ≠ 0 by omega))
          generalize (u % (p.length : Int)).toNat = k at hkl hku
          have HLv := Lib.hid (fun D (hD : IsDist rows.length (wy rows) D) => leave_all hv hD h0 hkl)
          have cD := Lib.hid (show ∀ (g : Nat) (D : Nat → Nat → Int) (W : World), IsDist rows.length (wy rows) D → TblAt W.heap.size W (some ⟨g, 0, none⟩) (rowsOf D rows.length) → Below w.heap.size w W → Calls Try.prog 29 #[.slice (some ⟨g, 0, none⟩) rows.length rows.length, .slice A' p.length c'] W fun e w' => e = .returned (.tuple #[.int .i64 (lnR (rowsOf D rows.length) p), .int .i64 0]) ∧ W = w' from fun g D W hD hT hW => by
            have := cL g D A' c' p W hD hT (h'.below hW hW.size) hm hcap
            rw [td_direct hv hD, h0] at this
            exact this)
          have hel : (p.eraseIdx k).length = p.length - 1 := List.length_eraseIdx_of_lt hkl
          have cE := Lib.hid (show ∀ (g : Nat) (D : Nat → Nat → Int) (A2 : Option Addr) (c2 : Nat) (W : World), IsDist rows.length (wy rows) D → TblAt W.heap.size W (some ⟨g, 0, none⟩) (rowsOf D rows.length) → IntsAt W.heap.size W A2 (p.eraseIdx k) → p.length - 1 ≤ c2 →
              Calls Try.prog 29 #[.slice (some ⟨g, 0, none⟩) rows.length rows.length, .slice A2 (p.length - 1) c2] W fun e w' => e = .returned (.tuple #[.int .i64 (lnR (rowsOf D rows.length) (p.eraseIdx k)), .int .i64 0]) ∧ W = w' from fun g D A2 c2 W hD hT hI hc => by
            have := cL g D A2 c2 (p.eraseIdx k) W hD hT hI (by omega) (by omega)
            rw [(leave_all hv hD h0 hkl).1, hel] at this
            exact this)
          have HT := Lib.hid (h'.take k)
          have HD := Lib.hid (h'.dropD (c := c') (a := k + 1) hcap)
          have Hlt := Lib.hid (show (p.take k).length = k by simp; omega)
          have Hld := Lib.hid (show (p.drop (k + 1)).length = p.length - (k + 1) by simp)
          have Hel := Lib.hid hel
          have HEr := Lib.hid (show (p.take k).map (Value.int .i64) ++ (p.drop (k + 1)).map (Value.int .i64) = (p.eraseIdx k).map (Value.int .i64) by rw [erase_split, List.map_append])
          obtain ⟨j0, hj, hy0, hy1, hy2⟩ := info_parts info3
          have Hcm := Lib.hid hcm
          have Hm := Lib.hid hm
          clear h h' hlg hlo hl hv h0 cL hcm
          have hpn : (p.length : Int) ≠ 0 := by omega
          have hp60 : p.length ≤ 60 := hm
          have hn1 : IntKind.u64.wrap (p.length : Int) = (p.length : Int) := by rw [IntKind.wrap_u64]; omega
          have hn3 : (p.length == 0) = false := by simp; exact fun e => hp0 (by rw [e]; rfl)
          have hk1 : IntKind.i64.wrap (u % (p.length : Int)) = (k : Int) := by rw [← hku, IntKind.wrap_i64]; omega
          have hk2 : u % (p.length : Int) = (k : Int) := hku.symm
          have hk3 : Int.tmod u (p.length : Int) = (k : Int) := by rw [Int.tmod_eq_emod_of_nonneg hu0]; exact hku.symm
          have hk4 : IntKind.i64.wrap (k : Int) = (k : Int) := by rw [IntKind.wrap_i64]; omega
          have hkn : (k : Int) < (p.length : Int) := by omega
          have hk0 : (0 : Int) ≤ (k : Int) := by omega
          have hkc : (k : Int) ≤ (c' : Int) := by omega
          obtain ⟨q, hqk⟩ : ∃ q : Nat, q = k + 1 := ⟨_, rfl⟩
          have hq5 : (q : Int) ≤ (p.length : Int) := by omega
          have hq0 : (0 : Int) ≤ (q : Int) := by omega
          have hqc : (q : Int) ≤ (c' : Int) := by omega
          have hkw : IntKind.i64.wrap ((k : Int) + 1) = (q : Int) := by rw [IntKind.wrap_i64]; omega
          have Hqk := Lib.hid hqk
          rw [← hqk] at HD HEr Hld
          have hqn : k + (p.length - q) = p.length - 1 := by omega
          have HQn := Lib.hid hqn
          generalize hA2 : (if c' = q then A' else Option.map (fun x => x.add q) A') = A2 at HD
          clear hqk hqn
          have hpc : (p.length : Int) ≤ (c' : Int) := by omega
          clear hku hu0
          go_enter Try.func9, Try.ntmps9
          have tok := Lib.hid (Nat.le_refl 0)
          go_wp2_with (first
            | (go_at_call 17; refine cl.out.mono ?_; rintro e w1 ⟨rfl, hw1⟩; obtain rfl := hw1.symm; clear hw1)
            | (go_at_call 22; refine cg.out.mono ?_; rintro e w1 ⟨rfl, rfl⟩)
            | (go_at_call 35; refine cd.out.mono ?_; rintro e w2 ⟨g2, D, rfl, hM2, hD2, hb2⟩; have HT2 := Lib.hid hM2.tbl; have HD2 := Lib.hid hD2; clear hM2 hD2)
            | (go_at_call 29; have tk := tok; clear tok; refine (cD.out g2 D _ HD2.out HT2.out hb2).mono ?_; rintro e w3 ⟨rfl, rfl⟩))
          obtain ⟨wr, rfl⟩ : ∃ wr : World, wr = w2 := ⟨_, rfl⟩
          have HB := Lib.hid hb2
          have HTw := Lib.hid (HT.out.below HB.out HB.out.size)
          have HDw := Lib.hid (HD.out.below HB.out HB.out.size)
          have tok1 := Lib.hid (Nat.le_refl 0)
          go_region_held3 (fun W => Below wr.heap.size wr W)
            ((repeat (first | exact Below.refl _ _ | assumption | refine Below.drew ?_ | refine balloc ?_ _)))
            (first
              | (have tk := tok1; clear tok1; refine step_app' _ (by rfl) (.tmp 52) (.tmp 55) 28 (by rfl) wr.heap.size 3 j0 _ 1 8 Try.underlying28 hj hy0 hy1 hy2 (by rfl) (by decide) (.slice (some ⟨_, 0, none⟩) 0 0) 0 [] (by rfl)
                  (by repeat (first | with_reducible exact own_new' 1 (by simp) (by first | exact Nat.le_refl _ | simp | omega) | refine World.ownsRow.drew ?_ | refine World.ownsRow.alloc ?_ _))
                  A' k c' ((p.take k).map (Value.int .i64)) (by rfl) (by rw [List.length_map, Hlt.out, Nat.mul_one]) (fun e => by have := HTw.out.none_nil e; rw [Hlt.out] at this; exact this)
                  (IntsAt.news (IntsAt.below HTw.out (by (repeat (first | exact Below.refl _ _ | assumption | refine Below.drew ?_ | refine balloc ?_ _))) (Below.size (w := wr) (B := wr.heap.size) (by (repeat (first | exact Below.refl _ _ | assumption | refine Below.drew ?_ | refine balloc ?_ _))))))
                  (ints_one _) (by omega) (by decide) (Below.size (w := wr) (B := wr.heap.size) (by (repeat (first | exact Below.refl _ _ | assumption | refine Below.drew ?_ | refine balloc ?_ _)))) k (by omega) ((p.take k).map (Value.int .i64)) (by rfl) ?_; intro A4 c4 w4 hown4 hg4 hlow4; have tok2 := tk; have hb4 : Below wr.heap.size wr w4 := bgrown (by (repeat (first | exact Below.refl _ _ | assumption | refine Below.drew ?_ | refine balloc ?_ _))) hg4 hlow4)
              | (have tk := tok2; clear tok2; refine step_app' _ (by rfl) (.tmp 56) (.tmp 60) 28 (by rfl) wr.heap.size 3 j0 _ 1 8 Try.underlying28 hj hy0 hy1 hy2 (by rfl) (by decide) (.slice A4 k c4) k ((p.take k).map (Value.int .i64)) (by rfl)
                  (by repeat (first | assumption | refine World.ownsRow.drew ?_ | refine World.ownsRow.alloc ?_ _))
                  A2 (p.length - q) (c' - q) ((p.drop q).map (Value.int .i64)) (by rfl) (by rw [List.length_map, Hld.out, Nat.mul_one]) (fun e => by have := HDw.out.none_nil e; rw [Hld.out] at this; exact this)
                  (IntsAt.news (IntsAt.below HDw.out (by (repeat (first | exact Below.refl _ _ | assumption | refine Below.drew ?_ | refine balloc ?_ _))) (Below.size (w := wr) (B := wr.heap.size) (by (repeat (first | exact Below.refl _ _ | assumption | refine Below.drew ?_ | refine balloc ?_ _))))))
                  (ints_one _) (by omega) (by decide) (Below.size (w := wr) (B := wr.heap.size) (by (repeat (first | exact Below.refl _ _ | assumption | refine Below.drew ?_ | refine balloc ?_ _)))) (p.length - 1) HQn.out ((p.eraseIdx k).map (Value.int .i64)) HEr.out ?_; intro A5 c5 w5 hown5 hg5 hlow5; have tok3 := tk; have hb5 : Below wr.heap.size wr w5 := bgrown (by (repeat (first | exact Below.refl _ _ | assumption | refine Below.drew ?_ | refine balloc ?_ _))) hg5 hlow5; have HI5 := Lib.hid (IntsAt.of_own (zs := p.eraseIdx k) (by rw [Hel.out]; exact hown5)); have HC5 := Lib.hid (own_caps hown5).1)
              | (go_at_call 29; have tk := tok3; clear tok3; refine (cE.out g2 D A5 c5 w5 HD2.out (HT2.out.below hb5 hb5.size) HI5.out HC5.out).mono ?_; rintro e w6 ⟨rfl, hw6⟩; subst hw6))
          all_goals
            have d1 := decide_eq_true (HLv.out D HD2.out).2
            have hb7 := HB.out.trans (hb5.mono HB.out.size)
            go_wp2_with (go_at_call 18; refine (known_any _).mono ?_; rintro e w9 ⟨rfl, hb9⟩)
            go_ret
            exact ⟨rfl, hb7.trans (hb9.mono hb7.size)⟩
        · have cD := Lib.hid (show ∀ (g : Nat) (D : Nat → Nat → Int) (W : World), IsDist rows.length (wy rows) D → TblAt W.heap.size W (some ⟨g, 0, none⟩) (rowsOf D rows.length) → Below w.heap.size w W → Calls Try.prog 29 #[.slice (some ⟨g, 0, none⟩) rows.length rows.length, .slice A' p.length c'] W fun e w' => e = .returned (.tuple #[.int .i64 (lnR (rowsOf D rows.length) p), .int .i64 (tdR rows p)]) ∧ W = w' from fun g D W hD hT hW => by
            have := cL g D A' c' p W hD hT (h'.below hW hW.size) hm hcap
            rw [td_direct hv hD] at this
            exact this)
          have hne : (tdR rows p != 0) = true := by simpa using h0
          have hne2 : (tdR rows p == 0) = false := by simpa using h0
          generalize tdR rows p = e0 at cD hne hne2
          clear h h' hlg hlo hl hv h0 cL hcm
          go_enter Try.func9, Try.ntmps9
          go_wp2_with (first
            | (go_at_call 17; refine cl.out.mono ?_; rintro e w1 ⟨rfl, hw1⟩; obtain rfl := hw1.symm; clear hw1)
            | (go_at_call 22; refine cg.out.mono ?_; rintro e w1 ⟨rfl, rfl⟩)
            | (go_at_call 35; refine cd.out.mono ?_; rintro e w2 ⟨g2, D, rfl, hM2, hD2, hb2⟩; have HT2 := Lib.hid hM2.tbl; have HD2 := Lib.hid hD2; clear hM2 hD2)
            | (go_at_call 29; refine (cD.out g2 D _ HD2.out HT2.out hb2).mono ?_; rintro e w3 ⟨rfl, rfl⟩)
            | (go_at_call 18; refine (known_any _).mono ?_; rintro e w9 ⟨rfl, hb9⟩))
          go_ret
          exact ⟨rfl, hb2.trans (hb9.mono hb2.size)⟩
      · have cd := Lib.hid (Direct_bad A c w.heap.size rows w h hl.2 hv)
        have cn := Lib.hid (Length_any none A' 0 c' w.heap.size [] p w (fun k hk => by simp at hk) (by simp) h' (by omega) hcap)
        have hne : (vwR rows != 0) = true := by simpa using vw_ne hv
        have hne2 : (vwR rows == 0) = false := by simpa using vw_ne hv
        generalize vwR rows = e0 at cd hne hne2
        generalize lnR [] p = L0 at cn
        generalize tdR [] p = E0 at cn
        clear h h' hlg hlo hl hv
        go_enter Try.func9, Try.ntmps9
        go_wp2_with (first
          | (go_at_call 17; refine cl.out.mono ?_; rintro e w1 ⟨rfl, hw1⟩; obtain rfl := hw1.symm; clear hw1)
          | (go_at_call 22; refine cg.out.mono ?_; rintro e w1 ⟨rfl, rfl⟩)
          | (go_at_call 35; refine cd.out.mono ?_; rintro e w2 ⟨rfl, rfl⟩)
          | (go_at_call 29; refine cn.out.mono ?_; rintro e w3 ⟨rfl, rfl⟩)
          | (go_at_call 18; refine (known_any _).mono ?_; rintro e w9 ⟨rfl, hb9⟩))
        go_ret
        exact ⟨rfl, hb9⟩
end Go.Proofs.Ytmodbpglopfghaa
