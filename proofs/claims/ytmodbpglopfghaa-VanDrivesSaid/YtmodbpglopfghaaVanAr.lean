/- VanDrives: the call returns true. -/
import Derived.Test.YtmodbpglopfghaaVanAq
import Derived.Test.YtmodbpglopfghaaOrd2
import Derived.Test.YtmodbpglopfghaaVanR
import Derived.Test.YtmodbpglopfghaaVanT
set_option linter.unusedSimpArgs false
set_option linter.unusedVariables false
namespace Go.Proofs.Ytmodbpglopfghaa
open Go.RowKit

set_option maxRecDepth 100000 in
set_option maxHeartbeats 4000000 in
theorem drives_law (A A1 A2 : Option Addr) (c c1 c2 : Nat) (rows : List (List Int)) (n : Nat) (g : Nat → Nat → Int) (t : List Int) (bg : Int) (w : World) (h : TblAt w.heap.size w A rows) (h1 : StAt w.heap.size w A1 n g) (h2 : IntsAt w.heap.size w A2 t) (hcap : t.length ≤ c2) :
    Calls Try.prog 10 #[.slice A rows.length c, .agg #[.slice A1 n c1, .slice A2 t.length c2, .int .i64 bg]] w fun e w' => e = .returned (.bool true) ∧ Below w.heap.size w w' := by
  have cl := Lib.hid (fun W (hW : Below w.heap.size w W) => Large_any A c w.heap.size rows W (h.below hW (Nat.le_refl _)))
  have cg := Lib.hid (fun W => many_any A1 A2 n c1 t.length c2 bg W)
  rcases lg2 (lgW rows) (decide (60 < n) || decide (60 < t.length)) with hlg | ⟨hlg, hlo⟩ | ⟨hlg, hlo⟩
  · rw [hlg] at cl
    clear h h1 h2 hlg
    go_enter Try.func10, Try.ntmps10
    have HB0 := Lib.hid (((Below.refl _ _).alloc (Nat.le_refl _) (.cells #[.slice A1 n c1, .slice A2 t.length c2, .int .i64 bg] 45) : Below w.heap.size w _))
    go_wp2_with (first | (go_at_call 17; refine (cl.out _ HB0.out).mono ?_; rintro e w1 ⟨rfl, hw1⟩; obtain rfl := hw1.symm; clear hw1) | (go_at_call 18; refine (known_any _).mono ?_; rintro e w5 ⟨rfl, hb5⟩))
    go_ret
    exact ⟨rfl, HB0.out.trans (hb5.mono HB0.out.size)⟩
  · rw [hlg] at cl
    rw [hlo] at cg
    clear h h1 h2 hlg hlo
    go_enter Try.func10, Try.ntmps10
    have HB0 := Lib.hid (((Below.refl _ _).alloc (Nat.le_refl _) (.cells #[.slice A1 n c1, .slice A2 t.length c2, .int .i64 bg] 45) : Below w.heap.size w _))
    go_wp2_with (first | (go_at_call 17; refine (cl.out _ HB0.out).mono ?_; rintro e w1 ⟨rfl, hw1⟩; obtain rfl := hw1.symm; clear hw1) | (go_at_call 36; refine (cg.out _).mono ?_; rintro e w1 ⟨rfl, hb1⟩) | (go_at_call 18; refine (known_any _).mono ?_; rintro e w5 ⟨rfl, hb5⟩))
    go_ret
    exact ⟨rfl, HB0.out.trans ((hb1.mono HB0.out.size).trans (hb5.mono (Nat.le_trans HB0.out.size hb1.size)))⟩
  · rw [hlg] at cl
    rw [hlo] at cg
    have hl := lgW_small hlg
    have hn : n ≤ 60 := by simp at hlo; omega
    have hm : t.length ≤ 60 := by simp at hlo; omega
    have cv := Lib.hid (fun W (hW : Below w.heap.size w W) => ValidateStops_any A A1 c c1 w.heap.size rows n g W hW.size (h.below hW (Nat.le_refl _)) hl.2 (h1.below hW (Nat.le_refl _)) (by omega))
    have cvr := Lib.hid (fun W (hW : Below w.heap.size w W) => ValidateStops_ref A A1 c c1 w.heap.size rows n g W hW.size (h.below hW (Nat.le_refl _)) hl (h1.below hW (Nat.le_refl _)) (by omega))
    by_cases hd : drR rows n g t bg = 0
    · have cd := Lib.hid (fun W (hW : Below w.heap.size w W) => Drive_any A A1 A2 c c1 c2 w.heap.size rows n g t bg W hW.size (h.below hW (Nat.le_refl _)) hl (h1.below hW (Nat.le_refl _)) (by omega) (h2.below hW (Nat.le_refl _)) (by omega) hcap hd)
      have cdr := Lib.hid (fun W (hW : Below w.heap.size w W) => Drive_ref A A1 A2 c c1 c2 w.heap.size rows n g t bg W hW.size (h.below hW (Nat.le_refl _)) hl (h1.below hW (Nat.le_refl _)) (by omega) (h2.below hW (Nat.le_refl _)) (by omega) hcap hd)
      have HVa := Lib.hid (fun (B : Nat) (W : World) (A3 A4 : Option Addr) (h3 : VisAt B W A3 (wy rows) g bg (toN t)) (h4 : VisAt B W A4 (wy rows) g bg (toN t)) => show ∀ k, k < t.length → ∃ q3 o3 q4 o4 x y z, A3 = some ⟨q3, o3, none⟩ ∧ A4 = some ⟨q4, o4, none⟩ ∧
          W.cell? ⟨q3, o3 + k * 3, none⟩ = some (.int .i64 x) ∧ W.cell? ⟨q3, o3 + k * 3 + 1, none⟩ = some (.int .i64 y) ∧ W.cell? ⟨q3, o3 + k * 3 + 2, none⟩ = some (.int .i64 z) ∧
          W.cell? ⟨q4, o4 + k * 3, none⟩ = some (.int .i64 x) ∧ W.cell? ⟨q4, o4 + k * 3 + 1, none⟩ = some (.int .i64 y) ∧ W.cell? ⟨q4, o4 + k * 3 + 2, none⟩ = some (.int .i64 z) from fun k hk => by
        obtain ⟨q3, o3, e3, _, a0, a1, a2⟩ := h3.at (k := k) (by rw [toN_length]; exact hk)
        obtain ⟨q4, o4, e4, _, b0, b1, b2⟩ := h4.at (k := k) (by rw [toN_length]; exact hk)
        exact ⟨q3, o3, q4, o4, _, _, _, e3, e4, a0, a1, a2, b0, b1, b2⟩)
      clear h h1 h2 hlg hlo hd hl
      generalize vsR rows n g = e0 at cv cvr
      generalize bkT (wy rows) g bg (toN t) = bk at cd cdr
      have HVb := Lib.hid (show ∀ B W W' A3, VisAt B W A3 (wy rows) g bg (toN t) → Below B W W' → B ≤ W'.heap.size → VisAt W'.heap.size W' A3 (wy rows) g bg (toN t) from fun B W W' A3 h3 hb hs => h3.below hb hs)
      go_enter Try.func10, Try.ntmps10
      go_wp2_with fail
      generalize hW0 : w.alloc (.cells #[.slice A1 n c1, .slice A2 t.length c2, .int .i64 bg] 45) = W0
      have HBk := Lib.hid (show Blk W0 w.heap.size 45 #[.slice A1 n c1, .slice A2 t.length c2, .int .i64 bg] by rw [← hW0]; exact Blk.new _ _ _)
      have hB0 : Below w.heap.size w W0 := by rw [← hW0]; exact (Below.refl _ _).alloc (Nat.le_refl _) _
      have HB0 := Lib.hid hB0
      have HBs := Lib.hid (show ∀ W, Below W0.heap.size W0 W → Below w.heap.size w W from fun W hW => HB0.out.trans (hW.mono HB0.out.size))
      have HCs := Lib.hid (show ∀ W, Below W0.heap.size W0 W → W.cell? ⟨w.heap.size, 0, none⟩ = some (.slice A1 n c1) ∧ W.cell? ⟨w.heap.size, 1, none⟩ = some (.slice A2 t.length c2) ∧ W.cell? ⟨w.heap.size, 2, none⟩ = some (.int .i64 bg) from fun W hW => by
        obtain ⟨q0, q1, q2, _⟩ := blk3 (HBk.out.below hW HBk.out.lt)
        exact ⟨q0, q1, q2⟩)
      obtain ⟨k0, k1, k2⟩ := HCs.out _ (Below.refl _ _)
      clear hW0 hB0
      go_wp2_with (first
        | (go_at_call 17; refine (cl.out _ HB0.out).mono ?_; rintro e w1 ⟨rfl, hw1⟩; obtain rfl := hw1.symm; clear hw1)
        | (go_at_call 36; refine (cg.out _).mono ?_; rintro e w1 ⟨rfl, hb1⟩; clear k0 k1 k2; obtain ⟨k0, k1, k2⟩ := HCs.out _ hb1)
        | (go_at_call 37; refine (cd.out _ (HBs.out _ hb1)).mono ?_; rintro e w2 ⟨A3, c3, rfl, hv3, hb2⟩; have HV3 := Lib.hid hv3; have hB2 := hb1.trans (hb2.mono hb1.size); clear k0 k1 k2 hv3; obtain ⟨k0, k1, k2⟩ := HCs.out _ hB2)
        | (go_at_call 38; refine (cdr.out _ (HBs.out _ hB2)).mono ?_; rintro e w3 ⟨A4, c4, rfl, hv4, hb3⟩; have HV4 := Lib.hid hv4; have HV3 := Lib.hid (HV3.out.below hb3 hb3.size); have hB3 := hB2.trans (hb3.mono hB2.size); clear k0 k1 k2 hv4))
      have HBc := Lib.hid hB3.drew
      have Keep := Lib.hid (show ∀ W, Below W0.heap.size W0 W → (W.cell? ⟨w.heap.size, 0, none⟩ = some (.slice A1 n c1) ∧ Below W0.heap.size W0 W) from fun W hW => ⟨(HCs.out W hW).1, hW⟩)
      refine wp_region_E (S := fun W => W.cell? ⟨w.heap.size, 0, none⟩ = some (.slice A1 n c1) ∧ Below W0.heap.size W0 W) (E := fun _ => false) (by kernel_rfl) ?_
      have HB3w := Lib.hid (((Below.refl w3.heap.size w3).drew))
      generalize w3.drew = W5 at HBc HB3w ⊢
      have hS := Keep.out _ HBc.out
      refine anyE_tk 0 43 (oi := ?oi1) (v := ?v1) ?hi1 ?hd1 (by kernel_rfl) (by kernel_rfl) (by kernel_rfl) ?hQ1 ?hy1 hS ?rest1
      case hi1 => simp only [List.getElem?_toArray, List.getElem?_cons_zero, List.getElem?_cons_succ]; rfl
      case hd1 => rfl
      case hQ1 => exact fun _ _ _ h => h
      case hy1 => (refine Or.inl ⟨by rfl, ?_⟩; intro w hSw; (try dsimp only at hSw); go_simp; try with_reducible rfl)
      simp only [List.setIfInBounds_toArray, List.set_cons_zero, List.set_cons_succ]
      refine anyE_tk 1 44 (oi := ?oi2) (v := ?v2) ?hi2 ?hd2 (by kernel_rfl) (by kernel_rfl) (by kernel_rfl) ?hQ2 ?hy2 hS ?rest2
      case hi2 => simp only [List.getElem?_toArray, List.getElem?_cons_zero, List.getElem?_cons_succ]; rfl
      case hd2 => rfl
      case hQ2 => exact fun _ _ _ h => h
      case hy2 => (refine Or.inl ⟨by rfl, ?_⟩; intro w hSw; (try dsimp only at hSw); go_simp; try with_reducible rfl)
      simp only [List.setIfInBounds_toArray, List.set_cons_zero, List.set_cons_succ]
      refine anyE_tk 2 45 (oi := ?oi3) (v := ?v3) ?hi3 ?hd3 (by kernel_rfl) (by kernel_rfl) (by kernel_rfl) ?hQ3 ?hy3 hS ?rest3
      case hi3 => simp only [List.getElem?_toArray, List.getElem?_cons_zero, List.getElem?_cons_succ]; rfl
      case hd3 => rfl
      case hQ3 => exact fun _ _ _ h => h
      case hy3 => (refine Or.inl ⟨by rfl, ?_⟩; intro w hSw; (try dsimp only at hSw); go_simp; try with_reducible rfl)
      simp only [List.setIfInBounds_toArray, List.set_cons_zero, List.set_cons_succ]
      refine anyE_tk 4 47 (oi := ?oi4) (v := ?v4) ?hi4 ?hd4 (by kernel_rfl) (by kernel_rfl) (by kernel_rfl) ?hQ4 ?hy4 hS ?rest4
      case hi4 => simp only [List.getElem?_toArray, List.getElem?_cons_zero, List.getElem?_cons_succ]; rfl
      case hd4 => rfl
      case hQ4 => exact fun _ _ _ h => h
      case hy4 => (refine Or.inl ⟨by rfl, ?_⟩; intro w hSw; (try dsimp only at hSw); go_simp; try with_reducible rfl)
      simp only [List.setIfInBounds_toArray, List.set_cons_zero, List.set_cons_succ]
      refine anyE_tk 5 48 (oi := ?oi5) (v := ?v5) ?hi5 ?hd5 (by kernel_rfl) (by kernel_rfl) (by kernel_rfl) ?hQ5 ?hy5 hS ?rest5
      case hi5 => simp only [List.getElem?_toArray, List.getElem?_cons_zero, List.getElem?_cons_succ]; rfl
      case hd5 => rfl
      case hQ5 => exact fun _ _ _ h => h
      case hy5 => (refine Or.inl ⟨by rfl, ?_⟩; intro w hSw; (try dsimp only at hSw); go_simp; try with_reducible rfl)
      simp only [List.setIfInBounds_toArray, List.set_cons_zero, List.set_cons_succ]
      refine anyE_tk 6 49 (oi := ?oi6) (v := ?v6) ?hi6 ?hd6 (by kernel_rfl) (by kernel_rfl) (by kernel_rfl) ?hQ6 ?hy6 hS ?rest6
      case hi6 => simp only [List.getElem?_toArray, List.getElem?_cons_zero, List.getElem?_cons_succ]; rfl
      case hd6 => rfl
      case hQ6 => exact fun _ _ _ h => h
      case hy6 => (refine Or.inl ⟨by rfl, ?_⟩; intro w hSw; (try dsimp only at hSw); go_simp; try with_reducible rfl)
      simp only [List.setIfInBounds_toArray, List.set_cons_zero, List.set_cons_succ]
      clear hS
      refine anyE_one (i := 3) (o := ?oi7) (by kernel_rfl) ?hi7 (fun K hK => ?step7)
      case hi7 => simp only [List.getElem?_toArray, List.getElem?_cons_zero, List.getElem?_cons_succ]; rfl
      go_simp
      refine (cv.out _ (HBs.out _ HBc.out)).mono ?_
      rintro e W6 ⟨rfl, hd6⟩
      have HBc := Lib.hid (HBc.out.trans (hd6.mono HBc.out.size))
      have HB3w := Lib.hid (HB3w.out.trans (hd6.mono HB3w.out.size))
      clear hd6
      go_wp2_with fail
      refine hK.out _ _ (fun _ => Keep.out _ HBc.out) ?_
      clear hK K
      try simp only [Act.put, List.setIfInBounds_toArray, List.set_cons_zero, List.set_cons_succ]
      refine anyE_one (i := 7) (o := ?oi8) (by kernel_rfl) ?hi8 (fun K hK => ?step8)
      case hi8 => simp only [List.getElem?_toArray, List.getElem?_cons_zero, List.getElem?_cons_succ]; rfl
      go_simp
      refine (cvr.out _ (HBs.out _ HBc.out)).mono ?_
      rintro e W7 ⟨rfl, hd6⟩
      have HBc := Lib.hid (HBc.out.trans (hd6.mono HBc.out.size))
      have HB3w := Lib.hid (HB3w.out.trans (hd6.mono HB3w.out.size))
      clear hd6
      go_wp2_with fail
      refine hK.out _ _ (fun _ => Keep.out _ HBc.out) ?_
      clear hK K
      try simp only [Act.put, List.setIfInBounds_toArray, List.set_cons_zero, List.set_cons_succ]
      have hS := Keep.out _ HBc.out
      refine anyE_tk 8 51 (oi := ?oi9) (v := ?v9) ?hi9 ?hd9 (by kernel_rfl) (by kernel_rfl) (by kernel_rfl) ?hQ9 ?hy9 hS ?rest9
      case hi9 => simp only [List.getElem?_toArray, List.getElem?_cons_zero, List.getElem?_cons_succ]; rfl
      case hd9 => rfl
      case hQ9 => exact fun _ _ _ h => h
      case hy9 => (refine Or.inl ⟨by rfl, ?_⟩; intro w hSw; (try dsimp only at hSw); go_simp; try with_reducible rfl)
      simp only [List.setIfInBounds_toArray, List.set_cons_zero, List.set_cons_succ]
      refine anyE_tk 9 52 (oi := ?oi10) (v := ?v10) ?hi10 ?hd10 (by kernel_rfl) (by kernel_rfl) (by kernel_rfl) ?hQ10 ?hy10 hS ?rest10
      case hi10 => simp only [List.getElem?_toArray, List.getElem?_cons_zero, List.getElem?_cons_succ]; rfl
      case hd10 => rfl
      case hQ10 => exact fun _ _ _ h => h
      case hy10 => (refine Or.inl ⟨by rfl, ?_⟩; intro w hSw; (try dsimp only at hSw); go_simp; try with_reducible rfl)
      simp only [List.setIfInBounds_toArray, List.set_cons_zero, List.set_cons_succ]
      refine anyE_tk 10 53 (oi := ?oi11) (v := ?v11) ?hi11 ?hd11 (by kernel_rfl) (by kernel_rfl) (by kernel_rfl) ?hQ11 ?hy11 hS ?rest11
      case hi11 => simp only [List.getElem?_toArray, List.getElem?_cons_zero, List.getElem?_cons_succ]; rfl
      case hd11 => rfl
      case hQ11 => exact fun _ _ _ h => h
      case hy11 => (refine Or.inl ⟨by rfl, ?_⟩; intro w hSw; (try dsimp only at hSw); go_simp; try with_reducible rfl)
      simp only [List.setIfInBounds_toArray, List.set_cons_zero, List.set_cons_succ]
      refine anyE_tk 11 54 (oi := ?oi12) (v := ?v12) ?hi12 ?hd12 (by kernel_rfl) (by kernel_rfl) (by kernel_rfl) ?hQ12 ?hy12 hS ?rest12
      case hi12 => simp only [List.getElem?_toArray, List.getElem?_cons_zero, List.getElem?_cons_succ]; rfl
      case hd12 => rfl
      case hQ12 => exact fun _ _ _ h => h
      case hy12 => (refine Or.inl ⟨by rfl, ?_⟩; intro w hSw; (try dsimp only at hSw); go_simp; try with_reducible rfl)
      simp only [List.setIfInBounds_toArray, List.set_cons_zero, List.set_cons_succ]
      refine anyE_tk 12 55 (oi := ?oi13) (v := ?v13) ?hi13 ?hd13 (by kernel_rfl) (by kernel_rfl) (by kernel_rfl) ?hQ13 ?hy13 hS ?rest13
      case hi13 => simp only [List.getElem?_toArray, List.getElem?_cons_zero, List.getElem?_cons_succ]; rfl
      case hd13 => rfl
      case hQ13 => exact fun _ _ _ h => h
      case hy13 => (refine Or.inl ⟨by rfl, ?_⟩; intro w hSw; (try dsimp only at hSw); go_simp; try with_reducible rfl)
      simp only [List.setIfInBounds_toArray, List.set_cons_zero, List.set_cons_succ]
      refine anyE_tk 13 56 (oi := ?oi14) (v := ?v14) ?hi14 ?hd14 (by kernel_rfl) (by kernel_rfl) (by kernel_rfl) ?hQ14 ?hy14 hS ?rest14
      case hi14 => simp only [List.getElem?_toArray, List.getElem?_cons_zero, List.getElem?_cons_succ]; rfl
      case hd14 => rfl
      case hQ14 => exact fun _ _ _ h => h
      case hy14 => (refine Or.inl ⟨by rfl, ?_⟩; intro w hSw; (try dsimp only at hSw); go_simp; try with_reducible rfl)
      simp only [List.setIfInBounds_toArray, List.set_cons_zero, List.set_cons_succ]
      refine anyE_tk 14 57 (oi := ?oi15) (v := ?v15) ?hi15 ?hd15 (by kernel_rfl) (by kernel_rfl) (by kernel_rfl) ?hQ15 ?hy15 hS ?rest15
      case hi15 => simp only [List.getElem?_toArray, List.getElem?_cons_zero, List.getElem?_cons_succ]; rfl
      case hd15 => rfl
      case hQ15 => exact fun _ _ _ h => h
      case hy15 => (refine Or.inl ⟨by rfl, ?_⟩; intro w hSw; (try dsimp only at hSw); go_simp; try with_reducible rfl)
      simp only [List.setIfInBounds_toArray, List.set_cons_zero, List.set_cons_succ]
      refine anyE_tk 15 58 (oi := ?oi16) (v := ?v16) ?hi16 ?hd16 (by kernel_rfl) (by kernel_rfl) (by kernel_rfl) ?hQ16 ?hy16 hS ?rest16
      case hi16 => simp only [List.getElem?_toArray, List.getElem?_cons_zero, List.getElem?_cons_succ]; rfl
      case hd16 => rfl
      case hQ16 => exact fun _ _ _ h => h
      case hy16 => (refine Or.inl ⟨by rfl, ?_⟩; intro w hSw; (try dsimp only at hSw); go_simp; try with_reducible rfl)
      simp only [List.setIfInBounds_toArray, List.set_cons_zero, List.set_cons_succ]
      refine anyE_tk 16 59 (oi := ?oi17) (v := ?v17) ?hi17 ?hd17 (by kernel_rfl) (by kernel_rfl) (by kernel_rfl) ?hQ17 ?hy17 hS ?rest17
      case hi17 => simp only [List.getElem?_toArray, List.getElem?_cons_zero, List.getElem?_cons_succ]; rfl
      case hd17 => rfl
      case hQ17 => exact fun _ _ _ h => h
      case hy17 => (refine Or.inl ⟨by rfl, ?_⟩; intro w hSw; (try dsimp only at hSw); go_simp; try with_reducible rfl)
      simp only [List.setIfInBounds_toArray, List.set_cons_zero, List.set_cons_succ]
      refine anyE_tk 17 60 (oi := ?oi18) (v := ?v18) ?hi18 ?hd18 (by kernel_rfl) (by kernel_rfl) (by kernel_rfl) ?hQ18 ?hy18 hS ?rest18
      case hi18 => simp only [List.getElem?_toArray, List.getElem?_cons_zero, List.getElem?_cons_succ]; rfl
      case hd18 => rfl
      case hQ18 => exact fun _ _ _ h => h
      case hy18 => (refine Or.inl ⟨by rfl, ?_⟩; intro w hSw; (try dsimp only at hSw); go_simp; try with_reducible rfl)
      simp only [List.setIfInBounds_toArray, List.set_cons_zero, List.set_cons_succ]
      refine anyE_tk 18 61 (oi := ?oi19) (v := ?v19) ?hi19 ?hd19 (by kernel_rfl) (by kernel_rfl) (by kernel_rfl) ?hQ19 ?hy19 hS ?rest19
      case hi19 => simp only [List.getElem?_toArray, List.getElem?_cons_zero, List.getElem?_cons_succ]; rfl
      case hd19 => rfl
      case hQ19 => exact fun _ _ _ h => h
      case hy19 => (refine Or.inl ⟨by rfl, ?_⟩; intro w hSw; (try dsimp only at hSw); go_simp; try with_reducible rfl)
      simp only [List.setIfInBounds_toArray, List.set_cons_zero, List.set_cons_succ]
      refine anyE_tk 19 62 (oi := ?oi20) (v := ?v20) ?hi20 ?hd20 (by kernel_rfl) (by kernel_rfl) (by kernel_rfl) ?hQ20 ?hy20 hS ?rest20
      case hi20 => simp only [List.getElem?_toArray, List.getElem?_cons_zero, List.getElem?_cons_succ]; rfl
      case hd20 => rfl
      case hQ20 => exact fun _ _ _ h => h
      case hy20 => (refine Or.inl ⟨by rfl, ?_⟩; intro w hSw; (try dsimp only at hSw); go_simp; try with_reducible rfl)
      simp only [List.setIfInBounds_toArray, List.set_cons_zero, List.set_cons_succ]
      refine anyE_tk 20 63 (oi := ?oi21) (v := ?v21) ?hi21 ?hd21 (by kernel_rfl) (by kernel_rfl) (by kernel_rfl) ?hQ21 ?hy21 hS ?rest21
      case hi21 => simp only [List.getElem?_toArray, List.getElem?_cons_zero, List.getElem?_cons_succ]; rfl
      case hd21 => rfl
      case hQ21 => exact fun _ _ _ h => h
      case hy21 => (refine Or.inl ⟨by rfl, ?_⟩; intro w hSw; (try dsimp only at hSw); go_simp; try with_reducible rfl)
      simp only [List.setIfInBounds_toArray, List.set_cons_zero, List.set_cons_succ]
      refine anyE_tk 21 64 (oi := ?oi22) (v := ?v22) ?hi22 ?hd22 (by kernel_rfl) (by kernel_rfl) (by kernel_rfl) ?hQ22 ?hy22 hS ?rest22
      case hi22 => simp only [List.getElem?_toArray, List.getElem?_cons_zero, List.getElem?_cons_succ]; rfl
      case hd22 => rfl
      case hQ22 => exact fun _ _ _ h => h
      case hy22 => (refine Or.inl ⟨by rfl, ?_⟩; intro w hSw; (try dsimp only at hSw); go_simp; try with_reducible rfl)
      simp only [List.setIfInBounds_toArray, List.set_cons_zero, List.set_cons_succ]
      refine anyE_tk 22 65 (oi := ?oi23) (v := ?v23) ?hi23 ?hd23 (by kernel_rfl) (by kernel_rfl) (by kernel_rfl) ?hQ23 ?hy23 hS ?rest23
      case hi23 => simp only [List.getElem?_toArray, List.getElem?_cons_zero, List.getElem?_cons_succ]; rfl
      case hd23 => rfl
      case hQ23 => exact fun _ _ _ h => h
      case hy23 => (refine Or.inl ⟨by rfl, ?_⟩; intro w hSw; (try dsimp only at hSw); go_simp; try with_reducible rfl)
      simp only [List.setIfInBounds_toArray, List.set_cons_zero, List.set_cons_succ]
      refine anyE_tk 23 66 (oi := ?oi24) (v := ?v24) ?hi24 ?hd24 (by kernel_rfl) (by kernel_rfl) (by kernel_rfl) ?hQ24 ?hy24 hS ?rest24
      case hi24 => simp only [List.getElem?_toArray, List.getElem?_cons_zero, List.getElem?_cons_succ]; rfl
      case hd24 => rfl
      case hQ24 => exact fun _ _ _ h => h
      case hy24 => (refine Or.inl ⟨by rfl, ?_⟩; intro w hSw; (try dsimp only at hSw); go_simp; try with_reducible rfl)
      simp only [List.setIfInBounds_toArray, List.set_cons_zero, List.set_cons_succ]
      refine anyE_tk 24 67 (oi := ?oi25) (v := ?v25) ?hi25 ?hd25 (by kernel_rfl) (by kernel_rfl) (by kernel_rfl) ?hQ25 ?hy25 hS ?rest25
      case hi25 => simp only [List.getElem?_toArray, List.getElem?_cons_zero, List.getElem?_cons_succ]; rfl
      case hd25 => rfl
      case hQ25 => exact fun _ _ _ h => h
      case hy25 => (refine Or.inl ⟨by rfl, ?_⟩; intro w hSw; (try dsimp only at hSw); go_simp; try with_reducible rfl)
      simp only [List.setIfInBounds_toArray, List.set_cons_zero, List.set_cons_succ]
      refine anyE_tk 25 68 (oi := ?oi26) (v := ?v26) ?hi26 ?hd26 (by kernel_rfl) (by kernel_rfl) (by kernel_rfl) ?hQ26 ?hy26 hS ?rest26
      case hi26 => simp only [List.getElem?_toArray, List.getElem?_cons_zero, List.getElem?_cons_succ]; rfl
      case hd26 => rfl
      case hQ26 => exact fun _ _ _ h => h
      case hy26 => (refine Or.inl ⟨by rfl, ?_⟩; intro w hSw; (try dsimp only at hSw); go_simp; try with_reducible rfl)
      simp only [List.setIfInBounds_toArray, List.set_cons_zero, List.set_cons_succ]
      refine anyE_done (by kernel_rfl) ?_ _
      clear hS
      have HV3 := Lib.hid (HV3.out.below HB3w.out HB3w.out.size)
      have HV4 := Lib.hid (HV4.out.below HB3w.out HB3w.out.size)
      go_wp2_with fail
      go_loopw [11] (fun i wx => ∃ k : Nat, k ≤ t.length ∧ i = .int .i64 k ∧ Below W7.heap.size W7 wx) (fun i _ => t.length - (intOf i).toNat)
      case atStart => exact ⟨0, Nat.zero_le _, rfl, Below.refl _ _⟩
      case round =>
        obtain ⟨k, hk, rfl, hbx⟩ := hrel
        have HBx := Lib.hid hbx
        clear hbx
        by_cases hlt : k < t.length
        · obtain ⟨q3, o3, q4, o4, x, y, z, rfl, rfl, a0, a1, a2, b0, b1, b2⟩ := HVa.out _ _ _ _ (HV3.out.below HBx.out HBx.out.size) (HV4.out.below HBx.out HBx.out.size) k hlt
          have hkI : (k : Int) < (t.length : Int) := by omega
          have hk0 : (0 : Int) ≤ (k : Int) := by omega
          go_wp2_with fail
          go_quiet (fail)
          go_wp2_with fail
          go_roundw
          case rel => exact ⟨k + 1, by omega, by go_num, below_drewN HBx.out _⟩
          case measure => simp [intOf]; omega
        · obtain rfl : k = t.length := by omega
          go_wp2_with (go_at_call 18; refine (known_any _).mono ?_; rintro e w9 ⟨rfl, hb9⟩)
          go_ret
          have hB7 := HBc.out.trans (HBx.out.mono HBc.out.size)
          exact ⟨rfl, HBs.out _ (hB7.trans (hb9.mono hB7.size))⟩
    · have cd := Lib.hid (fun W (hW : Below w.heap.size w W) => Drive_bad A A1 A2 c c1 c2 w.heap.size rows n g t bg W hW.size (h.below hW (Nat.le_refl _)) hl (h1.below hW (Nat.le_refl _)) (by omega) (h2.below hW (Nat.le_refl _)) (by omega) hcap hd)
      have cdr := Lib.hid (fun W (hW : Below w.heap.size w W) => Drive_ref_bad A A1 A2 c c1 c2 w.heap.size rows n g t bg W hW.size (h.below hW (Nat.le_refl _)) hl (h1.below hW (Nat.le_refl _)) (by omega) (h2.below hW (Nat.le_refl _)) (by omega) hcap hd)
      clear h h1 h2 hlg hlo hl
      generalize vsR rows n g = e0 at cv cvr
      generalize drR rows n g t bg = e1 at cd cdr
      clear hd
      go_enter Try.func10, Try.ntmps10
      go_wp2_with fail
      generalize hW0 : w.alloc (.cells #[.slice A1 n c1, .slice A2 t.length c2, .int .i64 bg] 45) = W0
      have HBk := Lib.hid (show Blk W0 w.heap.size 45 #[.slice A1 n c1, .slice A2 t.length c2, .int .i64 bg] by rw [← hW0]; exact Blk.new _ _ _)
      have hB0 : Below w.heap.size w W0 := by rw [← hW0]; exact (Below.refl _ _).alloc (Nat.le_refl _) _
      have HB0 := Lib.hid hB0
      have HBs := Lib.hid (show ∀ W, Below W0.heap.size W0 W → Below w.heap.size w W from fun W hW => HB0.out.trans (hW.mono HB0.out.size))
      have HCs := Lib.hid (show ∀ W, Below W0.heap.size W0 W → W.cell? ⟨w.heap.size, 0, none⟩ = some (.slice A1 n c1) ∧ W.cell? ⟨w.heap.size, 1, none⟩ = some (.slice A2 t.length c2) ∧ W.cell? ⟨w.heap.size, 2, none⟩ = some (.int .i64 bg) from fun W hW => by
        obtain ⟨q0, q1, q2, _⟩ := blk3 (HBk.out.below hW HBk.out.lt)
        exact ⟨q0, q1, q2⟩)
      obtain ⟨k0, k1, k2⟩ := HCs.out _ (Below.refl _ _)
      clear hW0 hB0
      go_wp2_with (first
        | (go_at_call 17; refine (cl.out _ HB0.out).mono ?_; rintro e w1 ⟨rfl, hw1⟩; obtain rfl := hw1.symm; clear hw1)
        | (go_at_call 36; refine (cg.out _).mono ?_; rintro e w1 ⟨rfl, hb1⟩; clear k0 k1 k2; obtain ⟨k0, k1, k2⟩ := HCs.out _ hb1)
        | (go_at_call 37; refine (cd.out _ (HBs.out _ hb1)).mono ?_; rintro e w2 ⟨rfl, hb2⟩; have hB2 := hb1.trans (hb2.mono hb1.size); clear k0 k1 k2; obtain ⟨k0, k1, k2⟩ := HCs.out _ hB2)
        | (go_at_call 38; refine (cdr.out _ (HBs.out _ hB2)).mono ?_; rintro e w3 ⟨rfl, hb3⟩; have hB3 := hB2.trans (hb3.mono hB2.size); clear k0 k1 k2))
      have HBc := Lib.hid hB3.drew
      have Keep := Lib.hid (show ∀ W, Below W0.heap.size W0 W → (W.cell? ⟨w.heap.size, 0, none⟩ = some (.slice A1 n c1) ∧ Below W0.heap.size W0 W) from fun W hW => ⟨(HCs.out W hW).1, hW⟩)
      refine wp_region_E (S := fun W => W.cell? ⟨w.heap.size, 0, none⟩ = some (.slice A1 n c1) ∧ Below W0.heap.size W0 W) (E := fun _ => false) (by kernel_rfl) ?_
      have HB3w := Lib.hid (((Below.refl w3.heap.size w3).drew))
      generalize w3.drew = W5 at HBc HB3w ⊢
      have hS := Keep.out _ HBc.out
      refine anyE_tk 0 43 (oi := ?oi27) (v := ?v27) ?hi27 ?hd27 (by kernel_rfl) (by kernel_rfl) (by kernel_rfl) ?hQ27 ?hy27 hS ?rest27
      case hi27 => simp only [List.getElem?_toArray, List.getElem?_cons_zero, List.getElem?_cons_succ]; rfl
      case hd27 => rfl
      case hQ27 => exact fun _ _ _ h => h
      case hy27 => (refine Or.inl ⟨by rfl, ?_⟩; intro w hSw; (try dsimp only at hSw); go_simp; try with_reducible rfl)
      simp only [List.setIfInBounds_toArray, List.set_cons_zero, List.set_cons_succ]
      refine anyE_tk 1 44 (oi := ?oi28) (v := ?v28) ?hi28 ?hd28 (by kernel_rfl) (by kernel_rfl) (by kernel_rfl) ?hQ28 ?hy28 hS ?rest28
      case hi28 => simp only [List.getElem?_toArray, List.getElem?_cons_zero, List.getElem?_cons_succ]; rfl
      case hd28 => rfl
      case hQ28 => exact fun _ _ _ h => h
      case hy28 => (refine Or.inl ⟨by rfl, ?_⟩; intro w hSw; (try dsimp only at hSw); go_simp; try with_reducible rfl)
      simp only [List.setIfInBounds_toArray, List.set_cons_zero, List.set_cons_succ]
      refine anyE_tk 2 45 (oi := ?oi29) (v := ?v29) ?hi29 ?hd29 (by kernel_rfl) (by kernel_rfl) (by kernel_rfl) ?hQ29 ?hy29 hS ?rest29
      case hi29 => simp only [List.getElem?_toArray, List.getElem?_cons_zero, List.getElem?_cons_succ]; rfl
      case hd29 => rfl
      case hQ29 => exact fun _ _ _ h => h
      case hy29 => (refine Or.inl ⟨by rfl, ?_⟩; intro w hSw; (try dsimp only at hSw); go_simp; try with_reducible rfl)
      simp only [List.setIfInBounds_toArray, List.set_cons_zero, List.set_cons_succ]
      refine anyE_tk 4 47 (oi := ?oi30) (v := ?v30) ?hi30 ?hd30 (by kernel_rfl) (by kernel_rfl) (by kernel_rfl) ?hQ30 ?hy30 hS ?rest30
      case hi30 => simp only [List.getElem?_toArray, List.getElem?_cons_zero, List.getElem?_cons_succ]; rfl
      case hd30 => rfl
      case hQ30 => exact fun _ _ _ h => h
      case hy30 => (refine Or.inl ⟨by rfl, ?_⟩; intro w hSw; (try dsimp only at hSw); go_simp; try with_reducible rfl)
      simp only [List.setIfInBounds_toArray, List.set_cons_zero, List.set_cons_succ]
      refine anyE_tk 5 48 (oi := ?oi31) (v := ?v31) ?hi31 ?hd31 (by kernel_rfl) (by kernel_rfl) (by kernel_rfl) ?hQ31 ?hy31 hS ?rest31
      case hi31 => simp only [List.getElem?_toArray, List.getElem?_cons_zero, List.getElem?_cons_succ]; rfl
      case hd31 => rfl
      case hQ31 => exact fun _ _ _ h => h
      case hy31 => (refine Or.inl ⟨by rfl, ?_⟩; intro w hSw; (try dsimp only at hSw); go_simp; try with_reducible rfl)
      simp only [List.setIfInBounds_toArray, List.set_cons_zero, List.set_cons_succ]
      refine anyE_tk 6 49 (oi := ?oi32) (v := ?v32) ?hi32 ?hd32 (by kernel_rfl) (by kernel_rfl) (by kernel_rfl) ?hQ32 ?hy32 hS ?rest32
      case hi32 => simp only [List.getElem?_toArray, List.getElem?_cons_zero, List.getElem?_cons_succ]; rfl
      case hd32 => rfl
      case hQ32 => exact fun _ _ _ h => h
      case hy32 => (refine Or.inl ⟨by rfl, ?_⟩; intro w hSw; (try dsimp only at hSw); go_simp; try with_reducible rfl)
      simp only [List.setIfInBounds_toArray, List.set_cons_zero, List.set_cons_succ]
      clear hS
      refine anyE_one (i := 3) (o := ?oi33) (by kernel_rfl) ?hi33 (fun K hK => ?step33)
      case hi33 => simp only [List.getElem?_toArray, List.getElem?_cons_zero, List.getElem?_cons_succ]; rfl
      go_simp
      refine (cv.out _ (HBs.out _ HBc.out)).mono ?_
      rintro e W6 ⟨rfl, hd6⟩
      have HBc := Lib.hid (HBc.out.trans (hd6.mono HBc.out.size))
      have HB3w := Lib.hid (HB3w.out.trans (hd6.mono HB3w.out.size))
      clear hd6
      go_wp2_with fail
      refine hK.out _ _ (fun _ => Keep.out _ HBc.out) ?_
      clear hK K
      try simp only [Act.put, List.setIfInBounds_toArray, List.set_cons_zero, List.set_cons_succ]
      refine anyE_one (i := 7) (o := ?oi34) (by kernel_rfl) ?hi34 (fun K hK => ?step34)
      case hi34 => simp only [List.getElem?_toArray, List.getElem?_cons_zero, List.getElem?_cons_succ]; rfl
      go_simp
      refine (cvr.out _ (HBs.out _ HBc.out)).mono ?_
      rintro e W7 ⟨rfl, hd6⟩
      have HBc := Lib.hid (HBc.out.trans (hd6.mono HBc.out.size))
      have HB3w := Lib.hid (HB3w.out.trans (hd6.mono HB3w.out.size))
      clear hd6
      go_wp2_with fail
      refine hK.out _ _ (fun _ => Keep.out _ HBc.out) ?_
      clear hK K
      try simp only [Act.put, List.setIfInBounds_toArray, List.set_cons_zero, List.set_cons_succ]
      have hS := Keep.out _ HBc.out
      refine anyE_tk 8 51 (oi := ?oi35) (v := ?v35) ?hi35 ?hd35 (by kernel_rfl) (by kernel_rfl) (by kernel_rfl) ?hQ35 ?hy35 hS ?rest35
      case hi35 => simp only [List.getElem?_toArray, List.getElem?_cons_zero, List.getElem?_cons_succ]; rfl
      case hd35 => rfl
      case hQ35 => exact fun _ _ _ h => h
      case hy35 => (refine Or.inl ⟨by rfl, ?_⟩; intro w hSw; (try dsimp only at hSw); go_simp; try with_reducible rfl)
      simp only [List.setIfInBounds_toArray, List.set_cons_zero, List.set_cons_succ]
      refine anyE_tk 9 52 (oi := ?oi36) (v := ?v36) ?hi36 ?hd36 (by kernel_rfl) (by kernel_rfl) (by kernel_rfl) ?hQ36 ?hy36 hS ?rest36
      case hi36 => simp only [List.getElem?_toArray, List.getElem?_cons_zero, List.getElem?_cons_succ]; rfl
      case hd36 => rfl
      case hQ36 => exact fun _ _ _ h => h
      case hy36 => (refine Or.inl ⟨by rfl, ?_⟩; intro w hSw; (try dsimp only at hSw); go_simp; try with_reducible rfl)
      simp only [List.setIfInBounds_toArray, List.set_cons_zero, List.set_cons_succ]
      refine anyE_tk 10 53 (oi := ?oi37) (v := ?v37) ?hi37 ?hd37 (by kernel_rfl) (by kernel_rfl) (by kernel_rfl) ?hQ37 ?hy37 hS ?rest37
      case hi37 => simp only [List.getElem?_toArray, List.getElem?_cons_zero, List.getElem?_cons_succ]; rfl
      case hd37 => rfl
      case hQ37 => exact fun _ _ _ h => h
      case hy37 => (refine Or.inl ⟨by rfl, ?_⟩; intro w hSw; (try dsimp only at hSw); go_simp; try with_reducible rfl)
      simp only [List.setIfInBounds_toArray, List.set_cons_zero, List.set_cons_succ]
      refine anyE_tk 11 54 (oi := ?oi38) (v := ?v38) ?hi38 ?hd38 (by kernel_rfl) (by kernel_rfl) (by kernel_rfl) ?hQ38 ?hy38 hS ?rest38
      case hi38 => simp only [List.getElem?_toArray, List.getElem?_cons_zero, List.getElem?_cons_succ]; rfl
      case hd38 => rfl
      case hQ38 => exact fun _ _ _ h => h
      case hy38 => (refine Or.inl ⟨by rfl, ?_⟩; intro w hSw; (try dsimp only at hSw); go_simp; try with_reducible rfl)
      simp only [List.setIfInBounds_toArray, List.set_cons_zero, List.set_cons_succ]
      refine anyE_tk 12 55 (oi := ?oi39) (v := ?v39) ?hi39 ?hd39 (by kernel_rfl) (by kernel_rfl) (by kernel_rfl) ?hQ39 ?hy39 hS ?rest39
      case hi39 => simp only [List.getElem?_toArray, List.getElem?_cons_zero, List.getElem?_cons_succ]; rfl
      case hd39 => rfl
      case hQ39 => exact fun _ _ _ h => h
      case hy39 => (refine Or.inl ⟨by rfl, ?_⟩; intro w hSw; (try dsimp only at hSw); go_simp; try with_reducible rfl)
      simp only [List.setIfInBounds_toArray, List.set_cons_zero, List.set_cons_succ]
      refine anyE_tk 13 56 (oi := ?oi40) (v := ?v40) ?hi40 ?hd40 (by kernel_rfl) (by kernel_rfl) (by kernel_rfl) ?hQ40 ?hy40 hS ?rest40
      case hi40 => simp only [List.getElem?_toArray, List.getElem?_cons_zero, List.getElem?_cons_succ]; rfl
      case hd40 => rfl
      case hQ40 => exact fun _ _ _ h => h
      case hy40 => (refine Or.inl ⟨by rfl, ?_⟩; intro w hSw; (try dsimp only at hSw); go_simp; try with_reducible rfl)
      simp only [List.setIfInBounds_toArray, List.set_cons_zero, List.set_cons_succ]
      refine anyE_tk 14 57 (oi := ?oi41) (v := ?v41) ?hi41 ?hd41 (by kernel_rfl) (by kernel_rfl) (by kernel_rfl) ?hQ41 ?hy41 hS ?rest41
      case hi41 => simp only [List.getElem?_toArray, List.getElem?_cons_zero, List.getElem?_cons_succ]; rfl
      case hd41 => rfl
      case hQ41 => exact fun _ _ _ h => h
      case hy41 => (refine Or.inl ⟨by rfl, ?_⟩; intro w hSw; (try dsimp only at hSw); go_simp; try with_reducible rfl)
      simp only [List.setIfInBounds_toArray, List.set_cons_zero, List.set_cons_succ]
      refine anyE_tk 15 58 (oi := ?oi42) (v := ?v42) ?hi42 ?hd42 (by kernel_rfl) (by kernel_rfl) (by kernel_rfl) ?hQ42 ?hy42 hS ?rest42
      case hi42 => simp only [List.getElem?_toArray, List.getElem?_cons_zero, List.getElem?_cons_succ]; rfl
      case hd42 => rfl
      case hQ42 => exact fun _ _ _ h => h
      case hy42 => (refine Or.inl ⟨by rfl, ?_⟩; intro w hSw; (try dsimp only at hSw); go_simp; try with_reducible rfl)
      simp only [List.setIfInBounds_toArray, List.set_cons_zero, List.set_cons_succ]
      refine anyE_tk 16 59 (oi := ?oi43) (v := ?v43) ?hi43 ?hd43 (by kernel_rfl) (by kernel_rfl) (by kernel_rfl) ?hQ43 ?hy43 hS ?rest43
      case hi43 => simp only [List.getElem?_toArray, List.getElem?_cons_zero, List.getElem?_cons_succ]; rfl
      case hd43 => rfl
      case hQ43 => exact fun _ _ _ h => h
      case hy43 => (refine Or.inl ⟨by rfl, ?_⟩; intro w hSw; (try dsimp only at hSw); go_simp; try with_reducible rfl)
      simp only [List.setIfInBounds_toArray, List.set_cons_zero, List.set_cons_succ]
      refine anyE_tk 17 60 (oi := ?oi44) (v := ?v44) ?hi44 ?hd44 (by kernel_rfl) (by kernel_rfl) (by kernel_rfl) ?hQ44 ?hy44 hS ?rest44
      case hi44 => simp only [List.getElem?_toArray, List.getElem?_cons_zero, List.getElem?_cons_succ]; rfl
      case hd44 => rfl
      case hQ44 => exact fun _ _ _ h => h
      case hy44 => (refine Or.inl ⟨by rfl, ?_⟩; intro w hSw; (try dsimp only at hSw); go_simp; try with_reducible rfl)
      simp only [List.setIfInBounds_toArray, List.set_cons_zero, List.set_cons_succ]
      refine anyE_tk 18 61 (oi := ?oi45) (v := ?v45) ?hi45 ?hd45 (by kernel_rfl) (by kernel_rfl) (by kernel_rfl) ?hQ45 ?hy45 hS ?rest45
      case hi45 => simp only [List.getElem?_toArray, List.getElem?_cons_zero, List.getElem?_cons_succ]; rfl
      case hd45 => rfl
      case hQ45 => exact fun _ _ _ h => h
      case hy45 => (refine Or.inl ⟨by rfl, ?_⟩; intro w hSw; (try dsimp only at hSw); go_simp; try with_reducible rfl)
      simp only [List.setIfInBounds_toArray, List.set_cons_zero, List.set_cons_succ]
      refine anyE_tk 19 62 (oi := ?oi46) (v := ?v46) ?hi46 ?hd46 (by kernel_rfl) (by kernel_rfl) (by kernel_rfl) ?hQ46 ?hy46 hS ?rest46
      case hi46 => simp only [List.getElem?_toArray, List.getElem?_cons_zero, List.getElem?_cons_succ]; rfl
      case hd46 => rfl
      case hQ46 => exact fun _ _ _ h => h
      case hy46 => (refine Or.inl ⟨by rfl, ?_⟩; intro w hSw; (try dsimp only at hSw); go_simp; try with_reducible rfl)
      simp only [List.setIfInBounds_toArray, List.set_cons_zero, List.set_cons_succ]
      refine anyE_tk 20 63 (oi := ?oi47) (v := ?v47) ?hi47 ?hd47 (by kernel_rfl) (by kernel_rfl) (by kernel_rfl) ?hQ47 ?hy47 hS ?rest47
      case hi47 => simp only [List.getElem?_toArray, List.getElem?_cons_zero, List.getElem?_cons_succ]; rfl
      case hd47 => rfl
      case hQ47 => exact fun _ _ _ h => h
      case hy47 => (refine Or.inl ⟨by rfl, ?_⟩; intro w hSw; (try dsimp only at hSw); go_simp; try with_reducible rfl)
      simp only [List.setIfInBounds_toArray, List.set_cons_zero, List.set_cons_succ]
      refine anyE_tk 21 64 (oi := ?oi48) (v := ?v48) ?hi48 ?hd48 (by kernel_rfl) (by kernel_rfl) (by kernel_rfl) ?hQ48 ?hy48 hS ?rest48
      case hi48 => simp only [List.getElem?_toArray, List.getElem?_cons_zero, List.getElem?_cons_succ]; rfl
      case hd48 => rfl
      case hQ48 => exact fun _ _ _ h => h
      case hy48 => (refine Or.inl ⟨by rfl, ?_⟩; intro w hSw; (try dsimp only at hSw); go_simp; try with_reducible rfl)
      simp only [List.setIfInBounds_toArray, List.set_cons_zero, List.set_cons_succ]
      refine anyE_tk 22 65 (oi := ?oi49) (v := ?v49) ?hi49 ?hd49 (by kernel_rfl) (by kernel_rfl) (by kernel_rfl) ?hQ49 ?hy49 hS ?rest49
      case hi49 => simp only [List.getElem?_toArray, List.getElem?_cons_zero, List.getElem?_cons_succ]; rfl
      case hd49 => rfl
      case hQ49 => exact fun _ _ _ h => h
      case hy49 => (refine Or.inl ⟨by rfl, ?_⟩; intro w hSw; (try dsimp only at hSw); go_simp; try with_reducible rfl)
      simp only [List.setIfInBounds_toArray, List.set_cons_zero, List.set_cons_succ]
      refine anyE_tk 23 66 (oi := ?oi50) (v := ?v50) ?hi50 ?hd50 (by kernel_rfl) (by kernel_rfl) (by kernel_rfl) ?hQ50 ?hy50 hS ?rest50
      case hi50 => simp only [List.getElem?_toArray, List.getElem?_cons_zero, List.getElem?_cons_succ]; rfl
      case hd50 => rfl
      case hQ50 => exact fun _ _ _ h => h
      case hy50 => (refine Or.inl ⟨by rfl, ?_⟩; intro w hSw; (try dsimp only at hSw); go_simp; try with_reducible rfl)
      simp only [List.setIfInBounds_toArray, List.set_cons_zero, List.set_cons_succ]
      refine anyE_tk 24 67 (oi := ?oi51) (v := ?v51) ?hi51 ?hd51 (by kernel_rfl) (by kernel_rfl) (by kernel_rfl) ?hQ51 ?hy51 hS ?rest51
      case hi51 => simp only [List.getElem?_toArray, List.getElem?_cons_zero, List.getElem?_cons_succ]; rfl
      case hd51 => rfl
      case hQ51 => exact fun _ _ _ h => h
      case hy51 => (refine Or.inl ⟨by rfl, ?_⟩; intro w hSw; (try dsimp only at hSw); go_simp; try with_reducible rfl)
      simp only [List.setIfInBounds_toArray, List.set_cons_zero, List.set_cons_succ]
      refine anyE_tk 25 68 (oi := ?oi52) (v := ?v52) ?hi52 ?hd52 (by kernel_rfl) (by kernel_rfl) (by kernel_rfl) ?hQ52 ?hy52 hS ?rest52
      case hi52 => simp only [List.getElem?_toArray, List.getElem?_cons_zero, List.getElem?_cons_succ]; rfl
      case hd52 => rfl
      case hQ52 => exact fun _ _ _ h => h
      case hy52 => (refine Or.inl ⟨by rfl, ?_⟩; intro w hSw; (try dsimp only at hSw); go_simp; try with_reducible rfl)
      simp only [List.setIfInBounds_toArray, List.set_cons_zero, List.set_cons_succ]
      refine anyE_done (by kernel_rfl) ?_ _
      clear hS
      go_wp2_with fail
      go_loopw [11] (fun i wx => i = .int .i64 0 ∧ Below W7.heap.size W7 wx) (fun _ _ => 0)
      case atStart => exact ⟨rfl, Below.refl _ _⟩
      case round =>
        obtain ⟨rfl, hbx⟩ := hrel
        have HBx := Lib.hid hbx
        clear hbx
        go_wp2_with (go_at_call 18; refine (known_any _).mono ?_; rintro e w9 ⟨rfl, hb9⟩)
        go_ret
        have hB7 := HBc.out.trans (HBx.out.mono HBc.out.size)
        exact ⟨rfl, HBs.out _ (hB7.trans (hb9.mono hB7.size))⟩
end Go.Proofs.Ytmodbpglopfghaa
