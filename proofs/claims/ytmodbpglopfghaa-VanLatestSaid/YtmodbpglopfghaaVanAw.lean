/- VanLatest: the call returns true. -/
import Derived.Test.YtmodbpglopfghaaVanAv
set_option linter.unusedSimpArgs false
set_option linter.unusedVariables false
namespace Go.Proofs.Ytmodbpglopfghaa
open Go.RowKit

theorem latest_ck {rows : List (List Int)} {n : Nat} {g : Nat → Nat → Int} {t : List Int} (hts : tsR rows n g t = 0) {k : Nat} (hr : LaIs 10001 (lateB (wy rows) g (toN t)) (k + 1)) {x : Int} (h0 : 0 ≤ x) (hk : x ≤ (k : Int)) :
    ckV rows n g t x = bkT (wy rows) g x (toN t) ∧ ckE rows n g t x = 0 := by
  have h1 := hr.1
  have hx : (x.toNat : Int) = x := Int.toNat_of_nonneg h0
  have hl := lateB_false.1 (hr.2.1 x.toNat (by omega))
  rw [hx] at hl
  refine ck_ok ?_ hl
  unfold drR
  rw [if_neg (by simpa using hts), if_pos (by omega)]

set_option maxRecDepth 100000 in
set_option maxHeartbeats 4000000 in
theorem latest_law (A A1 A2 : Option Addr) (c c1 c2 : Nat) (rows : List (List Int)) (n : Nat) (g : Nat → Nat → Int) (t : List Int) (bg : Int) (w : World) (h : TblAt w.heap.size w A rows) (h1 : StAt w.heap.size w A1 n g) (h2 : IntsAt w.heap.size w A2 t) (hcap : t.length ≤ c2) :
    Calls Try.prog 14 #[.slice A rows.length c, .agg #[.slice A1 n c1, .slice A2 t.length c2, .int .i64 bg]] w fun e w' => e = .returned (.bool true) ∧ Below w.heap.size w w' := by
  have cl := Lib.hid (fun W (hW : Below w.heap.size w W) => Large_any A c w.heap.size rows W (h.below hW (Nat.le_refl _)))
  have cg := Lib.hid (fun W => many_any A1 A2 n c1 t.length c2 bg W)
  rcases lg2 (lgW rows) (decide (60 < n) || decide (60 < t.length)) with hlg | ⟨hlg, hlo⟩ | ⟨hlg, hlo⟩
  · rw [hlg] at cl
    clear h h1 h2 hlg
    go_enter Try.func14, Try.ntmps14
    have HB0 := Lib.hid (((Below.refl _ _).alloc (Nat.le_refl _) (.cells #[.slice A1 n c1, .slice A2 t.length c2, .int .i64 bg] 45) : Below w.heap.size w _))
    go_wp2_with (first | (go_at_call 17; refine (cl.out _ HB0.out).mono ?_; rintro e w1 ⟨rfl, hw1⟩; obtain rfl := hw1.symm; clear hw1) | (go_at_call 18; refine (known_any _).mono ?_; rintro e w5 ⟨rfl, hb5⟩))
    go_ret
    exact ⟨rfl, HB0.out.trans (hb5.mono HB0.out.size)⟩
  · rw [hlg] at cl
    rw [hlo] at cg
    clear h h1 h2 hlg hlo
    go_enter Try.func14, Try.ntmps14
    have HB0 := Lib.hid (((Below.refl _ _).alloc (Nat.le_refl _) (.cells #[.slice A1 n c1, .slice A2 t.length c2, .int .i64 bg] 45) : Below w.heap.size w _))
    go_wp2_with (first | (go_at_call 17; refine (cl.out _ HB0.out).mono ?_; rintro e w1 ⟨rfl, hw1⟩; obtain rfl := hw1.symm; clear hw1) | (go_at_call 36; refine (cg.out _).mono ?_; rintro e w1 ⟨rfl, hb1⟩) | (go_at_call 18; refine (known_any _).mono ?_; rintro e w5 ⟨rfl, hb5⟩))
    go_ret
    exact ⟨rfl, HB0.out.trans ((hb1.mono HB0.out.size).trans (hb5.mono (Nat.le_trans HB0.out.size hb1.size)))⟩
  · rw [hlg] at cl
    rw [hlo] at cg
    have hl := lgW_small hlg
    have hn : n ≤ 60 := by simp at hlo; omega
    have hm : t.length ≤ 60 := by simp at hlo; omega
    by_cases hts : tsR rows n g t = 0
    · have cv := Lib.hid (fun W (hW : Below w.heap.size w W) => Latest_any A A1 A2 c c1 c2 w.heap.size rows n g t W hW.size (h.below hW (Nat.le_refl _)) hl (h1.below hW (Nat.le_refl _)) (by omega) (h2.below hW (Nat.le_refl _)) (by omega) hcap hts)
      have cvr := Lib.hid (fun W (hW : Below w.heap.size w W) => Latest_ref A A1 A2 c c1 c2 w.heap.size rows n g t W hW.size (h.below hW (Nat.le_refl _)) hl (h1.below hW (Nat.le_refl _)) (by omega) (h2.below hW (Nat.le_refl _)) (by omega) hcap hts)
      have cc := Lib.hid (fun (x : Int) W (hW : Below w.heap.size w W) => Check_any A A1 A2 c c1 c2 w.heap.size rows n g t x W hW.size (h.below hW (Nat.le_refl _)) hl (h1.below hW (Nat.le_refl _)) (by omega) (h2.below hW (Nat.le_refl _)) (by omega) hcap)
      have HCk := Lib.hid (fun (k : Nat) hr (x : Int) h0 hk => latest_ck hts (k := k) hr (x := x) h0 hk)
      have HMo := Lib.hid (fun (x y : Int) (hxy : x ≤ y) => bkT_mono (f := wy rows) (g := g) hxy (toN t))
      generalize lateB (wy rows) g (toN t) = P at cv cvr HCk
      clear h h1 h2 hlg hlo hl hts
      go_enter Try.func14, Try.ntmps14
      go_wp2_with fail
      generalize hW0 : w.alloc (.cells #[.slice A1 n c1, .slice A2 t.length c2, .int .i64 bg] 45) = W0
      have HBk := Lib.hid (show Blk W0 w.heap.size 45 #[.slice A1 n c1, .slice A2 t.length c2, .int .i64 bg] by rw [← hW0]; exact Blk.new _ _ _)
      have hB0 : Below w.heap.size w W0 := by rw [← hW0]; exact (Below.refl _ _).alloc (Nat.le_refl _) _
      have HB0 := Lib.hid hB0
      have HBs := Lib.hid (show ∀ W, Below W0.heap.size W0 W → Below w.heap.size w W from fun W hW => HB0.out.trans (hW.mono HB0.out.size))
      have HCs := Lib.hid (show ∀ W, Below W0.heap.size W0 W → W.cell? ⟨w.heap.size, 0, none⟩ = some (.slice A1 n c1) ∧ W.cell? ⟨w.heap.size, 1, none⟩ = some (.slice A2 t.length c2) ∧ W.cell? ⟨w.heap.size, 2, none⟩ = some (.int .i64 bg) from fun W hW => by
        obtain ⟨q0, q1, q2, _⟩ := blk3 (HBk.out.below hW HBk.out.lt)
        exact ⟨q0, q1, q2⟩)
      obtain ⟨k0, k1, k2⟩ := HCs.out _ (Below.refl _ _)
      clear hW0 hB0
      go_wp2_with (first
        | (go_at_call 17; refine (cl.out _ HB0.out).mono ?_; rintro e w1 ⟨rfl, hw1⟩; obtain rfl := hw1.symm; clear hw1)
        | (go_at_call 36; refine (cg.out _).mono ?_; rintro e w1 ⟨rfl, hb1⟩; clear k0 k1 k2; obtain ⟨k0, k1, k2⟩ := HCs.out _ hb1)
        | (go_at_call 50; refine (cv.out _ (HBs.out _ hb1)).mono ?_; rintro e w2 ⟨r, rfl, hr, hb2⟩; have HR := Lib.hid hr; clear hr; have hB2 := hb1.trans (hb2.mono hb1.size); clear k0 k1 k2; obtain ⟨k0, k1, k2⟩ := HCs.out _ hB2))
      go_at_call 51
      refine (cvr.out _ (HBs.out _ hB2)).mono ?_
      rintro e w3 ⟨r2, rfl, hr2, hb3⟩
      obtain rfl := HR.out.unique hr2
      have hB3 := hB2.trans (hb3.mono hB2.size)
      clear k0 k1 k2 hr2
      obtain ⟨k0, k1, k2⟩ := HCs.out _ hB3
      cases r with
      | zero =>
        have hz := la_zero
        obtain ⟨z1, z2⟩ := hz
        rw [z1, z2]
        clear z1 z2
        go_wp2_with (go_at_call 18; refine (known_any _).mono ?_; rintro e w9 ⟨rfl, hb9⟩)
        go_ret
        exact ⟨rfl, HBs.out _ (hB3.trans (hb9.mono hB3.size))⟩
      | succ k =>
        have hz := la_succ k
        obtain ⟨z1, z2⟩ := hz
        rw [z1, z2]
        clear z1 z2
        by_cases hb0 : bg < 0
        · have hd : decide (bg < 0) = true := by simpa using hb0
          go_wp2_with (go_at_call 18; refine (known_any _).mono ?_; rintro e w9 ⟨rfl, hb9⟩)
          go_ret
          exact ⟨rfl, HBs.out _ (hB3.trans (hb9.mono hB3.size))⟩
        · have hd : decide (bg < 0) = false := by simpa using hb0
          by_cases hbk : (k : Int) < bg
          · have hd2 : decide ((k : Int) < bg) = true := by simpa using hbk
            clear hb0
            go_wp2_with (go_at_call 18; refine (known_any _).mono ?_; rintro e w9 ⟨rfl, hb9⟩)
            go_ret
            exact ⟨rfl, HBs.out _ (hB3.trans (hb9.mono hB3.size))⟩
          · have hd2 : decide ((k : Int) < bg) = false := by simpa using hbk
            have ca := fun W hW => cc.out bg W hW
            have cb := fun W hW => cc.out (k : Int) W hW
            have e1 := HCk.out k HR.out bg (by omega) (by omega)
            have e2 := HCk.out k HR.out (k : Int) (by omega) (by omega)
            rw [e1.1, e1.2] at ca
            rw [e2.1, e2.2] at cb
            have hle := decide_eq_true (HMo.out bg (k : Int) (by omega))
            have hle2 := HMo.out bg (k : Int) (by omega)
            have CA := Lib.hid ca
            have CB := Lib.hid cb
            clear ca cb e1 e2 hb0 hbk HCk HMo cc
            generalize bkT (wy rows) g bg (toN t) = x at CA hle hle2
            generalize bkT (wy rows) g (k : Int) (toN t) = y at CB hle hle2
            have tok := Lib.hid (Nat.le_refl 0)
            go_wp2_with (first
              | (go_at_call 44; have tk := tok; clear tok; refine (CA.out _ (HBs.out _ hB3)).mono ?_; rintro e w4 ⟨rfl, hb4⟩; have tok2 := tk; have hB4 := hB3.trans (hb4.mono hB3.size); clear k0 k1 k2; obtain ⟨k0, k1, k2⟩ := HCs.out _ hB4)
              | (go_at_call 44; have tk := tok2; clear tok2; refine (CB.out _ (HBs.out _ hB4)).mono ?_; rintro e w5 ⟨rfl, hb5⟩; have hB5 := hB4.trans (hb5.mono hB4.size))
              | (go_at_call 18; refine (known_any _).mono ?_; rintro e w9 ⟨rfl, hb9⟩))
            go_ret
            exact ⟨rfl, HBs.out _ (hB5.trans (hb9.mono hB5.size))⟩
    · have cv := Lib.hid (fun W (hW : Below w.heap.size w W) => Latest_bad A A1 A2 c c1 c2 w.heap.size rows n g t W hW.size (h.below hW (Nat.le_refl _)) hl (h1.below hW (Nat.le_refl _)) (by omega) (h2.below hW (Nat.le_refl _)) (by omega) hcap hts)
      have cvr := Lib.hid (fun W (hW : Below w.heap.size w W) => Latest_ref_bad A A1 A2 c c1 c2 w.heap.size rows n g t W hW.size (h.below hW (Nat.le_refl _)) hl (h1.below hW (Nat.le_refl _)) (by omega) (h2.below hW (Nat.le_refl _)) (by omega) hcap hts)
      generalize tsR rows n g t = e0 at cv cvr
      clear h h1 h2 hlg hlo hl hts
      go_enter Try.func14, Try.ntmps14
      go_wp2_with fail
      generalize hW0 : w.alloc (.cells #[.slice A1 n c1, .slice A2 t.length c2, .int .i64 bg] 45) = W0
      have HBk := Lib.hid (show Blk W0 w.heap.size 45 #[.slice A1 n c1, .slice A2 t.length c2, .int .i64 bg] by rw [← hW0]; exact Blk.new _ _ _)
      have hB0 : Below w.heap.size w W0 := by rw [← hW0]; exact (Below.refl _ _).alloc (Nat.le_refl _) _
      have HB0 := Lib.hid hB0
      have HBs := Lib.hid (show ∀ W, Below W0.heap.size W0 W → Below w.heap.size w W from fun W hW => HB0.out.trans (hW.mono HB0.out.size))
      have HCs := Lib.hid (show ∀ W, Below W0.heap.size W0 W → W.cell? ⟨w.heap.size, 0, none⟩ = some (.slice A1 n c1) ∧ W.cell? ⟨w.heap.size, 1, none⟩ = some (.slice A2 t.length c2) ∧ W.cell? ⟨w.heap.size, 2, none⟩ = some (.int .i64 bg) from fun W hW => by
        obtain ⟨q0, q1, q2, _⟩ := blk3 (HBk.out.below hW HBk.out.lt)
        exact ⟨q0, q1, q2⟩)
      obtain ⟨k0, k1, k2⟩ := HCs.out _ (Below.refl _ _)
      clear hW0 hB0
      go_wp2_with (first
        | (go_at_call 17; refine (cl.out _ HB0.out).mono ?_; rintro e w1 ⟨rfl, hw1⟩; obtain rfl := hw1.symm; clear hw1)
        | (go_at_call 36; refine (cg.out _).mono ?_; rintro e w1 ⟨rfl, hb1⟩; clear k0 k1 k2; obtain ⟨k0, k1, k2⟩ := HCs.out _ hb1)
        | (go_at_call 50; refine (cv.out _ (HBs.out _ hb1)).mono ?_; rintro e w2 ⟨rfl, hb2⟩; have hB2 := hb1.trans (hb2.mono hb1.size); clear k0 k1 k2; obtain ⟨k0, k1, k2⟩ := HCs.out _ hB2)
        | (go_at_call 51; refine (cvr.out _ (HBs.out _ hB2)).mono ?_; rintro e w3 ⟨rfl, hb3⟩; have hB3 := hB2.trans (hb3.mono hB2.size))
        | (go_at_call 18; refine (known_any _).mono ?_; rintro e w9 ⟨rfl, hb9⟩))
      go_ret
      exact ⟨rfl, HBs.out _ (hB3.trans (hb9.mono hB3.size))⟩
end Go.Proofs.Ytmodbpglopfghaa
