/- Check f44, f43; law VanChecks. -/
import Derived.Test.YtmodbpglopfghaaVanAs
import Derived.Test.YtmodbpglopfghaaVanR
import Derived.Test.YtmodbpglopfghaaVanT
set_option linter.unusedSimpArgs false
set_option linter.unusedVariables false
namespace Go.Proofs.Ytmodbpglopfghaa
open Go.RowKit

noncomputable def ckE (rows : List (List Int)) (n : Nat) (g : Nat → Nat → Int) (t : List Int) (bg : Int) : Int := if drR rows n g t bg ≠ 0 then drR rows n g t bg else if ltR (wy rows) g bg (toN t) = -1 then 0 else 10
noncomputable def ckV (rows : List (List Int)) (n : Nat) (g : Nat → Nat → Int) (t : List Int) (bg : Int) : Int := if drR rows n g t bg ≠ 0 then 0 else if ltR (wy rows) g bg (toN t) = -1 then bkT (wy rows) g bg (toN t) else ltR (wy rows) g bg (toN t)
section
variable {rows : List (List Int)} {n : Nat} {g : Nat → Nat → Int} {t : List Int} {bg : Int}
theorem ck_bad (h : drR rows n g t bg ≠ 0) : ckV rows n g t bg = 0 ∧ ckE rows n g t bg = drR rows n g t bg := ⟨if_pos h, if_pos h⟩
theorem ck_ok (h : drR rows n g t bg = 0) (h' : ltR (wy rows) g bg (toN t) = -1) : ckV rows n g t bg = bkT (wy rows) g bg (toN t) ∧ ckE rows n g t bg = 0 := by
  unfold ckV ckE
  rw [if_neg (by simpa using h), if_pos h', if_neg (by simpa using h), if_pos h']
  exact ⟨rfl, rfl⟩
theorem ck_late (h : drR rows n g t bg = 0) (h' : ltR (wy rows) g bg (toN t) ≠ -1) : ckV rows n g t bg = ltR (wy rows) g bg (toN t) ∧ ckE rows n g t bg = 10 := by
  unfold ckV ckE
  rw [if_neg (by simpa using h), if_neg h', if_neg (by simpa using h), if_neg h']
  exact ⟨rfl, rfl⟩
end

section
variable (A A1 A2 : Option Addr) (c c1 c2 B : Nat) (rows : List (List Int)) (n : Nat) (g : Nat → Nat → Int) (t : List Int) (bg : Int) (w : World) (hB : B ≤ w.heap.size) (h : TblAt B w A rows) (hl : rows.length ≤ 30 ∧ ∀ r ∈ rows, r.length ≤ 30) (h1 : StAt B w A1 n g) (hn : n ≤ 1000)
    (h2 : IntsAt B w A2 t) (hm : t.length ≤ 1000) (hcap : t.length ≤ c2)
include hB h hl h1 hn h2 hm hcap

set_option maxRecDepth 100000 in
set_option maxHeartbeats 1000000 in
theorem Check_any :
    Calls Try.prog 44 #[.slice A rows.length c, .slice A1 n c1, .slice A2 t.length c2, .int .i64 bg] w fun e w' => e = .returned (.tuple #[.int .i64 (ckV rows n g t bg), .int .i64 (ckE rows n g t bg)]) ∧ Below w.heap.size w w' := by
  by_cases hd : drR rows n g t bg = 0
  · have cd := Lib.hid (Drive_any A A1 A2 c c1 c2 B rows n g t bg w hB h hl h1 hn h2 hm hcap hd)
    obtain ⟨hts, hb0, hb1⟩ := dr_zero hd
    obtain ⟨⟨hv, hnr, hvs⟩, htu⟩ := ts_zero hts
    obtain ⟨hi, hs⟩ := tu_stp htu
    have cl := Lib.hid (fun (A3 : Option Addr) (c3 : Nat) (W : World) (hW : Below w.heap.size w W) (hV : VisAt W.heap.size W A3 (wy rows) g bg (toN t)) => late_any A1 A3 n c1 c3 W.heap.size (wy rows) g bg (toN t) W (Nat.le_refl _) ((h1.below (Below.refl _ _) hB).below hW hW.size) (by rw [hnr]; exact fun x hx => (hs.2 x hx).2) hn (by rw [toN_length]; exact hm) hV)
    rw [toN_length] at cl
    rcases lt_cases (wy rows) g bg (toN t) with ⟨hr, _⟩ | ⟨k, hk, hr, _⟩
    · have Hr := Lib.hid (ck_ok hd hr)
      rw [hr] at cl
      clear h hl h1 h2 hd hts hv hvs htu hi hs hr hnr
      go_enter Try.func44, Try.ntmps44
      go_wp2_with (first | (go_at_call 37; refine cd.out.mono ?_; rintro e w1 ⟨A3, c3, rfl, hV, hb1⟩; have HV := Lib.hid hV; clear hV) | (go_at_call 76; refine (cl.out _ _ _ hb1 HV.out).mono ?_; rintro e w2 ⟨rfl, hb2⟩))
      go_ret2
      exact ⟨by rw [Hr.out.1, Hr.out.2]; rfl, hb1.trans (hb2.mono hb1.size)⟩
    · have Hr := Lib.hid (ck_late hd (show ltR (wy rows) g bg (toN t) ≠ -1 by omega))
      have HK := Lib.hid hr
      rw [hr] at cl
      have hk0 : (0 : Int) ≤ (k : Int) := by omega
      clear h hl h1 h2 hd hts hv hvs htu hi hs hr hnr hk
      go_enter Try.func44, Try.ntmps44
      go_wp2_with (first | (go_at_call 37; refine cd.out.mono ?_; rintro e w1 ⟨A3, c3, rfl, hV, hb1⟩; have HV := Lib.hid hV; clear hV) | (go_at_call 76; refine (cl.out _ _ _ hb1 HV.out).mono ?_; rintro e w2 ⟨rfl, hb2⟩))
      go_ret2
      exact ⟨by rw [Hr.out.1, Hr.out.2, HK.out]; rfl, hb1.trans (hb2.mono hb1.size)⟩
  · have cd := Lib.hid (Drive_bad A A1 A2 c c1 c2 B rows n g t bg w hB h hl h1 hn h2 hm hcap hd)
    have Hr := Lib.hid (ck_bad hd)
    have hne : (drR rows n g t bg != 0) = true := by simpa using hd
    generalize drR rows n g t bg = e0 at cd Hr hne
    clear h hl h1 h2 hd
    go_enter Try.func44, Try.ntmps44
    go_wp2_with (go_at_call 37; refine cd.out.mono ?_; rintro e w1 ⟨rfl, hb1⟩)
    go_ret2
    exact ⟨by rw [Hr.out.1, Hr.out.2]; rfl, hb1⟩

set_option maxRecDepth 100000 in
set_option maxHeartbeats 1000000 in
theorem Check_ref :
    Calls Try.prog 43 #[.slice A rows.length c, .slice A1 n c1, .slice A2 t.length c2, .int .i64 bg] w fun e w' => e = .returned (.tuple #[.int .i64 (ckV rows n g t bg), .int .i64 (ckE rows n g t bg)]) ∧ Below w.heap.size w w' := by
  have cs := Lib.hid (toured_ref A A1 A2 c c1 c2 B rows n g t w hB h hl h1 hn h2 hm hcap)
  by_cases hd : drR rows n g t bg = 0
  · obtain ⟨hts, hb0, hb1⟩ := dr_zero hd
    obtain ⟨⟨hv, hnr, hvs⟩, htu⟩ := ts_zero hts
    obtain ⟨hi, hs⟩ := tu_stp htu
    rw [hts] at cs
    have i0 := inI_true (show 0 ≤ bg ∧ bg ≤ 10000 from ⟨hb0, hb1⟩)
    obtain ⟨b, off, rfl, hwa⟩ := WaAt.of_tbl (h.below (Below.refl _ _) hB) hv
    have cd := Lib.hid (fun W (hW : Below w.heap.size w W) => check_ref b off rows.length c c1 c2 w.heap.size (wy rows) g A1 A2 (toN t) bg W hW.size (hwa.below hW (Nat.le_refl _)) hv.bd (by rw [← hnr]; exact (h1.below (Below.refl _ _) hB).below hW (Nat.le_refl _)) (by rw [← hnr]; exact hvs) (by rw [hi]; exact (h2.below (Below.refl _ _) hB).below hW (Nat.le_refl _)) (fun x hx => (hs.2 x hx).2) hv.n0 (by omega) (by rw [toN_length]; exact hm) ⟨hb0, hb1⟩)
    rw [← hnr, toN_length] at cd
    rcases lt_cases (wy rows) g bg (toN t) with ⟨hr, _⟩ | ⟨k, hk, hr, _⟩
    · have Hr := Lib.hid (ck_ok hd hr)
      rw [if_pos hr, decide_eq_true hr] at cd
      clear h hl h1 h2 hd hts hv hvs htu hi hs hr hwa
      rw [← hnr] at cs ⊢
      clear hnr
      go_enter Try.func43, Try.ntmps43
      go_wp2_with (first | (go_at_call 73; refine cs.out.mono ?_; rintro e w1 ⟨rfl, hb1⟩; have HB1 := Lib.hid hb1) | (go_at_call 60; refine (within_ref _ _ _ _).mono ?_; rintro e w9 ⟨rfl, hw9⟩; obtain rfl := hw9.symm; clear hw9) | (go_at_call 77; refine (cd.out _ HB1.out).mono ?_; rintro e w2 ⟨rfl, hb2⟩))
      go_ret2
      exact ⟨by rw [Hr.out.1, Hr.out.2]; rfl, HB1.out.trans (hb2.mono HB1.out.size)⟩
    · have Hr := Lib.hid (ck_late hd (show ltR (wy rows) g bg (toN t) ≠ -1 by omega))
      rw [if_neg (by omega), decide_eq_false (by omega)] at cd
      generalize ltR (wy rows) g bg (toN t) = r at cd Hr
      clear h hl h1 h2 hd hts hv hvs htu hi hs hr hwa
      rw [← hnr] at cs ⊢
      clear hnr
      go_enter Try.func43, Try.ntmps43
      go_wp2_with (first | (go_at_call 73; refine cs.out.mono ?_; rintro e w1 ⟨rfl, hb1⟩; have HB1 := Lib.hid hb1) | (go_at_call 60; refine (within_ref _ _ _ _).mono ?_; rintro e w9 ⟨rfl, hw9⟩; obtain rfl := hw9.symm; clear hw9) | (go_at_call 77; refine (cd.out _ HB1.out).mono ?_; rintro e w2 ⟨rfl, hb2⟩))
      go_ret2
      exact ⟨by rw [Hr.out.1, Hr.out.2]; rfl, HB1.out.trans (hb2.mono HB1.out.size)⟩
  · have Hr := Lib.hid (ck_bad hd)
    by_cases hts : tsR rows n g t = 0
    · by_cases hb : 0 ≤ bg ∧ bg ≤ 10000
      · exact absurd (by unfold drR; rw [if_neg (by simpa using hts), if_pos hb]) hd
      · rw [dr_out hts hb] at Hr
        rw [hts] at cs
        have i0 := inI_false hb
        clear h hl h1 h2 hd hts hb
        go_enter Try.func43, Try.ntmps43
        go_wp2_with (first | (go_at_call 73; refine cs.out.mono ?_; rintro e w1 ⟨rfl, hb1⟩; have HB1 := Lib.hid hb1) | (go_at_call 60; refine (within_ref _ _ _ _).mono ?_; rintro e w2 ⟨rfl, rfl⟩))
        go_ret2
        exact ⟨by rw [Hr.out.1, Hr.out.2]; rfl, HB1.out⟩
    · rw [dr_ts hts] at Hr
      have hne : (tsR rows n g t != 0) = true := by simpa using hts
      generalize tsR rows n g t = e0 at cs hne Hr
      clear h hl h1 h2 hd hts
      go_enter Try.func43, Try.ntmps43
      go_wp2_with (first | (go_at_call 73; refine cs.out.mono ?_; rintro e w1 ⟨rfl, hb1⟩; have HB1 := Lib.hid hb1))
      go_ret2
      exact ⟨by rw [Hr.out.1, Hr.out.2]; rfl, HB1.out⟩
end

set_option maxRecDepth 100000 in
set_option maxHeartbeats 4000000 in
theorem checks_law (A A1 A2 : Option Addr) (c c1 c2 : Nat) (rows : List (List Int)) (n : Nat) (g : Nat → Nat → Int) (t : List Int) (bg : Int) (w : World) (h : TblAt w.heap.size w A rows) (h1 : StAt w.heap.size w A1 n g) (h2 : IntsAt w.heap.size w A2 t) (hcap : t.length ≤ c2) :
    Calls Try.prog 12 #[.slice A rows.length c, .agg #[.slice A1 n c1, .slice A2 t.length c2, .int .i64 bg]] w fun e w' => e = .returned (.bool true) ∧ Below w.heap.size w w' := by
  have cl := Lib.hid (fun W (hW : Below w.heap.size w W) => Large_any A c w.heap.size rows W (h.below hW (Nat.le_refl _)))
  have cg := Lib.hid (fun W => many_any A1 A2 n c1 t.length c2 bg W)
  rcases lg2 (lgW rows) (decide (60 < n) || decide (60 < t.length)) with hlg | ⟨hlg, hlo⟩ | ⟨hlg, hlo⟩
  · rw [hlg] at cl
    clear h h1 h2 hlg
    go_enter Try.func12, Try.ntmps12
    have HB0 := Lib.hid (((Below.refl _ _).alloc (Nat.le_refl _) (.cells #[.slice A1 n c1, .slice A2 t.length c2, .int .i64 bg] 45) : Below w.heap.size w _))
    go_wp2_with (first | (go_at_call 17; refine (cl.out _ HB0.out).mono ?_; rintro e w1 ⟨rfl, hw1⟩; obtain rfl := hw1.symm; clear hw1) | (go_at_call 18; refine (known_any _).mono ?_; rintro e w5 ⟨rfl, hb5⟩))
    go_ret
    exact ⟨rfl, HB0.out.trans (hb5.mono HB0.out.size)⟩
  · rw [hlg] at cl
    rw [hlo] at cg
    clear h h1 h2 hlg hlo
    go_enter Try.func12, Try.ntmps12
    have HB0 := Lib.hid (((Below.refl _ _).alloc (Nat.le_refl _) (.cells #[.slice A1 n c1, .slice A2 t.length c2, .int .i64 bg] 45) : Below w.heap.size w _))
    go_wp2_with (first | (go_at_call 17; refine (cl.out _ HB0.out).mono ?_; rintro e w1 ⟨rfl, hw1⟩; obtain rfl := hw1.symm; clear hw1) | (go_at_call 36; refine (cg.out _).mono ?_; rintro e w1 ⟨rfl, hb1⟩) | (go_at_call 18; refine (known_any _).mono ?_; rintro e w5 ⟨rfl, hb5⟩))
    go_ret
    exact ⟨rfl, HB0.out.trans ((hb1.mono HB0.out.size).trans (hb5.mono (Nat.le_trans HB0.out.size hb1.size)))⟩
  · rw [hlg] at cl
    rw [hlo] at cg
    have hl := lgW_small hlg
    have hn : n ≤ 60 := by simp at hlo; omega
    have hm : t.length ≤ 60 := by simp at hlo; omega
    have cv := Lib.hid (fun W (hW : Below w.heap.size w W) => Check_any A A1 A2 c c1 c2 w.heap.size rows n g t bg W hW.size (h.below hW (Nat.le_refl _)) hl (h1.below hW (Nat.le_refl _)) (by omega) (h2.below hW (Nat.le_refl _)) (by omega) hcap)
    have cvr := Lib.hid (fun W (hW : Below w.heap.size w W) => Check_ref A A1 A2 c c1 c2 w.heap.size rows n g t bg W hW.size (h.below hW (Nat.le_refl _)) hl (h1.below hW (Nat.le_refl _)) (by omega) (h2.below hW (Nat.le_refl _)) (by omega) hcap)
    clear h h1 h2 hlg hlo hl
    generalize ckV rows n g t bg = v at cv cvr
    generalize ckE rows n g t bg = e0 at cv cvr
    go_enter Try.func12, Try.ntmps12
    go_wp2_with fail
    generalize hW0 : w.alloc (.cells #[.slice A1 n c1, .slice A2 t.length c2, .int .i64 bg] 45) = W0
    have HBk := Lib.hid (show Blk W0 w.heap.size 45 #[.slice A1 n c1, .slice A2 t.length c2, .int .i64 bg] by rw [← hW0]; exact Blk.new _ _ _)
    have hB0 : Below w.heap.size w W0 := by rw [← hW0]; exact (Below.refl _ _).alloc (Nat.le_refl _) _
    have HB0 := Lib.hid hB0
    have HBs := Lib.hid (show ∀ W, Below W0.heap.size W0 W → Below w.heap.size w W from fun W hW => HB0.out.trans (hW.mono HB0.out.size))
    have HCs := Lib.hid (show ∀ W, Below W0.heap.size W0 W → W.cell? ⟨w.heap.size, 0, none⟩ = some (.slice A1 n c1) ∧ W.cell? ⟨w.heap.size, 1, none⟩ = some (.slice A2 t.length c2) ∧ W.cell? ⟨w.heap.size, 2, none⟩ = some (.int .i64 bg) from fun W hW => by
      obtain ⟨q0, q1, q2, _⟩ := blk3 (HBk.out.below hW HBk.out.lt)
      exact ⟨q0, q1, q2⟩)
    obtain ⟨k0, k1, k2⟩ := HCs.out _ (Below.refl _ _)
    clear hW0 hB0
    go_wp2_with (first
      | (go_at_call 17; refine (cl.out _ HB0.out).mono ?_; rintro e w1 ⟨rfl, hw1⟩; obtain rfl := hw1.symm; clear hw1)
      | (go_at_call 36; refine (cg.out _).mono ?_; rintro e w1 ⟨rfl, hb1⟩; clear k0 k1 k2; obtain ⟨k0, k1, k2⟩ := HCs.out _ hb1)
      | (go_at_call 44; refine (cv.out _ (HBs.out _ hb1)).mono ?_; rintro e w2 ⟨rfl, hb2⟩; have hB2 := hb1.trans (hb2.mono hb1.size); clear k0 k1 k2; obtain ⟨k0, k1, k2⟩ := HCs.out _ hB2)
      | (go_at_call 43; refine (cvr.out _ (HBs.out _ hB2)).mono ?_; rintro e w3 ⟨rfl, hb3⟩; have hB3 := hB2.trans (hb3.mono hB2.size))
      | (go_at_call 18; refine (known_any _).mono ?_; rintro e w9 ⟨rfl, hb9⟩))
    go_ret
    exact ⟨rfl, HBs.out _ (hB3.trans (hb9.mono hB3.size))⟩
end Go.Proofs.Ytmodbpglopfghaa
