/- Drive f37, f38; many f36. -/
import Derived.Test.YtmodbpglopfghaaVanAp
import Derived.Test.YtmodbpglopfghaaVanI
import Derived.OwnWalk
set_option linter.unusedSimpArgs false
set_option linter.unusedVariables false
namespace Go.Proofs.Ytmodbpglopfghaa
open Go.RowKit

/-- The error of a drive. -/
noncomputable def drR (rows : List (List Int)) (n : Nat) (g : Nat → Nat → Int) (t : List Int) (bg : Int) : Int := if tsR rows n g t ≠ 0 then tsR rows n g t else if 0 ≤ bg ∧ bg ≤ 10000 then 0 else 1
theorem dr_zero {rows : List (List Int)} {n : Nat} {g : Nat → Nat → Int} {t : List Int} {bg : Int} (h : drR rows n g t bg = 0) : tsR rows n g t = 0 ∧ 0 ≤ bg ∧ bg ≤ 10000 := by
  unfold drR at h
  split at h
  · contradiction
  · split at h
    · exact ⟨by simpa using ‹¬ tsR rows n g t ≠ 0›, ‹_›⟩
    · contradiction
theorem dr_ts {rows : List (List Int)} {n : Nat} {g : Nat → Nat → Int} {t : List Int} {bg : Int} (h : tsR rows n g t ≠ 0) : drR rows n g t bg = tsR rows n g t := if_pos h
theorem dr_out {rows : List (List Int)} {n : Nat} {g : Nat → Nat → Int} {t : List Int} {bg : Int} (h : tsR rows n g t = 0) (h' : ¬ (0 ≤ bg ∧ bg ≤ 10000)) : drR rows n g t bg = 1 := by
  unfold drR
  rw [if_neg (by simpa using h), if_neg h']

section
variable (A A1 A2 : Option Addr) (c c1 c2 B : Nat) (rows : List (List Int)) (n : Nat) (g : Nat → Nat → Int) (t : List Int) (bg : Int) (w : World) (hB : B ≤ w.heap.size) (h : TblAt B w A rows) (hl : rows.length ≤ 30 ∧ ∀ r ∈ rows, r.length ≤ 30) (h1 : StAt B w A1 n g) (hn : n ≤ 1000)
    (h2 : IntsAt B w A2 t) (hm : t.length ≤ 1000) (hcap : t.length ≤ c2)
include hB h hl h1 hn h2 hm hcap

set_option maxRecDepth 100000 in
set_option maxHeartbeats 1000000 in
theorem Drive_any (hd : drR rows n g t bg = 0) :
    Calls Try.prog 37 #[.slice A rows.length c, .slice A1 n c1, .slice A2 t.length c2, .int .i64 bg] w fun e w' => ∃ A3 c3, e = .returned (.tuple #[.slice A3 t.length c3, .int .i64 (bkT (wy rows) g bg (toN t)), .int .i64 0]) ∧
      VisAt w'.heap.size w' A3 (wy rows) g bg (toN t) ∧ Below w.heap.size w w' := by
  obtain ⟨hts, hb0, hb1⟩ := dr_zero hd
  obtain ⟨⟨hv, hnr, hvs⟩, htu⟩ := ts_zero hts
  obtain ⟨hi, hs⟩ := tu_stp htu
  have cs := Lib.hid (stopped_any A A1 A2 c c1 c2 B rows n g t w hB h hl h1 hn h2 hm hcap)
  rw [hts] at cs
  obtain ⟨b, off, rfl, hwa⟩ := WaAt.of_tbl (h.below (Below.refl _ _) hB) hv
  have cd := Lib.hid (fun W (hW : Below w.heap.size w W) => drive_any b off rows.length c c1 c2 w.heap.size (wy rows) g A1 A2 (toN t) bg W hW.size (hwa.below hW (Nat.le_refl _)) hv.bd (by rw [← hnr]; exact (h1.below (Below.refl _ _) hB).below hW (Nat.le_refl _)) (by rw [← hnr]; exact hvs) (by rw [hi]; exact (h2.below (Below.refl _ _) hB).below hW (Nat.le_refl _)) (fun x hx => (hs.2 x hx).2) hv.n0 (by omega) (by rw [toN_length]; exact hm) ⟨hb0, hb1⟩)
  rw [← hnr, toN_length] at cd
  clear h hl h1 h2 hd hts hv hvs htu hi hs hwa
  rw [← hnr] at cs ⊢
  clear hnr
  go_enter Try.func37, Try.ntmps37
  go_wp2_with (first | (go_at_call 71; refine cs.out.mono ?_; rintro e w1 ⟨rfl, hb1⟩; have HB1 := Lib.hid hb1) | (go_at_call 72; refine (cd.out _ hb1).mono ?_; rintro e w2 ⟨A3, c3, rfl, ho, hb2⟩; have HO := Lib.hid ho; have HB2 := Lib.hid hb2; clear ho))
  go_ret3
  refine ⟨A3, c3, rfl, ?_, HB1.out.trans (HB2.out.mono HB1.out.size)⟩
  refine RowsAt.of_own (viT_row _ _ _ _ _) (c := c3) (base := w1.heap.size) (e := 55) ?_
  rw [viT_length, toN_length]
  exact HO.out

set_option maxRecDepth 100000 in
set_option maxHeartbeats 1000000 in
theorem Drive_bad (hd : drR rows n g t bg ≠ 0) :
    Calls Try.prog 37 #[.slice A rows.length c, .slice A1 n c1, .slice A2 t.length c2, .int .i64 bg] w fun e w' => e = .returned (.tuple #[.slice none 0 0, .int .i64 0, .int .i64 (drR rows n g t bg)]) ∧ Below w.heap.size w w' := by
  have cs := Lib.hid (stopped_any A A1 A2 c c1 c2 B rows n g t w hB h hl h1 hn h2 hm hcap)
  by_cases hts : tsR rows n g t = 0
  · by_cases hb : 0 ≤ bg ∧ bg ≤ 10000
    · exact absurd (by unfold drR; rw [if_neg (by simpa using hts), if_pos hb]) hd
    · rw [dr_out hts hb]
      rw [hts] at cs
      clear h hl h1 h2 hd hts
      by_cases hb1 : bg < 0
      · have hd1 : decide (bg < 0) = true := by simpa using hb1
        clear hb hb1
        go_enter Try.func37, Try.ntmps37
        go_wp2_with (first | (go_at_call 71; refine cs.out.mono ?_; rintro e w1 ⟨rfl, hb1⟩; have HB1 := Lib.hid hb1))
        go_ret3
        exact ⟨rfl, HB1.out⟩
      · have hd1 : decide (bg < 0) = false := by simpa using hb1
        have hd2 : decide (10000 < bg) = true := by simp; omega
        clear hb hb1
        go_enter Try.func37, Try.ntmps37
        go_wp2_with (first | (go_at_call 71; refine cs.out.mono ?_; rintro e w1 ⟨rfl, hb1⟩; have HB1 := Lib.hid hb1))
        go_ret3
        exact ⟨rfl, HB1.out⟩
  · rw [dr_ts hts]
    have hne : (tsR rows n g t != 0) = true := by simpa using hts
    generalize tsR rows n g t = e0 at cs hne ⊢
    clear h hl h1 h2 hd hts
    go_enter Try.func37, Try.ntmps37
    go_wp2_with (first | (go_at_call 71; refine cs.out.mono ?_; rintro e w1 ⟨rfl, hb1⟩; have HB1 := Lib.hid hb1))
    go_ret3
    exact ⟨rfl, HB1.out⟩

set_option maxRecDepth 100000 in
set_option maxHeartbeats 1000000 in
theorem Drive_ref (hd : drR rows n g t bg = 0) :
    Calls Try.prog 38 #[.slice A rows.length c, .slice A1 n c1, .slice A2 t.length c2, .int .i64 bg] w fun e w' => ∃ A3 c3, e = .returned (.tuple #[.slice A3 t.length c3, .int .i64 (bkT (wy rows) g bg (toN t)), .int .i64 0]) ∧
      VisAt w'.heap.size w' A3 (wy rows) g bg (toN t) ∧ Below w.heap.size w w' := by
  obtain ⟨hts, hb0, hb1⟩ := dr_zero hd
  obtain ⟨⟨hv, hnr, hvs⟩, htu⟩ := ts_zero hts
  obtain ⟨hi, hs⟩ := tu_stp htu
  have cs := Lib.hid (toured_ref A A1 A2 c c1 c2 B rows n g t w hB h hl h1 hn h2 hm hcap)
  rw [hts] at cs
  obtain ⟨b, off, rfl, hwa⟩ := WaAt.of_tbl (h.below (Below.refl _ _) hB) hv
  have cd := Lib.hid (fun W (hW : Below w.heap.size w W) => drive_ref b off rows.length c c1 c2 w.heap.size (wy rows) g A1 A2 (toN t) bg W hW.size (hwa.below hW (Nat.le_refl _)) hv.bd (by rw [← hnr]; exact (h1.below (Below.refl _ _) hB).below hW (Nat.le_refl _)) (by rw [← hnr]; exact hvs) (by rw [hi]; exact (h2.below (Below.refl _ _) hB).below hW (Nat.le_refl _)) (fun x hx => (hs.2 x hx).2) hv.n0 (by omega) (by rw [toN_length]; exact hm) ⟨hb0, hb1⟩)
  rw [← hnr, toN_length] at cd
  have i0 := inI_true (show 0 ≤ bg ∧ bg ≤ 10000 from ⟨hb0, hb1⟩)
  clear h hl h1 h2 hd hts hv hvs htu hi hs hwa
  rw [← hnr] at cs ⊢
  clear hnr
  go_enter Try.func38, Try.ntmps38
  go_wp2_with (first | (go_at_call 73; refine cs.out.mono ?_; rintro e w1 ⟨rfl, hb1⟩; have HB1 := Lib.hid hb1) | (go_at_call 60; refine (within_ref _ _ _ _).mono ?_; rintro e w9 ⟨rfl, hw9⟩; obtain rfl := hw9.symm; clear hw9) | (go_at_call 74; refine (cd.out _ HB1.out).mono ?_; rintro e w2 ⟨A3, c3, rfl, ho, hb2⟩; have HO := Lib.hid ho; have HB2 := Lib.hid hb2; clear ho))
  go_ret3
  refine ⟨A3, c3, rfl, ?_, HB1.out.trans (HB2.out.mono HB1.out.size)⟩
  refine RowsAt.of_own (viT_row _ _ _ _ _) (c := c3) (base := w1.heap.size) (e := 56) ?_
  rw [viT_length, toN_length]
  exact HO.out

set_option maxRecDepth 100000 in
set_option maxHeartbeats 1000000 in
theorem Drive_ref_bad (hd : drR rows n g t bg ≠ 0) :
    Calls Try.prog 38 #[.slice A rows.length c, .slice A1 n c1, .slice A2 t.length c2, .int .i64 bg] w fun e w' => e = .returned (.tuple #[.slice none 0 0, .int .i64 0, .int .i64 (drR rows n g t bg)]) ∧ Below w.heap.size w w' := by
  have cs := Lib.hid (toured_ref A A1 A2 c c1 c2 B rows n g t w hB h hl h1 hn h2 hm hcap)
  by_cases hts : tsR rows n g t = 0
  · by_cases hb : 0 ≤ bg ∧ bg ≤ 10000
    · exact absurd (by unfold drR; rw [if_neg (by simpa using hts), if_pos hb]) hd
    · rw [dr_out hts hb]
      rw [hts] at cs
      have i0 := inI_false hb
      clear h hl h1 h2 hd hts hb
      go_enter Try.func38, Try.ntmps38
      go_wp2_with (first | (go_at_call 73; refine cs.out.mono ?_; rintro e w1 ⟨rfl, hb1⟩; have HB1 := Lib.hid hb1) | (go_at_call 60; refine (within_ref _ _ _ _).mono ?_; rintro e w2 ⟨rfl, rfl⟩))
      go_ret3
      exact ⟨rfl, HB1.out⟩
  · rw [dr_ts hts]
    have hne : (tsR rows n g t != 0) = true := by simpa using hts
    generalize tsR rows n g t = e0 at cs hne ⊢
    clear h hl h1 h2 hd hts
    go_enter Try.func38, Try.ntmps38
    go_wp2_with (first | (go_at_call 73; refine cs.out.mono ?_; rintro e w1 ⟨rfl, hb1⟩; have HB1 := Lib.hid hb1))
    go_ret3
    exact ⟨rfl, HB1.out⟩
end

set_option maxRecDepth 100000 in
set_option maxHeartbeats 1000000 in
theorem many_any (A1 A2 : Option Addr) (n c1 m c2 : Nat) (bg : Int) (w : World) :
    Calls Try.prog 36 #[.agg #[.slice A1 n c1, .slice A2 m c2, .int .i64 bg]] w fun e w' => e = .returned (.bool (decide (60 < n) || decide (60 < m))) ∧ Below w.heap.size w w' := by
  by_cases h1 : 60 < n
  · have Hr := Lib.hid (show (decide (60 < n) || decide (60 < m)) = true by simp [h1])
    have hd : decide ((60 : Int) < (n : Int)) = true := by simp; omega
    go_enter Try.func36, Try.ntmps36
    go_wp2_with fail
    go_ret
    exact ⟨by rw [Hr.out]; rfl, (Below.refl _ _).alloc (Nat.le_refl _) _⟩
  · have hd : decide ((60 : Int) < (n : Int)) = false := by simp; omega
    by_cases h2 : 60 < m
    · have Hr := Lib.hid (show (decide (60 < n) || decide (60 < m)) = true by simp [h2])
      have hd2 : decide ((60 : Int) < (m : Int)) = true := by simp; omega
      go_enter Try.func36, Try.ntmps36
      go_wp2_with fail
      go_ret
      exact ⟨by rw [Hr.out]; rfl, (Below.refl _ _).alloc (Nat.le_refl _) _⟩
    · have Hr := Lib.hid (show (decide (60 < n) || decide (60 < m)) = false by simp [h1, h2])
      have hd2 : decide ((60 : Int) < (m : Int)) = false := by simp; omega
      go_enter Try.func36, Try.ntmps36
      go_wp2_with fail
      go_ret
      exact ⟨by rw [Hr.out]; rfl, (Below.refl _ _).alloc (Nat.le_refl _) _⟩
end Go.Proofs.Ytmodbpglopfghaa
