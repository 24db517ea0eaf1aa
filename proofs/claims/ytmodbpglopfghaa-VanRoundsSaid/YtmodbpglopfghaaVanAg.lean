/- Equal rows; VanRounds. -/
import Derived.Test.YtmodbpglopfghaaVanAf
set_option linter.unusedSimpArgs false
set_option linter.unusedVariables false
namespace Go.Proofs.Ytmodbpglopfghaa
open Go.RowKit

set_option maxRecDepth 100000 in
set_option maxHeartbeats 1000000 in
theorem same_ints (A A' : Option Addr) (c c' B : Nat) (l : List Int) (w : World) (hB : B ≤ w.heap.size) (h : IntsAt B w A l) (h' : IntsAt B w A' l) (hm : l.length ≤ 1000) :
    Calls Try.prog 34 #[.slice A l.length c, .slice A' l.length c'] w fun e w' => e = .returned (.bool true) ∧ Below w.heap.size w w' := by
  have H := Lib.hid (show IntsAt w.heap.size w A l from h.below (Below.refl _ _) hB)
  have H' := Lib.hid (show IntsAt w.heap.size w A' l from h'.below (Below.refl _ _) hB)
  clear h h'
  go_enter Try.func34, Try.ntmps34
  go_wp2_with fail
  go_loopw [5] (fun vk wr => ∃ k : Nat, k ≤ l.length ∧ vk = .int .i64 k ∧ Below w.heap.size w wr) (fun vk _ => l.length - (intOf vk).toNat)
  case atStart => exact ⟨0, Nat.zero_le _, rfl, Below.refl _ _⟩
  case round =>
    obtain ⟨k, hk, rfl, hbr⟩ := hrel
    by_cases hlt : k < l.length
    · obtain ⟨b1, o1, rfl, _, y0⟩ := (H.out.below hbr (Nat.le_refl _)).at hlt
      obtain ⟨b2, o2, rfl, _, y1⟩ := (H'.out.below hbr (Nat.le_refl _)).at hlt
      have HBr := Lib.hid hbr
      generalize l[k] = x at y0 y1
      have hkI : (k : Int) < (l.length : Int) := by omega
      have hk0 : (0 : Int) ≤ (k : Int) := by omega
      clear hbr
      go_wp2_with fail
      go_quiet (fail)
      go_wp2_with fail
      go_roundw
      case rel => exact ⟨k + 1, by omega, by go_num, below_drewN HBr.out _⟩
      case measure => simp [intOf]; omega
    · obtain rfl : k = l.length := by omega
      go_wp2_with fail
      go_ret
      exact ⟨rfl, hbr⟩
theorem same_nil (c c' : Nat) (w : World) : Calls Try.prog 34 #[.slice none 0 c, .slice none 0 c'] w fun e w' => e = .returned (.bool true) ∧ Below w.heap.size w w' :=
  same_ints none none c c' w.heap.size [] w (Nat.le_refl _) (IntsAt.nil _ _ _) (IntsAt.nil _ _ _) (by simp)

set_option maxRecDepth 100000 in
set_option maxHeartbeats 1000000 in
theorem Round_bad (A : Option Addr) (c B : Nat) (first : Int) (rows : List (List Int)) (w : World) (h : TblAt B w A rows) (hl : ∀ r ∈ rows, r.length ≤ 30) (h0 : ¬ rdE rows first = 0) :
    Calls Try.prog 32 #[.slice A rows.length c, .int .i64 first] w fun e w' => e = .returned (.tuple #[.slice none 0 0, .int .i64 (rdE rows first)]) ∧ w = w' := by
  have cv := Lib.hid (Validate_any A c B rows w h hl)
  by_cases hv : VW rows
  · rw [vw_ok hv] at cv
    have hf : ¬ (1 ≤ first ∧ first < (rows.length : Int)) := fun hf => h0 (rd_ok hv hf)
    have HR := Lib.hid (rd_none hv hf)
    clear h hl hv h0
    by_cases h1 : first < 1
    · have hd : decide (first < 1) = true := by simpa using h1
      clear hf
      go_enter Try.func32, Try.ntmps32
      go_wp2_with (go_at_call 30; refine cv.out.mono ?_; rintro e w1 ⟨rfl, hw1⟩; obtain rfl := hw1.symm; clear hw1)
      go_ret2
      exact ⟨by rw [HR.out]; rfl, rfl⟩
    · have hd : decide (first < 1) = false := by simpa using h1
      have hd2 : decide ((rows.length : Int) ≤ first) = true := by simp; omega
      clear hf
      go_enter Try.func32, Try.ntmps32
      go_wp2_with (go_at_call 30; refine cv.out.mono ?_; rintro e w1 ⟨rfl, hw1⟩; obtain rfl := hw1.symm; clear hw1)
      go_ret2
      exact ⟨by rw [HR.out]; rfl, rfl⟩
  · have HR := Lib.hid (rd_bad first hv)
    have hne : (vwR rows != 0) = true := by simpa using vw_ne hv
    have hne2 : (vwR rows == 0) = false := by simpa using vw_ne hv
    generalize vwR rows = e0 at cv hne hne2 HR
    clear h hl hv h0
    go_enter Try.func32, Try.ntmps32
    go_wp2_with (go_at_call 30; refine cv.out.mono ?_; rintro e w1 ⟨rfl, hw1⟩; obtain rfl := hw1.symm; clear hw1)
    go_ret2
    exact ⟨by rw [HR.out]; rfl, rfl⟩

set_option maxRecDepth 100000 in
set_option maxHeartbeats 1000000 in
theorem Round_ref_bad (A : Option Addr) (c B : Nat) (first : Int) (rows : List (List Int)) (w : World) (hB : B ≤ w.heap.size) (h : TblAt B w A rows) (hl : rows.length ≤ 30 ∧ ∀ r ∈ rows, r.length ≤ 30) (h0 : ¬ rdE rows first = 0) :
    Calls Try.prog 33 #[.slice A rows.length c, .int .i64 first] w fun e w' => e = .returned (.tuple #[.slice none 0 0, .int .i64 (rdE rows first)]) ∧ Below w.heap.size w w' := by
  have cv := Lib.hid (Validate_ref A c B rows w hB h hl)
  by_cases hv : VW rows
  · rw [vw_ok hv] at cv
    have hf : ¬ (1 ≤ first ∧ first < (rows.length : Int)) := fun hf => h0 (rd_ok hv hf)
    have HR := Lib.hid (rd_none hv hf)
    have hn1 := hv.n0
    have hn7 := hv.n1
    have cw := within_ref first 1 ((rows.length : Int) - 1)
    rw [show inI first 1 ((rows.length : Int) - 1) = false by simp [inI]; omega] at cw
    have CW := Lib.hid cw
    have hwn : IntKind.i64.wrap ((rows.length : Int) - 1) = (rows.length : Int) - 1 := IntWalk.i64_in _ (by omega)
    clear h hl hv h0 hf cw
    go_enter Try.func33, Try.ntmps33
    go_wp2_with (first | (go_at_call 31; refine cv.out.mono ?_; rintro e w1 ⟨rfl, hb1⟩) | (go_at_call 60; refine (CW.out _).mono ?_; rintro e w2 ⟨rfl, hw2⟩; obtain rfl := hw2.symm; clear hw2))
    go_ret2
    exact ⟨by rw [HR.out]; rfl, hb1⟩
  · have HR := Lib.hid (rd_bad first hv)
    have hne : (vwR rows != 0) = true := by simpa using vw_ne hv
    have hne2 : (vwR rows == 0) = false := by simpa using vw_ne hv
    generalize vwR rows = e0 at cv hne hne2 HR
    clear h hl hv h0
    go_enter Try.func33, Try.ntmps33
    go_wp2_with (go_at_call 31; refine cv.out.mono ?_; rintro e w1 ⟨rfl, hb1⟩)
    go_ret2
    exact ⟨by rw [HR.out]; rfl, hb1⟩

set_option maxRecDepth 100000 in
set_option maxHeartbeats 1000000 in
theorem rounds_law (A : Option Addr) (c : Nat) (rows : List (List Int)) (first : Int) (w : World) (h : TblAt w.heap.size w A rows) :
    Calls Try.prog 8 #[.slice A rows.length c, .int .i64 first] w fun e w' => e = .returned (.bool true) ∧ Below w.heap.size w w' := by
  have cl := Lib.hid (Large_any A c w.heap.size rows w h)
  have hB0 := Below.refl w.heap.size w
  by_cases hlg : lgW rows = true
  · rw [hlg] at cl
    clear h hlg
    go_enter Try.func8, Try.ntmps8
    go_wp2_with (first | (go_at_call 17; refine cl.out.mono ?_; rintro e w1 ⟨rfl, hw1⟩; obtain rfl := hw1.symm; clear hw1) | (go_at_call 18; refine (known_any _).mono ?_; rintro e w5 ⟨rfl, hb5⟩))
    go_ret
    exact ⟨rfl, hb5⟩
  · have hlg' : lgW rows = false := by simpa using hlg
    rw [hlg'] at cl
    have hl := lgW_small hlg'
    by_cases he : rdE rows first = 0
    · have hv : VW rows := by
        by_cases hv : VW rows
        · exact hv
        · rw [rd_bad first hv] at he; exact absurd he (vw_ne hv)
      have hf : 1 ≤ first ∧ first < (rows.length : Int) := by
        by_cases hf : 1 ≤ first ∧ first < (rows.length : Int)
        · exact hf
        · rw [rd_none hv hf] at he; cases he
      obtain ⟨fn, rfl⟩ := Int.eq_ofNat_of_zero_le (show 0 ≤ first by omega)
      obtain ⟨b, off, rfl, _⟩ := WaAt.of_tbl h hv
      have hf1 : 1 ≤ fn := by omega
      have hf2 : fn < rows.length := by omega
      have ca := Lib.hid (fun W (hW : Below w.heap.size w W) => Round_any b off c w.heap.size fn rows W hW.size (h.below hW (Nat.le_refl _)) hl.2 hv hf1 hf2)
      have cr := Lib.hid (fun W (hW : Below w.heap.size w W) => Round_ref b off c w.heap.size fn rows W hW.size (h.below hW (Nat.le_refl _)) hl hv hf1 hf2)
      have ht := rdT_tour (wy rows) hf1 hf2
      have hll : (intL (rdT (wy rows) rows.length fn (rows.length - 2))).length = rows.length - 1 := by rw [intL_length, ht.2]
      have hn7 := hv.n1
      have cL := fun (A2 : Option Addr) (c2 : Nat) W (hW : Below w.heap.size w W) (hI : IntsAt W.heap.size W A2 (intL (rdT (wy rows) rows.length fn (rows.length - 2)))) hc => Length_any (some ⟨b, off, none⟩) A2 c c2 W.heap.size rows (intL (rdT (wy rows) rows.length fn (rows.length - 2))) W (h.below hW hW.size) hl.2 hI (by rw [hll]; omega) hc
      have htd : tdR rows (intL (rdT (wy rows) rows.length fn (rows.length - 2))) = 0 := by rw [td_vw _ hv, stp_tu ht.1]
      have hln : lnR rows (intL (rdT (wy rows) rows.length fn (rows.length - 2))) = lenF (wy rows) 0 (rdT (wy rows) rows.length fn (rows.length - 2)) := by rw [lnR, if_pos htd, intL_toN]
      rw [htd, hln, hll] at cL
      have CL := Lib.hid cL
      have csm := fun (A2 A3 : Option Addr) (c2 c3 : Nat) (W : World) (hI : IntsAt W.heap.size W A2 (intL (rdT (wy rows) rows.length fn (rows.length - 2)))) (hI' : IntsAt W.heap.size W A3 (intL (rdT (wy rows) rows.length fn (rows.length - 2)))) => same_ints A2 A3 c2 c3 W.heap.size (intL (rdT (wy rows) rows.length fn (rows.length - 2))) W (Nat.le_refl _) hI hI' (by rw [hll]; omega)
      rw [hll] at csm
      have CSm := Lib.hid csm
      have cs := Lib.hid (fun W (hW : Below w.heap.size w W) => Shortest_any (some ⟨b, off, none⟩) c w.heap.size rows W hW.size (h.below hW (Nat.le_refl _)) hl.2)
      rw [vw_ok hv] at cs
      have HQ := Lib.hid (show ∀ n, ShortR rows n → n ≤ lenF (wy rows) 0 (rdT (wy rows) rows.length fn (rows.length - 2)) from fun n hn => (hn.1 hv).1.1 _ ht)
      clear h hlg hlg' hl he hv hf hf1 hf2 ht hll htd hln cL csm
      generalize lenF (wy rows) 0 (rdT (wy rows) rows.length fn (rows.length - 2)) = L at *
      generalize intL (rdT (wy rows) rows.length fn (rows.length - 2)) = t at *
      go_enter Try.func8, Try.ntmps8
      go_wp2_with (first
        | (go_at_call 17; refine cl.out.mono ?_; rintro e w1 ⟨rfl, hw1⟩; obtain rfl := hw1.symm; clear hw1)
        | (go_at_call 32; refine (ca.out _ hB0).mono ?_; rintro e w1 ⟨A1, c1, rfl, hI1, hc1, hb1⟩; have hB1 := hB0.trans (hb1.mono hB0.size); have HC1 := Lib.hid hc1; clear hc1)
        | (go_at_call 33; refine (cr.out _ hB1).mono ?_; rintro e w2 ⟨A2, c2, rfl, hI2, hc2, hb2⟩; clear hc2; have hB2 := hB1.trans (hb2.mono hB1.size); have hI12 := hI1.below hb2 hb2.size)
        | (go_at_call 34; refine (CSm.out _ _ _ _ _ hI12 hI2).mono ?_; rintro e w3 ⟨rfl, hb3⟩; have hB3 := hB2.trans (hb3.mono hB2.size); have hI13 := hI12.below hb3 hb3.size)
        | (go_at_call 29; refine (CL.out _ _ _ hB3 hI13 HC1.out).mono ?_; rintro e w4 ⟨rfl, rfl⟩)
        | (go_at_call 21; refine (cs.out _ hB3).mono ?_; rintro e w5 ⟨n, rfl, hs, hb5⟩; have hB5 := hB3.trans (hb5.mono hB3.size); have d1 := decide_eq_true (HQ.out n hs))
        | (go_at_call 18; refine (known_any _).mono ?_; rintro e w7 ⟨rfl, hb7⟩))
      go_ret
      exact ⟨rfl, hB5.trans (hb7.mono hB5.size)⟩
    · have ca := Lib.hid (fun W (hW : Below w.heap.size w W) => Round_bad A c w.heap.size first rows W (h.below hW (Nat.le_refl _)) hl.2 he)
      have cr := Lib.hid (fun W (hW : Below w.heap.size w W) => Round_ref_bad A c w.heap.size first rows W hW.size (h.below hW (Nat.le_refl _)) hl he)
      have hne : (rdE rows first != 0) = true := by simpa using he
      have hne2 : (rdE rows first == 0) = false := by simpa using he
      generalize rdE rows first = e0 at ca cr hne hne2
      clear h hlg hlg' hl he
      go_enter Try.func8, Try.ntmps8
      go_wp2_with (first
        | (go_at_call 17; refine cl.out.mono ?_; rintro e w1 ⟨rfl, hw1⟩; obtain rfl := hw1.symm; clear hw1)
        | (go_at_call 32; refine (ca.out _ hB0).mono ?_; rintro e w1 ⟨rfl, rfl⟩)
        | (go_at_call 33; refine (cr.out _ hB0).mono ?_; rintro e w2 ⟨rfl, hb2⟩; have hB2 := hB0.trans (hb2.mono hB0.size))
        | (go_at_call 34; refine (same_nil _ _ _).mono ?_; rintro e w3 ⟨rfl, hb3⟩; have hB3 := hB2.trans (hb3.mono hB2.size))
        | (go_at_call 18; refine (known_any _).mono ?_; rintro e w7 ⟨rfl, hb7⟩))
      go_ret
      exact ⟨rfl, hB3.trans (hb7.mono hB3.size)⟩
end Go.Proofs.Ytmodbpglopfghaa
