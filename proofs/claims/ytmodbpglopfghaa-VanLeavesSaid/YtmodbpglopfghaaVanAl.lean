/- Direct and IsDirect. -/
import Derived.Test.YtmodbpglopfghaaVanAk
import Derived.Test.YtmodbpglopfghaaVanT
set_option linter.unusedSimpArgs false
set_option linter.unusedVariables false
namespace Go.Proofs.Ytmodbpglopfghaa
open Go.RowKit

theorem MT.tbl {base g n : Nat} {f : Nat → Nat → Int} {w : World} (h : MT base g n f w) : TblAt w.heap.size w (some ⟨g, 0, none⟩) (rowsOf f n) := h.wa.tbl
theorem rowsOf_congr {n : Nat} {D D' : Nat → Nat → Int} (h : ∀ i j, i < n → j < n → D i j = D' i j) : rowsOf D n = rowsOf D' n := by
  unfold rowsOf rowL
  apply List.map_congr_left
  intro i hi
  apply List.map_congr_left
  intro j hj
  exact h i j (List.mem_range.1 hi) (List.mem_range.1 hj)
theorem rowsOf_self {rows : List (List Int)} (h : ∀ r ∈ rows, r.length = rows.length) : rowsOf (wy rows) rows.length = rows := by
  apply List.ext_getElem
  · exact rowsOf_length _ _
  · intro i h1 h2
    rw [rowsOf_get]
    apply List.ext_getElem
    · rw [rowL_length]; exact (sq_get h h2).symm
    · intro j h3 h4
      have hj : j < rows.length := by rw [rowL_length] at h3; exact h3
      simp [rowL, wy, h2, hj, show j < rows[i].length from h4]
theorem IsDist.congr {n : Nat} {f g D : Nat → Nat → Int} (h : IsDist n f D) (hf : ∀ i j, i < n → j < n → f i j = g i j) : IsDist n g D := by
  have hw : ∀ j, j < n → ∀ (l : List Nat) i, i < n → Wl n l → wk f j i l = wk g j i l := fun j hj l => by
    induction l with
    | nil => exact fun i hi _ => hf i j hi hj
    | cons x l ih =>
      intro i hi hl
      have hx := hl x (by simp)
      show f i x + wk f j x l = g i x + wk g j x l
      rw [hf i x hi hx, ih x hx fun y hy => hl y (List.mem_cons_of_mem _ hy)]
  refine ⟨fun i j hi hj => ?_, fun i j l hi hj hl => ?_⟩
  · obtain ⟨l, h1, h2⟩ := h.1 i j hi hj
    exact ⟨l, h1, by rw [h2, hw j hj l i hi h1]⟩
  · rw [← hw j hj l i hi hl]; exact h.2 i j l hi hj hl
/-- The direct ways are ways. -/
theorem vw_dist {rows : List (List Int)} {D : Nat → Nat → Int} (hv : VW rows) (h : IsDist rows.length (wy rows) D) : VW (rowsOf D rows.length) := by
  have hl := rowsOf_length D rows.length
  refine ⟨by rw [hl]; exact hv.n0, by rw [hl]; exact hv.n1, fun r hr => by rw [hl]; exact rowsOf_sq _ _ r hr, fun i j hi hj => ?_⟩
  rw [hl] at hi hj
  unfold okP
  rw [wy_rowsOf D _ hi hj, wy_rowsOf D _ hj hi]
  have hp := h.pos (fun a b ha hb => (hv.bd a b ha hb).1) hi hj
  have hle := h.le hi hj
  have hb := hv.bd i j hi hj
  refine ⟨⟨hp, by omega⟩, h.sym hv.sym hi hj, fun e => ?_⟩
  subst e
  have := hv.diag hi
  omega

set_option maxRecDepth 100000 in
set_option maxHeartbeats 1000000 in
theorem Direct_any (b off c B : Nat) (rows : List (List Int)) (w : World) (hB : B ≤ w.heap.size) (h : TblAt B w (some ⟨b, off, none⟩) rows) (hl : ∀ r ∈ rows, r.length ≤ 30) (hv : VW rows) :
    Calls Try.prog 35 #[.slice (some ⟨b, off, none⟩) rows.length c] w fun e w' => ∃ g D, e = .returned (.tuple #[.slice (some ⟨g, 0, none⟩) rows.length rows.length, .int .i64 0]) ∧ MT w.heap.size g rows.length D w' ∧ IsDist rows.length (wy rows) D ∧ Below w.heap.size w w' := by
  have cv := Lib.hid (Validate_any (some ⟨b, off, none⟩) c B rows w h hl)
  rw [vw_ok hv] at cv
  obtain ⟨b', off', e', hwa⟩ := WaAt.of_tbl h hv
  obtain ⟨rfl, rfl⟩ : b = b' ∧ off = off' := by injection e' with e'; injection e' with q1 q2; exact ⟨q1, q2⟩
  have cd := Lib.hid (direct_any b off rows.length c B (wy rows) w hB hwa hv.bd hv.n0 hv.n1)
  clear h hl hv hwa e'
  go_enter Try.func35, Try.ntmps35
  go_wp2_with (first | (go_at_call 30; refine cv.out.mono ?_; rintro e w1 ⟨rfl, hw1⟩; obtain rfl := hw1.symm; clear hw1) | (go_at_call 70; refine cd.out.mono ?_; rintro e w2 ⟨g, D, rfl, hM, hD, hb⟩))
  go_ret2
  exact ⟨g, D, rfl, hM, hD, hb⟩
set_option maxRecDepth 100000 in
theorem Direct_bad (A : Option Addr) (c B : Nat) (rows : List (List Int)) (w : World) (h : TblAt B w A rows) (hl : ∀ r ∈ rows, r.length ≤ 30) (hv : ¬ VW rows) :
    Calls Try.prog 35 #[.slice A rows.length c] w fun e w' => e = .returned (.tuple #[.slice none 0 0, .int .i64 (vwR rows)]) ∧ w = w' := by
  have cv := Lib.hid (Validate_any A c B rows w h hl)
  have hne : (vwR rows != 0) = true := by simpa using vw_ne hv
  have hne2 : (vwR rows == 0) = false := by simpa using vw_ne hv
  generalize vwR rows = e0 at cv hne hne2 ⊢
  clear h hl hv
  go_enter Try.func35, Try.ntmps35
  go_wp2_with (go_at_call 30; refine cv.out.mono ?_; rintro e w1 ⟨rfl, hw1⟩; obtain rfl := hw1.symm; clear hw1)
  go_ret2
  exact ⟨rfl, rfl⟩
set_option maxRecDepth 100000 in
theorem Direct_ref_bad (A : Option Addr) (c B : Nat) (rows : List (List Int)) (w : World) (hB : B ≤ w.heap.size) (h : TblAt B w A rows) (hl : rows.length ≤ 30 ∧ ∀ r ∈ rows, r.length ≤ 30) (hv : ¬ VW rows) :
    Calls Try.prog 46 #[.slice A rows.length c] w fun e w' => e = .returned (.tuple #[.slice none 0 0, .int .i64 (vwR rows)]) ∧ Below w.heap.size w w' := by
  have cv := Lib.hid (Validate_ref A c B rows w hB h hl)
  have hne : (vwR rows != 0) = true := by simpa using vw_ne hv
  have hne2 : (vwR rows == 0) = false := by simpa using vw_ne hv
  generalize vwR rows = e0 at cv hne hne2 ⊢
  clear h hl hv
  go_enter Try.func46, Try.ntmps46
  go_wp2_with (go_at_call 31; refine cv.out.mono ?_; rintro e w1 ⟨rfl, hb1⟩)
  go_ret2
  exact ⟨rfl, hb1⟩
/-- Whether no detour is shorter. -/
def DirB (rows : List (List Int)) (x : Bool) : Prop := ∃ D, IsDist rows.length (wy rows) D ∧ x = decide (rows = rowsOf D rows.length)
theorem DirB.unique {rows : List (List Int)} {x y : Bool} (h : DirB rows x) (h' : DirB rows y) : x = y := by
  obtain ⟨D, h1, rfl⟩ := h
  obtain ⟨D', h2, rfl⟩ := h'
  rw [rowsOf_congr fun i j hi hj => h1.unique h2 hi hj]

set_option maxRecDepth 100000 in
set_option maxHeartbeats 1000000 in
theorem IsDirect_any (b off c B : Nat) (rows : List (List Int)) (w : World) (hB : B ≤ w.heap.size) (h : TblAt B w (some ⟨b, off, none⟩) rows) (hl : ∀ r ∈ rows, r.length ≤ 30) (hv : VW rows) :
    Calls Try.prog 47 #[.slice (some ⟨b, off, none⟩) rows.length c] w fun e w' => ∃ x, e = .returned (.tuple #[.bool x, .int .i64 0]) ∧ DirB rows x ∧ Below w.heap.size w w' := by
  have cv := Lib.hid (Validate_any (some ⟨b, off, none⟩) c B rows w h hl)
  rw [vw_ok hv] at cv
  obtain ⟨b', off', e', hwa⟩ := WaAt.of_tbl h hv
  obtain ⟨rfl, rfl⟩ : b = b' ∧ off = off' := by injection e' with e'; injection e' with q1 q2; exact ⟨q1, q2⟩
  have cd := Lib.hid (direct_any b off rows.length c B (wy rows) w hB hwa hv.bd hv.n0 hv.n1)
  have hn7 := hv.n1
  have ce := Lib.hid (show ∀ (g : Nat) (D : Nat → Nat → Int) (W : World), Below w.heap.size w W → TblAt W.heap.size W (some ⟨g, 0, none⟩) (rowsOf D rows.length) → Calls Try.prog 78 #[.slice (some ⟨b, off, none⟩) rows.length c, .slice (some ⟨g, 0, none⟩) rows.length rows.length, .func (.func 79) #[] #[]] W fun e w' => e = .returned (.bool (decide (rows = rowsOf D rows.length))) ∧ Below W.heap.size W w' from fun g D W hW hT => by
    have := EqualFunc_any (some ⟨b, off, none⟩) (some ⟨g, 0, none⟩) c rows.length W.heap.size rows (rowsOf D rows.length) W (Nat.le_refl _) ((h.below (Below.refl _ _) hB).below hW hW.size) hT (by omega) (fun r hr => by have := hl r hr; omega)
    rw [rowsOf_length] at this
    exact this)
  clear h hl hv hwa e'
  go_enter Try.func47, Try.ntmps47
  go_wp2_with (first
    | (go_at_call 30; refine cv.out.mono ?_; rintro e w1 ⟨rfl, hw1⟩; obtain rfl := hw1.symm; clear hw1)
    | (go_at_call 70; refine cd.out.mono ?_; rintro e w2 ⟨g, D, rfl, hM, hD, hb⟩; have hT := Lib.hid hM.tbl; have HD := Lib.hid hD; clear hM hD)
    | (go_at_call 78; refine (ce.out g D _ hb hT.out).mono ?_; rintro e w3 ⟨rfl, hb3⟩))
  go_ret2
  exact ⟨_, rfl, ⟨D, HD.out, rfl⟩, hb.trans (hb3.mono hb.size)⟩
set_option maxRecDepth 100000 in
theorem IsDirect_bad (A : Option Addr) (c B : Nat) (rows : List (List Int)) (w : World) (h : TblAt B w A rows) (hl : ∀ r ∈ rows, r.length ≤ 30) (hv : ¬ VW rows) :
    Calls Try.prog 47 #[.slice A rows.length c] w fun e w' => e = .returned (.tuple #[.bool false, .int .i64 (vwR rows)]) ∧ w = w' := by
  have cv := Lib.hid (Validate_any A c B rows w h hl)
  have hne : (vwR rows != 0) = true := by simpa using vw_ne hv
  have hne2 : (vwR rows == 0) = false := by simpa using vw_ne hv
  generalize vwR rows = e0 at cv hne hne2 ⊢
  clear h hl hv
  go_enter Try.func47, Try.ntmps47
  go_wp2_with (go_at_call 30; refine cv.out.mono ?_; rintro e w1 ⟨rfl, hw1⟩; obtain rfl := hw1.symm; clear hw1)
  go_ret2
  exact ⟨rfl, rfl⟩

set_option maxRecDepth 100000 in
set_option maxHeartbeats 1000000 in
theorem IsDirect_ref (b off c B : Nat) (rows : List (List Int)) (w : World) (hB : B ≤ w.heap.size) (h : TblAt B w (some ⟨b, off, none⟩) rows) (hl : rows.length ≤ 30 ∧ ∀ r ∈ rows, r.length ≤ 30) (hv : VW rows) :
    Calls Try.prog 48 #[.slice (some ⟨b, off, none⟩) rows.length c] w fun e w' => ∃ x, e = .returned (.tuple #[.bool x, .int .i64 0]) ∧ DirB rows x ∧ Below w.heap.size w w' := by
  have cd := Lib.hid (Direct_ref b off c B rows w hB h hl hv)
  have hn7 := hv.n1
  have ce := Lib.hid (show ∀ (g c2 : Nat) (D : Nat → Nat → Int) (W : World), Below w.heap.size w W → TblAt W.heap.size W (some ⟨g, 0, none⟩) (rowsOf D rows.length) → Calls Try.prog 49 #[.slice (some ⟨g, 0, none⟩) rows.length c2, .slice (some ⟨b, off, none⟩) rows.length c] W fun e w' => e = .returned (.bool (decide (rows = rowsOf D rows.length))) ∧ Below W.heap.size W w' from fun g c2 D W hW hT => by
    have := Same_any (some ⟨g, 0, none⟩) (some ⟨b, off, none⟩) c2 c W.heap.size (rowsOf D rows.length) rows W (Nat.le_refl _) hT ((h.below (Below.refl _ _) hB).below hW hW.size) (by rw [rowsOf_length]; omega) (fun r hr => by rw [rowsOf_sq D _ r hr]; omega)
    rw [rowsOf_length, show decide (rowsOf D rows.length = rows) = decide (rows = rowsOf D rows.length) from decide_eq_decide.2 ⟨Eq.symm, Eq.symm⟩] at this
    exact this)
  clear h hl hv
  go_enter Try.func48, Try.ntmps48
  go_wp2_with (first
    | (go_at_call 46; refine cd.out.mono ?_; rintro e w2 ⟨g, c2, D, rfl, hM, hD, hb⟩; have hT := Lib.hid hM.tbl; have HD := Lib.hid hD; clear hM hD)
    | (go_at_call 49; refine (ce.out g c2 D _ hb hT.out).mono ?_; rintro e w3 ⟨rfl, hb3⟩))
  go_ret2
  exact ⟨_, rfl, ⟨D, HD.out, rfl⟩, hb.trans (hb3.mono hb.size)⟩
set_option maxRecDepth 100000 in
theorem IsDirect_ref_bad (A : Option Addr) (c B : Nat) (rows : List (List Int)) (w : World) (hB : B ≤ w.heap.size) (h : TblAt B w A rows) (hl : rows.length ≤ 30 ∧ ∀ r ∈ rows, r.length ≤ 30) (hv : ¬ VW rows) :
    Calls Try.prog 48 #[.slice A rows.length c] w fun e w' => e = .returned (.tuple #[.bool false, .int .i64 (vwR rows)]) ∧ Below w.heap.size w w' := by
  have cv := Lib.hid (Direct_ref_bad A c B rows w hB h hl hv)
  have hne : (vwR rows != 0) = true := by simpa using vw_ne hv
  have hne2 : (vwR rows == 0) = false := by simpa using vw_ne hv
  generalize vwR rows = e0 at cv hne hne2 ⊢
  clear h hl hv
  go_enter Try.func48, Try.ntmps48
  go_wp2_with (go_at_call 46; refine cv.out.mono ?_; rintro e w1 ⟨rfl, hb1⟩)
  go_ret2
  exact ⟨rfl, hb1⟩
end Go.Proofs.Ytmodbpglopfghaa
