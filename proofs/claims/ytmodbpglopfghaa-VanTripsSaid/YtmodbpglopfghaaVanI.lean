/- Tree and Shortest of the program. -/
import Derived.Test.YtmodbpglopfghaaVanH
set_option linter.unusedSimpArgs false
set_option linter.unusedVariables false
namespace Go.Proofs.Ytmodbpglopfghaa
open Go.RowKit

theorem WaAt.of_tbl {B : Nat} {w : World} {A : Option Addr} {rows : List (List Int)} (h : TblAt B w A rows) (hv : VW rows) : ∃ b off, A = some ⟨b, off, none⟩ ∧ WaAt B w b off rows.length (wy rows) := h.wa hv.sq hv.n0
theorem VW.bd {rows : List (List Int)} (hv : VW rows) : ∀ i j, i < rows.length → j < rows.length → 0 ≤ wy rows i j ∧ wy rows i j ≤ 1000 := fun i j hi hj => (hv.ok i j hi hj).1
theorem VW.sym {rows : List (List Int)} (hv : VW rows) : ∀ i j, i < rows.length → j < rows.length → wy rows i j = wy rows j i := fun i j hi hj => (hv.ok i j hi hj).2.1
theorem VW.diag {rows : List (List Int)} (hv : VW rows) {i : Nat} (hi : i < rows.length) : wy rows i i = 0 := (hv.ok i i hi hi).2.2 rfl
theorem vw_ne {rows : List (List Int)} (h : ¬ VW rows) : vwR rows ≠ 0 := fun e => h (vw_zero e)
theorem range_upto {n : Nat} (h : 1 ≤ n) : intL (List.range n) = 0 :: upto n := by
  obtain ⟨m, rfl⟩ : ∃ m, n = m + 1 := ⟨n - 1, by omega⟩
  simp [intL, upto, List.range_succ_eq_map]
/-- What Tree returns. -/
def TreeR (rows : List (List Int)) (z : Int) : Prop := (VW rows → IsTree (wy rows) (fun x => x ∈ List.range rows.length) rows.length z ∧ -18000 ≤ z ∧ z ≤ 18000) ∧ (¬ VW rows → z = 0)
/-- What Shortest returns. -/
def ShortR (rows : List (List Int)) (z : Int) : Prop := (VW rows → IsShort rows.length (wy rows) z ∧ 0 ≤ z ∧ z ≤ 8000) ∧ (¬ VW rows → z = 0)

set_option maxRecDepth 100000 in
set_option maxHeartbeats 1000000 in
theorem Shortest_any (A : Option Addr) (c B : Nat) (rows : List (List Int)) (w : World) (hB : B ≤ w.heap.size) (h : TblAt B w A rows) (hl : ∀ r ∈ rows, r.length ≤ 30) :
    Calls Try.prog 21 #[.slice A rows.length c] w fun e w' => ∃ z, e = .returned (.tuple #[.int .i64 z, .int .i64 (vwR rows)]) ∧ ShortR rows z ∧ Below w.heap.size w w' := by
  have cv := Lib.hid (Validate_any A c B rows w h hl)
  by_cases hv : VW rows
  · have hz := vw_ok hv
    rw [hz] at cv ⊢
    obtain ⟨b, off, rfl, hwa⟩ := WaAt.of_tbl h hv
    have cs := Lib.hid (shortest_any b off rows.length c B (wy rows) w hB hwa hv.bd (hv.diag hv.n0) hv.n0 hv.n1)
    have HV := Lib.hid hv
    clear h hl hv hwa hz
    go_enter Try.func21, Try.ntmps21
    go_wp2_with (first | (go_at_call 30; refine cv.out.mono ?_; rintro e w1 ⟨rfl, hw1⟩; obtain rfl := hw1.symm; clear hw1) | (go_at_call 57; refine cs.out.mono ?_; rintro e w1 ⟨z, rfl, hs, hz0, hz1, hb⟩))
    go_ret2
    exact ⟨z, rfl, ⟨fun _ => ⟨hs, hz0, hz1⟩, fun h => absurd HV.out h⟩, hb⟩
  · have hne : (vwR rows != 0) = true := by simpa using vw_ne hv
    have hne2 : (vwR rows == 0) = false := by simpa using vw_ne hv
    have HV := Lib.hid hv
    generalize vwR rows = e0 at cv hne hne2 ⊢
    clear h hl hv
    go_enter Try.func21, Try.ntmps21
    go_wp2_with (go_at_call 30; refine cv.out.mono ?_; rintro e w1 ⟨rfl, hw1⟩; obtain rfl := hw1.symm; clear hw1)
    go_ret2
    exact ⟨0, rfl, ⟨fun h => absurd h HV.out, fun _ => rfl⟩, Below.refl _ _⟩

set_option maxRecDepth 100000 in
set_option maxHeartbeats 1000000 in
theorem Tree_any (A : Option Addr) (c B : Nat) (rows : List (List Int)) (w : World) (hB : B ≤ w.heap.size) (h : TblAt B w A rows) (hl : ∀ r ∈ rows, r.length ≤ 30) :
    Calls Try.prog 19 #[.slice A rows.length c] w fun e w' => ∃ z, e = .returned (.tuple #[.int .i64 z, .int .i64 (vwR rows)]) ∧ TreeR rows z ∧ Below w.heap.size w w' := by
  have cv := Lib.hid (Validate_any A c B rows w h hl)
  by_cases hv : VW rows
  · have hz := vw_ok hv
    rw [hz] at cv ⊢
    obtain ⟨b, off, rfl, hwa⟩ := WaAt.of_tbl h hv
    have hn0 := hv.n0
    have hn7 := hv.n1
    have hwa2 := hwa.below (Below.refl _ _) hB
    have ct : ∀ (A2 : Option Addr) (cp : Nat) (W : World), Below w.heap.size w W → IntsAt W.heap.size W A2 (intL (List.range rows.length)) → rows.length ≤ cp → cp ≤ maxLen → Calls Try.prog 54 #[.slice (some ⟨b, off, none⟩) rows.length c, .slice A2 rows.length cp] W fun e w' => ∃ z, e = .returned (.int .i64 z) ∧ IsTree (wy rows) (fun x => x ∈ List.range rows.length) rows.length z ∧ -18000 ≤ z ∧ z ≤ 18000 ∧ Below W.heap.size W w' := fun A2 cp W hW hI h1 h2 => by
      have := tree_any b off rows.length c cp W.heap.size (wy rows) A2 (List.range rows.length) W 0 1000 (by omega) (by omega) (by omega) (by omega) (Nat.le_refl _) (hwa2.below hW hW.size) hn7 hI List.nodup_range (fun x hx => List.mem_range.1 hx) (by simpa using h1) h2 (by rw [List.length_range]; omega) (fun i k hi hk => hv.bd i k (List.mem_range.1 hi) (List.mem_range.1 hk))
      rw [List.length_range] at this
      exact this
    have CT := Lib.hid ct
    have cs := Lib.hid (fun W => stops_any (some ⟨b, off, none⟩) rows.length c W (by omega))
    have HR := Lib.hid (range_upto hn0)
    have hlu := upto_length rows.length
    have HV := Lib.hid hv
    have HT := Lib.hid (show ∀ z, IsTree (wy rows) (fun x => x ∈ List.range rows.length) rows.length z → -18000 ≤ z → z ≤ 18000 → TreeR rows z from fun z h1 h2 h3 => ⟨fun _ => ⟨h1, h2, h3⟩, fun h => absurd hv h⟩)
    obtain ⟨j0, hj, hy0, hy1, hy2⟩ := info_parts info3
    have hO0 := Lib.hid (World.ownsRow_lit (base := w.heap.size) (size := 1) (e := 3) w #[.int .i64 0] 1 (Nat.le_refl _) (by decide) rfl)
    have HB0 := Lib.hid ((Below.refl w.heap.size w).alloc (Nat.le_refl _) (.cells #[.int .i64 0] 3))
    clear h hl hv hwa hwa2 hz ct
    generalize rows.length = n at cs cv HT HR hn0 hn7 CT hlu ⊢
    go_enter Try.func19, Try.ntmps19
    go_wp2_with (first
      | (go_at_call 30; refine cv.out.mono ?_; rintro e w1 ⟨rfl, hw1⟩; obtain rfl := hw1.symm; clear hw1)
      | (go_at_call 55; refine (cs.out _).mono ?_; rintro e w1 ⟨A1, c1, rfl, hown1, hd1⟩; have HI1 := Lib.hid (IntsAt.of_own (zs := upto n) (by rw [hlu]; exact hown1)); have hO1 := Lib.hid (own_below hO0.out hd1); have HB1 := Lib.hid (HB0.out.trans (hd1.mono HB0.out.size)))
      | (at_builtin; refine wpList_app _ rfl _ _ 28 rfl w.heap.size 3 j0 _ 1 8 Try.underlying28 hj hy0 hy1 hy2 rfl (by decide) _ 1 _ rfl hO1.out A1 (n - 1) c1 ((upto n).map (Value.int .i64)) rfl (by rw [List.length_map, hlu]; omega) (fun e => by have := HI1.out.none_nil e; rw [hlu] at this; exact this) (IntsAt.news HI1.out) (ints_one _) (by omega) (by decide) HB1.out.size n (by omega) ((intL (List.range n)).map (Value.int .i64)) (by rw [HR.out]; rfl) ?_; intro A4 c4 w4 hown4 hg4 hlow4; have HB4 := Lib.hid (HB1.out.grown hg4 HB1.out.size hlow4); have HI4 := Lib.hid (IntsAt.of_own (zs := intL (List.range n)) (by rw [intL_length, List.length_range]; exact hown4)); have HC4 := Lib.hid (own_caps hown4))
      | (go_at_call 54; refine (CT.out _ _ _ HB4.out HI4.out HC4.out.1 HC4.out.2.1).mono ?_; rintro e w5 ⟨z, rfl, ht, hz0, hz1, hb5⟩))
    go_ret2
    exact ⟨z, rfl, HT.out z ht hz0 hz1, HB4.out.trans (hb5.mono HB4.out.size)⟩
  · have hne : (vwR rows != 0) = true := by simpa using vw_ne hv
    have hne2 : (vwR rows == 0) = false := by simpa using vw_ne hv
    have HV := Lib.hid hv
    generalize vwR rows = e0 at cv hne hne2 ⊢
    clear h hl hv
    go_enter Try.func19, Try.ntmps19
    go_wp2_with (go_at_call 30; refine cv.out.mono ?_; rintro e w1 ⟨rfl, hw1⟩; obtain rfl := hw1.symm; clear hw1)
    go_ret2
    exact ⟨0, rfl, ⟨fun h => absurd h HV.out, fun _ => rfl⟩, Below.refl _ _⟩
end Go.Proofs.Ytmodbpglopfghaa
