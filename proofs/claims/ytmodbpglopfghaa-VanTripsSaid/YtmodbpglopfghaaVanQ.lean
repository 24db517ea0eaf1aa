/- The reference's Tree; the chapter's first example. -/
import Derived.Test.YtmodbpglopfghaaVanP
set_option linter.unusedSimpArgs false
set_option linter.unusedVariables false
namespace Go.Proofs.Ytmodbpglopfghaa
open Go.RowKit

theorem IsTree.congrV {f : Nat → Nat → Int} {V V' : Nat → Prop} {N : Nat} {S : Int} (h : IsTree f V N S) (hv : ∀ x, V x ↔ V' x) : IsTree f V' N S := by
  have : V = V' := by funext x; exact propext (hv x)
  rw [← this]; exact h
set_option maxRecDepth 100000 in
set_option maxHeartbeats 1000000 in
theorem Tree_ref (A : Option Addr) (c B : Nat) (rows : List (List Int)) (w : World) (hB : B ≤ w.heap.size) (h : TblAt B w A rows) (hl : rows.length ≤ 30 ∧ ∀ r ∈ rows, r.length ≤ 30) :
    Calls Try.prog 20 #[.slice A rows.length c] w fun e w' => ∃ z, e = .returned (.tuple #[.int .i64 z, .int .i64 (vwR rows)]) ∧ TreeR rows z ∧ Below w.heap.size w w' := by
  have cv := Lib.hid (Validate_ref A c B rows w hB h hl)
  by_cases hv : VW rows
  · rw [vw_ok hv] at cv ⊢
    obtain ⟨b, off, rfl, hwa⟩ := WaAt.of_tbl h hv
    have hwa2 := hwa.below (Below.refl _ _) hB
    have cg : ∀ W, Below w.heap.size w W → Calls Try.prog 56 #[.slice (some ⟨b, off, none⟩) rows.length c, .int .i64 0] W fun e w' => ∃ z, e = .returned (.int .i64 z) ∧ TreeR rows z ∧ Below W.heap.size W w' := fun W hW =>
      (grown_ref b off rows.length c 0 w.heap.size (wy rows) W 0 1000 (by omega) (by omega) (by omega) (by omega) hW.size (hwa2.below hW (Nat.le_refl _)) hv.n1 hv.n0 (fun i k hi hk => hv.bd i k (mem_frm.1 hi).2 (mem_frm.1 hk).2)).mono fun e w' ⟨z, h1, h2, h3, h4, h5⟩ =>
        ⟨z, h1, ⟨fun _ => ⟨h2.congrV fun x => by rw [mem_frm, List.mem_range]; omega, h3, h4⟩, fun h => absurd hv h⟩, h5⟩
    have CG := Lib.hid cg
    clear h hl hv hwa hwa2 cg
    go_enter Try.func20, Try.ntmps20
    go_wp2_with (first | (go_at_call 31; refine cv.out.mono ?_; rintro e w1 ⟨rfl, hb1⟩) | (go_at_call 56; refine (CG.out _ hb1).mono ?_; rintro e w2 ⟨z, rfl, ht, hb2⟩))
    go_ret2
    exact ⟨z, rfl, ht, hb1.trans (hb2.mono hb1.size)⟩
  · have hne : (vwR rows != 0) = true := by simpa using vw_ne hv
    have hne2 : (vwR rows == 0) = false := by simpa using vw_ne hv
    have HV := Lib.hid hv
    generalize vwR rows = e0 at cv hne hne2 ⊢
    clear h hl hv
    go_enter Try.func20, Try.ntmps20
    go_wp2_with (go_at_call 31; refine cv.out.mono ?_; rintro e w1 ⟨rfl, hb1⟩)
    go_ret2
    exact ⟨0, rfl, ⟨fun h => absurd h HV.out, fun _ => rfl⟩, hb1⟩
theorem TreeR.unique {rows : List (List Int)} {y z : Int} (h : TreeR rows y) (h' : TreeR rows z) : y = z := by
  by_cases hv : VW rows
  · exact (h.1 hv).1.unique (h'.1 hv).1 (lo := 0) (d := 1000) (fun i k hi hk => hv.sym i k (List.mem_range.1 hi) (List.mem_range.1 hk)) (fun i k hi hk => by have := hv.bd i k (List.mem_range.1 hi) (List.mem_range.1 hk); omega)
  · rw [h.2 hv, h'.2 hv]
theorem ShortR.unique {rows : List (List Int)} {y z : Int} (h : ShortR rows y) (h' : ShortR rows z) : y = z := by
  by_cases hv : VW rows
  · exact (h.1 hv).1.unique (h'.1 hv).1
  · rw [h.2 hv, h'.2 hv]
theorem BdIs.unique {n : Nat} {f : Nat → Nat → Int} {p : List Int} {y z : Int} (h : BdIs n f p y) (h' : BdIs n f p z) (hs : ∀ i k, i < n → k < n → f i k = f k i) (hb : ∀ i k, i < n → k < n → -2000 ≤ cg f p i k ∧ cg f p i k ≤ 3000) : y = z := by
  obtain ⟨T, t, h1, h2, h3⟩ := h
  obtain ⟨T', t', h4, h5, h6⟩ := h'
  have e1 := h1.unique h4 (lo := -2000) (d := 5000) (fun i k hi hk => by unfold cg; rw [hs i k (mem_frm.1 hi).2 (mem_frm.1 hk).2]; omega) (fun i k hi hk => by have := hb i k (mem_frm.1 hi).2 (mem_frm.1 hk).2; omega)
  have e2 := h2.unique h5
  omega
theorem BoundR.unique {rows : List (List Int)} {p : List Int} {y z : Int} (h : BoundR rows p y) (h' : BoundR rows p z) : y = z := by
  by_cases hv : WG rows p
  · exact (h.1 hv).1.unique (h'.1 hv).1 hv.vw.sym (fun i k hi hk => cg_bd hv.vw.bd hv.ok hv.len hi hk)
  · rw [h.2 hv, h'.2 hv]

def rowsK : List (List Int) := [[0, 3, 4], [3, 0, 5], [4, 5, 0]]
theorem vwK : VW rowsK := ⟨by decide, by decide, by decide, by
  have : ∀ i, i < 3 → ∀ j, j < 3 → okP rowsK i j := by decide
  exact fun i j hi hj => this i hi j hj⟩
theorem wgK : WG rowsK [0, 0, 0] := ⟨vwK, by decide, rfl, by decide⟩
theorem shortK {z : Int} (h : ShortR rowsK z) : z = 12 := by
  refine (h.1 vwK).1.unique ⟨fun t ht => ?_, [1, 2], ⟨⟨by decide, by decide⟩, rfl⟩, by decide⟩
  obtain ⟨⟨hn, hr⟩, hl⟩ := ht
  match t, hl with
  | [a, b], _ =>
    have h1 := hr a (by simp)
    have h2 := hr b (by simp)
    have h3 : a ≠ b := by simpa using hn
    have : (a = 1 ∧ b = 2) ∨ (a = 2 ∧ b = 1) := by
      have : rowsK.length = 3 := rfl
      omega
    rcases this with ⟨rfl, rfl⟩ | ⟨rfl, rfl⟩ <;> decide
theorem treeK {z : Int} (h : TreeR rowsK z) : z = 7 := by
  refine h.unique (z := 7) ⟨fun _ => ⟨⟨0, [(0, 1), (0, 2)], by decide, ?_, by decide, by decide, by decide⟩, by decide, by decide⟩, fun h => absurd vwK h⟩
  have m3 : ∀ k, k ∈ List.range rowsK.length → k = 0 ∨ k = 1 ∨ k = 2 := fun k hk => by
    have := List.mem_range.1 hk
    have : rowsK.length = 3 := rfl
    omega
  refine ⟨rfl, by decide, by decide, fun i k hi hk hn => ?_, .inl rfl, by decide, by simp, fun i k hi hk hn => ?_, fun x hx => ?_⟩
  · subst hi
    rcases m3 k hk with rfl | rfl | rfl
    · exact absurd rfl hn
    · decide
    · decide
  · rcases m3 k hk with rfl | rfl | rfl
    · exact absurd (.inl rfl) hn
    · exact absurd (.inr rfl) hn
    · rcases hi with rfl | rfl
      · decide
      · decide
  · rcases m3 x hx with rfl | rfl | rfl
    · exact .inl (.inl rfl)
    · exact .inl (.inr rfl)
    · exact .inr rfl
theorem boundK {z : Int} (h : BoundR rowsK [0, 0, 0] z) : z = 12 := by
  refine h.unique (z := 12) ⟨fun _ => ⟨⟨5, 7, ⟨1, [(1, 2)], by decide, ?_, by decide, by decide, by decide⟩, ⟨fun i k h1 h2 h3 => ?_, 2, 1, by decide, by decide, by decide, by decide⟩, by decide⟩, by decide, by decide⟩, fun h => absurd wgK h⟩
  · have m3 : ∀ k, k ∈ frm 1 rowsK.length → k = 1 ∨ k = 2 := fun k hk => by
      have := mem_frm.1 hk
      have : rowsK.length = 3 := rfl
      omega
    refine ⟨rfl, by decide, by decide, fun i k hi hk hn => ?_, fun x hx => ?_⟩
    · subst hi
      rcases m3 k hk with rfl | rfl
      · exact absurd rfl hn
      · decide
    · rcases m3 x hx with rfl | rfl
      · exact .inl rfl
      · exact .inr rfl
  · have : rowsK.length = 3 := rfl
    obtain ⟨rfl, rfl⟩ : i = 2 ∧ k = 1 := by omega
    decide
end Go.Proofs.Ytmodbpglopfghaa
