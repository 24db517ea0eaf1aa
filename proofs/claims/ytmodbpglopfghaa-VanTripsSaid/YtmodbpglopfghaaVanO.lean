/- The reference's bound of potentials. -/
import Derived.Test.YtmodbpglopfghaaVanN
set_option linter.unusedSimpArgs false
set_option linter.unusedVariables false
namespace Go.Proofs.Ytmodbpglopfghaa
open Go.RowKit

/-- A square table of a call's own, which may be written. -/
def MT (base g n : Nat) (f : Nat → Nat → Int) (w : World) : Prop := base ≤ g ∧ g < w.heap.size ∧ ∃ bs : Nat → Nat,
  (∀ i, i < n → base ≤ bs i ∧ bs i ≠ g ∧ bs i < w.heap.size) ∧ (∀ i k, i < n → k < n → i ≠ k → bs i ≠ bs k) ∧
  ∀ i, i < n → (∃ c, w.cell? ⟨g, i, none⟩ = some (.slice (some ⟨bs i, 0, none⟩) n c)) ∧ ∀ j, j < n → w.cell? ⟨bs i, j, none⟩ = some (.int .i64 (f i j)) ∧ w.frozen? ⟨bs i, j, none⟩ = false
theorem MT.keep {base g n : Nat} {f : Nat → Nat → Int} {w w' : World} (h : MT base g n f w) (hb : Below w.heap.size w w') : MT base g n f w' := by
  obtain ⟨h1, h2, bs, h3, h4, h5⟩ := h
  refine ⟨h1, Nat.lt_of_lt_of_le h2 hb.size, bs, fun i hi => ⟨(h3 i hi).1, (h3 i hi).2.1, Nat.lt_of_lt_of_le (h3 i hi).2.2 hb.size⟩, h4, fun i hi => ?_⟩
  obtain ⟨⟨c, h6⟩, h7⟩ := h5 i hi
  refine ⟨⟨c, (hb.cell (p := ⟨g, i, none⟩) h2).trans h6⟩, fun j hj => ⟨(hb.cell (p := ⟨bs i, j, none⟩) (h3 i hi).2.2).trans (h7 j hj).1, (frozen_block (hb.block (bs i) (h3 i hi).2.2)).trans (h7 j hj).2⟩⟩
theorem MT.wa {base g n : Nat} {f : Nat → Nat → Int} {w : World} (h : MT base g n f w) : WaAt w.heap.size w g 0 n f := by
  obtain ⟨h1, h2, bs, h3, h4, h5⟩ := h
  refine ⟨h2, fun i hi => ?_⟩
  obtain ⟨⟨c, h6⟩, h7⟩ := h5 i hi
  exact ⟨bs i, 0, c, (h3 i hi).2.2, by rw [Nat.zero_add]; exact h6, fun j hj => by rw [Nat.zero_add]; exact (h7 j hj).1⟩
theorem frozen_set {w : World} {b j b' j' : Nat} {v : Value} : (w.setCell ⟨b, j, none⟩ v).frozen? ⟨b', j', none⟩ = w.frozen? ⟨b', j', none⟩ := World.frozen?_setCell ..
theorem MT.at {base g n : Nat} {f : Nat → Nat → Int} {w : World} (h : MT base g n f w) {i : Nat} (hi : i < n) : ∃ b c, base ≤ b ∧ b < w.heap.size ∧ w.cell? ⟨g, i, none⟩ = some (.slice (some ⟨b, 0, none⟩) n c) ∧
    (∀ j, j < n → w.cell? ⟨b, j, none⟩ = some (.int .i64 (f i j)) ∧ w.frozen? ⟨b, j, none⟩ = false) ∧
    ∀ (f' : Nat → Nat → Int) j, j < n → (∀ i' j', i' < n → j' < n → ¬ (i' = i ∧ j' = j) → f' i' j' = f i' j') → MT base g n f' (w.setCell ⟨b, j, none⟩ (.int .i64 (f' i j))) := by
  obtain ⟨h1, h2, bs, h3, h4, h5⟩ := h
  obtain ⟨⟨c, h6⟩, h7⟩ := h5 i hi
  refine ⟨bs i, c, (h3 i hi).1, (h3 i hi).2.2, h6, h7, fun f' j hj hf => ?_⟩
  refine ⟨h1, by simpa [World.setCell] using h2, bs, fun k hk => ⟨(h3 k hk).1, (h3 k hk).2.1, by simpa [World.setCell] using (h3 k hk).2.2⟩, h4, fun k hk => ?_⟩
  obtain ⟨⟨c', h8⟩, h9⟩ := h5 k hk
  refine ⟨⟨c', ?_⟩, fun m hm => ⟨?_, ?_⟩⟩
  · rw [World.cell?_of_block (a := ⟨g, k, none⟩) (Below.heap_setCell w _ _ g (by simpa using (h3 i hi).2.1.symm))]; exact h8
  · by_cases hki : k = i
    · subst hki
      by_cases hmj : m = j
      · subst hmj
        exact World.cell?_setCell_same' _ _ _ (by rw [(h9 m hm).1]; rfl)
      · rw [World.cell?_setCell_other _ _ _ _ (show (⟨bs k, j, none⟩ : Addr) ≠ ⟨bs k, m, none⟩ from fun e => hmj (by injection e with _ e; exact e.symm)), (h9 m hm).1, hf k m hk hm (fun e => hmj e.2)]
    · rw [World.cell?_of_block (a := ⟨bs k, m, none⟩) (Below.heap_setCell w _ _ (bs k) (by simpa using h4 k i hk hi hki)), (h9 m hm).1, hf k m hk hm (fun e => hki e.1)]
  · rw [frozen_set]; exact (h9 m hm).2

theorem MT.of_copy {base n c : Nat} {A : Option Addr} {w : World} {vs : List Value} {rows : List (List Int)} (hn : rows.length = n) (h0 : 1 ≤ n) (hl : ∀ r ∈ rows, r.length = n) (hown : w.ownsRow base 28 1 (.slice A n c) n vs) (hR : RowsOwn base (Value.slice A n c).ownBlock w vs rows) :
    ∃ g, A = some ⟨g, 0, none⟩ ∧ MT base g n (wy rows) w := by
  subst hn
  have key : ∀ i, ∃ b, i < rows.length → ∃ c', vs[i]? = some (.slice (some ⟨b, 0, none⟩) rows.length c') ∧ w.ownsRow base 3 1 (.slice (some ⟨b, 0, none⟩) rows.length c') rows.length (rows[i]!.map (Value.int .i64)) ∧ (Value.slice A rows.length c).ownBlock ≠ some b := fun i => by
    by_cases hi : i < rows.length
    · obtain ⟨A', c', h1, h2, h3⟩ := hR.2.1 i hi
      have hri := hl _ (List.getElem_mem hi)
      rw [hri] at h1 h2 h3
      obtain ⟨b, rfl, _⟩ := own_cell h2 (k := 0) (u := .int .i64 (wy rows i 0)) (by omega) (by simp [wy, hi, hri, show 0 < rows.length by omega])
      refine ⟨b, fun _ => ⟨c', h1, ?_, h3 b rfl⟩⟩
      rw [show rows[i]! = rows[i] by simp [hi]]
      exact h2
    · exact ⟨0, fun h => absurd h hi⟩
  obtain ⟨bs, hb⟩ : ∃ bs : Nat → Nat, ∀ i, i < rows.length → ∃ c', vs[i]? = some (.slice (some ⟨bs i, 0, none⟩) rows.length c') ∧ w.ownsRow base 3 1 (.slice (some ⟨bs i, 0, none⟩) rows.length c') rows.length (rows[i]!.map (Value.int .i64)) ∧ (Value.slice A rows.length c).ownBlock ≠ some (bs i) :=
    ⟨fun i => Classical.choose (key i), fun i hi => Classical.choose_spec (key i) hi⟩
  obtain ⟨c0, q1, _, _⟩ := hb 0 (by omega)
  obtain ⟨g, rfl, hg, hgb, _⟩ := own_cell hown (k := 0) (by omega) q1
  refine ⟨g, rfl, hgb, hg, bs, fun i hi => ?_, fun i k hi hk hne e => ?_, fun i hi => ?_⟩
  · obtain ⟨c', r1, r2, r3⟩ := hb i hi
    have := r2.lt _ rfl
    exact ⟨this.1, fun e => r3 (by rw [e]; rfl), this.2⟩
  · obtain ⟨c1, r1, r2, r3⟩ := hb i hi
    obtain ⟨c2, s1, s2, s3⟩ := hb k hk
    rcases Nat.lt_or_ge i k with h | h
    · exact hR.2.2 i k _ _ h r1 s1 _ rfl (by rw [e]; rfl)
    · exact hR.2.2 k i _ _ (by omega) s1 r1 _ rfl (by rw [← e]; rfl)
  · obtain ⟨c', r1, r2, r3⟩ := hb i hi
    have hri := hl _ (List.getElem_mem hi)
    refine ⟨⟨c', ?_⟩, fun j hj => ⟨?_, ?_⟩⟩
    · obtain ⟨g', e', _, _, h4⟩ := own_cell hown (k := i) hi r1
      injection e' with e'
      injection e' with e'
      subst e'; exact h4
    · obtain ⟨g', e', _, _, h4⟩ := own_cell r2 (k := j) (u := .int .i64 (wy rows i j)) hj (by simp [wy, hi, show j < rows[i].length by omega])
      injection e' with e'
      injection e' with e'
      subst e'; exact h4
    · rcases r2.2 with ⟨h, _⟩ | ⟨g', cap, cur, h, _, h5, _⟩
      · cases h
      · injection h with h
        injection h with h
        injection h with h
        rw [h]
        exact Blk.frozen (show Blk w g' 3 cur from h5) j
end Go.Proofs.Ytmodbpglopfghaa
