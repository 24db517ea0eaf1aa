/- The tours that a search goes through; the earliest of some tours: plain. -/
import Derived.Test.YtmodbpglopfghaaVanBb
import Derived.Test.YtmodbpglopfghaaVanAs
set_option linter.unusedSimpArgs false
set_option linter.unusedVariables false
namespace Go.Proofs.Ytmodbpglopfghaa
open Go.RowKit

theorem uptN65_frm (n : Nat) : uptN65 n = frm 1 n := by
  unfold uptN65 frm
  rw [List.range'_eq_map_range]
  apply List.map_congr_left
  intro x _
  omega
theorem exts_tour {n : Nat} {s : List Nat} : s ∈ exts (n - 1) [] (frm 1 n) ↔ Tour n s := by
  rw [exts_mem _ _ _ (frm_length 1 n)]
  constructor
  · rintro ⟨p, hp, rfl⟩
    simpa using frm_tour hp
  · intro h
    exact ⟨s, h.perm, by simp⟩

/-- The earliest of some tours: -1 if none keeps its windows. -/
def ErIs (ok : List Nat → Bool) (bk : List Nat → Int) (P : List Nat → Prop) (z : Int) : Prop :=
  (z = -1 ∧ ∀ t, P t → ok t = false) ∨ (0 ≤ z ∧ (∃ t, P t ∧ ok t = true ∧ bk t = z) ∧ ∀ t, P t → ok t = true → z ≤ bk t)
section
variable {ok : List Nat → Bool} {bk : List Nat → Int} {P P' : List Nat → Prop} {z y : Int} {t : List Nat}
theorem ErIs.nil : ErIs ok bk (fun _ => False) (-1) := .inl ⟨rfl, fun _ h => h.elim⟩
theorem ErIs.congr (h : ErIs ok bk P z) (e : ∀ t, P t ↔ P' t) : ErIs ok bk P' z := by
  have : P = P' := by funext x; exact propext (e x)
  rw [← this]; exact h
theorem ErIs.skip (h : ErIs ok bk P z) (hs : ok t = false ∨ (0 ≤ z ∧ z ≤ bk t)) : ErIs ok bk (fun s => P s ∨ s = t) z := by
  rcases h with ⟨rfl, h1⟩ | ⟨h0, ⟨s, hs1, hs2, hs3⟩, h2⟩
  · refine .inl ⟨rfl, fun s hs' => ?_⟩
    rcases hs' with h | rfl
    · exact h1 s h
    · rcases hs with h | ⟨h, _⟩
      · exact h
      · exact absurd h (by decide)
  · refine .inr ⟨h0, ⟨s, .inl hs1, hs2, hs3⟩, fun s' hs' hok => ?_⟩
    rcases hs' with h | rfl
    · exact h2 s' h hok
    · rcases hs with h | ⟨_, h⟩
      · rw [h] at hok; cases hok
      · exact h
theorem ErIs.take (h : ErIs ok bk P z) (hok : ok t = true) (hz : z < 0 ∨ bk t < z) (h0 : 0 ≤ bk t) : ErIs ok bk (fun s => P s ∨ s = t) (bk t) := by
  refine .inr ⟨h0, ⟨t, .inr rfl, hok, rfl⟩, fun s hs hos => ?_⟩
  rcases hs with hs | rfl
  · rcases h with ⟨rfl, h1⟩ | ⟨h0', _, h2⟩
    · rw [h1 s hs] at hos; cases hos
    · have := h2 s hs hos
      omega
  · exact Int.le_refl _
theorem ErIs.unique (h : ErIs ok bk P z) (h' : ErIs ok bk P y) : z = y := by
  rcases h with ⟨rfl, h1⟩ | ⟨h0, ⟨t, ht1, ht2, ht3⟩, h2⟩
  · rcases h' with ⟨rfl, _⟩ | ⟨_, ⟨t, ht1, ht2, _⟩, _⟩
    · rfl
    · rw [h1 t ht1] at ht2; cases ht2
  · rcases h' with ⟨rfl, h1⟩ | ⟨_, ⟨s, hs1, hs2, hs3⟩, h3⟩
    · rw [h1 t ht1] at ht2; cases ht2
    · have a1 := h2 s hs1 hs2
      have a2 := h3 t ht1 ht2
      omega
end
/-- A tour of all stops keeps its windows; when it is back. -/
def okT (f g : Nat → Nat → Int) (bg : Int) (t : List Nat) : Bool := decide (ltR f g bg t = -1)
theorem bkT_nn {n : Nat} {f g : Nat → Nat → Int} {bg : Int} {t : List Nat} (hf : ∀ i j, i < n → j < n → 0 ≤ f i j ∧ f i j ≤ 1000) (hg : VS n g) (h : ∀ x ∈ t, x < n) (hn : 1 ≤ n) (hb : 0 ≤ bg ∧ bg ≤ 10000) : 0 ≤ bkT f g bg t ∧ bkT f g bg t ≤ 11000 + 21000 * (t.length : Int) := by
  have h1 := nowT_bd hf hg h hn hb t.length (Nat.le_refl _)
  have h2 := hf _ 0 (atT_lt h hn t.length) hn
  unfold bkT
  omega
/-- A drive takes no less than the ways. -/
theorem nowT_len {n : Nat} {f g : Nat → Nat → Int} {bg : Int} {t : List Nat} (hg : VS n g) (h : ∀ x ∈ t, x < n) : ∀ k, k ≤ t.length → bg + lnT f t k ≤ nowT f g bg t k
  | 0, _ => by rw [lnT_zero]; simp [nowT]
  | k + 1, hk => by
    have ih := nowT_len (f := f) (bg := bg) hg h k (by omega)
    have h3 := (hg _ (h t[k] (List.getElem_mem (by omega)))).1 2 (by omega)
    rw [nowT_succ (by omega), lnT_succ (by omega)]
    unfold arr
    omega
theorem bkT_len {n : Nat} {f g : Nat → Nat → Int} {bg : Int} {t : List Nat} (hg : VS n g) (h : ∀ x ∈ t, x < n) : bg + lenF f 0 t ≤ bkT f g bg t := by
  have := nowT_len (f := f) (bg := bg) hg h t.length (Nat.le_refl _)
  rw [lnT_all]
  unfold bkT
  omega
end Go.Proofs.Ytmodbpglopfghaa
