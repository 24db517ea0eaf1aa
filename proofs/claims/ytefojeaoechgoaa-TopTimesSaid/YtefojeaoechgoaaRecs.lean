/- Slices of records in a world: facts and spans. -/
import Derived.Test.YtefojeaoechgoaaApp3
import Derived.Test.YtefojeaoechgoaaPlain
namespace Go.Proofs.Ytefojeaoechgoaa
open Go.RowKit

section
variable {α : Type} {g : α → List Value} {s : Nat}
def flatG (g : α → List Value) (l : List α) : List Value := l.flatMap g
theorem flatG_length (hg : ∀ x, (g x).length = s) : ∀ l : List α, (flatG g l).length = l.length * s
  | [] => by simp [flatG]
  | x :: l => by
    have := flatG_length hg l
    simp only [flatG, List.flatMap_cons, List.length_append, List.length_cons, hg] at this ⊢
    rw [this, Nat.succ_mul]; omega
theorem flatG_get (hg : ∀ x, (g x).length = s) : ∀ (l : List α) (k j : Nat) (hk : k < l.length), j < s → (flatG g l)[k * s + j]? = (g l[k])[j]?
  | x :: l, k, j, hk, hj => by
    simp only [flatG, List.flatMap_cons]
    cases k with
    | zero => rw [List.getElem?_append_left (by rw [hg]; omega)]; simp
    | succ k =>
      have := flatG_get hg l k j (by simpa using hk) hj
      rw [List.getElem?_append_right (by rw [hg, Nat.succ_mul]; omega), hg, show (k + 1) * s + j - s = k * s + j by rw [Nat.succ_mul]; omega]
      simpa [flatG] using this
theorem flatG_append (l m : List α) : flatG g (l ++ m) = flatG g l ++ flatG g m := by simp [flatG]
/-- The slice that begins at A holds the records l. -/
def RecAt (g : α → List Value) (s B : Nat) (w : World) (A : Option Addr) (l : List α) : Prop :=
  ∀ k (hk : k < l.length), ∃ b off, A = some ⟨b, off, none⟩ ∧ b < B ∧ ∀ j, j < s → w.cell? ⟨b, off + k * s + j, none⟩ = (g l[k])[j]?
theorem RecAt.nil (B : Nat) (w : World) (A : Option Addr) : RecAt g s B w A [] := fun k hk => by simp at hk
theorem RecAt.below {B B' : Nat} {w w' : World} {A : Option Addr} {l : List α} (h : RecAt g s B w A l) (hb : Below B w w') (hB : B ≤ B') : RecAt g s B' w' A l := by
  intro k hk
  obtain ⟨b, off, e, h1, h2⟩ := h k hk
  exact ⟨b, off, e, by omega, fun j hj => (hb.cell (p := ⟨b, off + k * s + j, none⟩) h1).trans (h2 j hj)⟩
theorem RecAt.take {B : Nat} {w : World} {A : Option Addr} {l : List α} (h : RecAt g s B w A l) (n : Nat) : RecAt g s B w A (l.take n) := by
  intro k hk
  simp only [List.length_take] at hk
  obtain ⟨b, off, e, h1, h2⟩ := h k (by omega)
  refine ⟨b, off, e, h1, fun j hj => ?_⟩
  rw [List.getElem_take]; exact h2 j hj
theorem RecAt.of_own (hg : ∀ x, (g x).length = s) {w : World} {base e c : Nat} {A : Option Addr} {l : List α} (h : w.ownsRow base e s (.slice A l.length c) l.length (flatG g l)) : RecAt g s w.heap.size w A l := by
  intro k hk
  rcases h.2 with ⟨_, h0⟩ | ⟨gg, cap, cur, hv, _⟩
  · omega
  · have hA : A = some ⟨gg, 0, none⟩ := by injection hv
    subst hA
    refine ⟨gg, 0, rfl, (h.lt gg rfl).2, fun j hj => ?_⟩
    have h1 := flatG_get hg l k j hk hj
    have h2 : (g l[k])[j]? = some ((g l[k])[j]'(by rw [hg]; exact hj)) := List.getElem?_eq_getElem _
    rw [h2] at h1
    have := h.cells (g := gg) rfl (k * s + j) _ h1
    rw [Addr.add_lit] at this
    rw [h2, ← this, Nat.add_assoc]
theorem RecAt.news (hg : ∀ x, (g x).length = s) {B : Nat} {w : World} {A : Option Addr} {l : List α} (h : RecAt g s B w A l) : ∀ ad, A = some ad → ∀ j u, (flatG g l)[j]? = some u → w.cell? (ad.add j) = some u := by
  intro ad hA j u hj
  have hlt : j < l.length * s := by rw [← flatG_length hg]; exact (List.getElem?_eq_some_iff.1 hj).1
  have hs : 0 < s := by
    rcases Nat.eq_zero_or_pos s with h0 | h0
    · subst h0; simp at hlt
    · exact h0
  have hk : j / s < l.length := (Nat.div_lt_iff_lt_mul hs).2 hlt
  obtain ⟨b, off, e, hb, hc⟩ := h (j / s) hk
  obtain rfl : ad = ⟨b, off, none⟩ := by rw [hA] at e; injection e
  have h1 := hc (j % s) (Nat.mod_lt _ hs)
  have h2 := flatG_get hg l (j / s) (j % s) hk (Nat.mod_lt _ hs)
  have h3 : j / s * s + j % s = j := by rw [Nat.mul_comm]; exact Nat.div_add_mod j s
  rw [Addr.add_lit, ← hj]
  rw [Nat.add_assoc, h3] at h1
  rw [h3] at h2
  rw [h1, h2]
theorem RecAt.none_nil {B : Nat} {w : World} {A : Option Addr} {l : List α} (h : RecAt g s B w A l) : A = none → l.length = 0 := by
  intro hA
  cases hl : l.length with
  | zero => rfl
  | succ n =>
    obtain ⟨b, off, e, _⟩ := h 0 (by omega)
    rw [hA] at e; cases e
end

def cF (x : Fc) : List Value := [.int .i64 x.a, .int .i64 x.c, .int .i64 x.f, .int .i64 x.t, .int .i64 x.m]
theorem cF_length (x : Fc) : (cF x).length = 5 := rfl
theorem flatF_one (l : List Fc) : ∀ u ∈ flatG cF l, u.oneCell' = true := by
  intro u hu
  simp only [flatG, List.mem_flatMap] at hu
  obtain ⟨x, _, hx⟩ := hu
  simp [cF] at hx
  rcases hx with rfl | rfl | rfl | rfl | rfl <;> rfl
abbrev FactsAt (B : Nat) (w : World) (A : Option Addr) (l : List Fc) : Prop := RecAt cF 5 B w A l
theorem FactsAt.at {B : Nat} {w : World} {A : Option Addr} {l : List Fc} (h : FactsAt B w A l) {k : Nat} (hk : k < l.length) :
    ∃ b off, A = some ⟨b, off, none⟩ ∧ b < B ∧ w.cell? ⟨b, off + k * 5, none⟩ = some (.int .i64 l[k].a) ∧ w.cell? ⟨b, off + k * 5 + 1, none⟩ = some (.int .i64 l[k].c) ∧ w.cell? ⟨b, off + k * 5 + 2, none⟩ = some (.int .i64 l[k].f) ∧
      w.cell? ⟨b, off + k * 5 + 3, none⟩ = some (.int .i64 l[k].t) ∧ w.cell? ⟨b, off + k * 5 + 4, none⟩ = some (.int .i64 l[k].m) := by
  obtain ⟨b, off, e, hb, hc⟩ := h k hk
  exact ⟨b, off, e, hb, hc 0 (by omega), hc 1 (by omega), hc 2 (by omega), hc 3 (by omega), hc 4 (by omega)⟩
/-- The fact as a value. -/
def vF (x : Fc) : Value := .agg #[.int .i64 x.a, .int .i64 x.c, .int .i64 x.f, .int .i64 x.t, .int .i64 x.m]
/-- A span: its days from and to, and the meal. -/
structure Sp where
  f : Int
  t : Int
  m : Int
deriving DecidableEq
def cS (x : Sp) : List Value := [.int .i64 x.f, .int .i64 x.t, .int .i64 x.m]
theorem cS_length (x : Sp) : (cS x).length = 3 := rfl
abbrev SpansAt (B : Nat) (w : World) (A : Option Addr) (l : List Sp) : Prop := RecAt cS 3 B w A l
theorem SpansAt.at {B : Nat} {w : World} {A : Option Addr} {l : List Sp} (h : SpansAt B w A l) {k : Nat} (hk : k < l.length) :
    ∃ b off, A = some ⟨b, off, none⟩ ∧ b < B ∧ w.cell? ⟨b, off + k * 3, none⟩ = some (.int .i64 l[k].f) ∧ w.cell? ⟨b, off + k * 3 + 1, none⟩ = some (.int .i64 l[k].t) ∧ w.cell? ⟨b, off + k * 3 + 2, none⟩ = some (.int .i64 l[k].m) := by
  obtain ⟨b, off, e, hb, hc⟩ := h k hk
  exact ⟨b, off, e, hb, hc 0 (by omega), hc 1 (by omega), hc 2 (by omega)⟩
end Go.Proofs.Ytefojeaoechgoaa
