/- More on rows of a call's own. -/
import Derived.Test.YtmodbpglopfghaaLists
namespace Go.Proofs.Ytmodbpglopfghaa
open Go.RowKit

theorem LstN.own {g : Option Nat} {w : World} {vs : List Value} {os : List (List Int)} {base e c n : Nat} {A : Option Addr} {o : List Int} (h : LstN g w vs os) (hn : o.length = n) (hown : w.ownsRow base e 1 (.slice A n c) n (o.map (Value.int .i64))) (hg : ∀ k, g = some k → k < base) :
    LstN g w (vs ++ [.slice A n c]) (os ++ [o]) := by
  subst hn
  obtain ⟨h1, h2, h3⟩ := own_caps hown
  refine h.snoc (IntsAt.of_own hown) (fun a ha => ?_) h1 h2
  obtain ⟨h4, h5, h6⟩ := h3 a ha
  exact ⟨h5, fun he => by have := hg _ he.symm; omega, h6⟩
theorem keep1 {w1 : World} {p : Addr} {x : Value} (hp : p.block < w1.heap.size) (z0 : w1.cell? p = some x) {W : World} (h : Below w1.heap.size w1 W) : W.cell? p = some x ∧ Below w1.heap.size w1 W := ⟨(h.cell hp).trans z0, h⟩
theorem IntsAt.dropD {B c a : Nat} {w : World} {A : Option Addr} {l : List Int} (h : IntsAt B w A l) (hc : l.length ≤ c) : IntsAt B w (if c = a then A else Option.map (fun x => x.add a) A) (l.drop a) := by
  by_cases hca : c = a
  · rw [if_pos hca]
    have : l.drop a = [] := by apply List.eq_nil_of_length_eq_zero; simp; omega
    rw [this]; exact IntsAt.nil _ _ _
  · rw [if_neg hca]
    by_cases h0 : 0 < l.length
    · obtain ⟨b, off, rfl, _⟩ := h.at h0
      have := h.drop a
      simpa [Addr.add_lit] using this
    · have : l.drop a = [] := by apply List.eq_nil_of_length_eq_zero; simp; omega
      rw [this]; exact IntsAt.nil _ _ _
theorem own_cell {w : World} {base e n c : Nat} {A : Option Addr} {xs : List Value} (h : w.ownsRow base e 1 (.slice A n c) n xs) {k : Nat} (hk : k < n) {u : Value} (hu : xs[k]? = some u) :
    ∃ g, A = some ⟨g, 0, none⟩ ∧ g < w.heap.size ∧ base ≤ g ∧ w.cell? ⟨g, k, none⟩ = some u := by
  rcases h.2 with ⟨e1, e2⟩ | ⟨g, cap, cur, e1, hb, _⟩
  · omega
  · injection e1 with e1 e3 e4
    subst e1 e4
    have := h.cells (g := g) rfl k u hu
    rw [Addr.add_lit, Nat.zero_add] at this
    exact ⟨g, rfl, (h.lt g rfl).2, hb, this⟩
end Go.Proofs.Ytmodbpglopfghaa
