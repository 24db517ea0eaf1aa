/- A shortest tour is no shorter than the tree, nor than the bound of any potentials; plain. -/
import Derived.Test.YtmodbpglopfghaaVanR
set_option linter.unusedSimpArgs false
set_option linter.unusedVariables false
namespace Go.Proofs.Ytmodbpglopfghaa
open Go.RowKit

theorem Tour.perm {n : Nat} {t : List Nat} (h : Tour n t) : t.Perm (frm 1 n) := by
  refine (List.perm_ext_iff_of_nodup h.1.1 List.nodup_range').2 fun x => ?_
  show _ ↔ x ∈ frm 1 n
  rw [mem_frm]
  exact ⟨fun hx => h.1.2 x hx, fun hx => h.mem hx.1 hx.2⟩
theorem last_mem {t : List Nat} {a : Nat} : t.getLast?.getD a = a ∨ t.getLast?.getD a ∈ t := by
  cases h : t.getLast? with
  | none => exact .inl rfl
  | some x => exact .inr (List.mem_of_getLast? h)
/-- A shortest tour is no shorter than the tree. -/
theorem short_tree {n : Nat} {f : Nat → Nat → Int} {T z : Int} (h : IsTree f (fun x => x ∈ List.range n) n T) (hz : IsShort n f z) (hs : ∀ i k, i < n → k < n → f i k = f k i) (hb : ∀ i k, i < n → k < n → 0 ≤ f i k ∧ f i k ≤ 1000) (hn : 1 ≤ n) : T ≤ z := by
  obtain ⟨t, ht, rfl⟩ := hz.2
  have hv : ∀ x ∈ t, x ∈ List.range n := fun x hx => List.mem_range.2 (ht.1.2 x hx).2
  have h0 : (0 : Nat) ∈ List.range n := List.mem_range.2 hn
  have := h.le (lo := 0) (d := 1000) (r' := 0) (es' := pathE 0 t) (fun i k hi hk => hs i k (List.mem_range.1 hi) (List.mem_range.1 hk)) (fun i k hi hk => by have := hb i k (List.mem_range.1 hi) (List.mem_range.1 hk); omega) h0
    (pathE_spans t 0 _ rfl hv fun x hx => by
      have := List.mem_range.1 hx
      rcases Nat.eq_zero_or_pos x with h | h
      · exact .inl h
      · exact .inr (ht.mem h this)) (by rw [pathE_length, ht.2]; omega) (pathE_mem t 0 h0 hv)
  rw [pathE_cost]
  have hl : t.getLast?.getD 0 < n := by
    rcases last_mem (t := t) (a := 0) with h | h
    · rw [h]; exact hn
    · exact (ht.1.2 _ h).2
  have := (hb (t.getLast?.getD 0) 0 hl hn).1
  omega
theorem len_cg (f : Nat → Nat → Int) (p : List Int) : ∀ (t : List Nat) (a : Nat), lenF (cg f p) a t = lenF f a t + p[a]?.getD 0 + p[0]?.getD 0 + 2 * (t.map fun x => p[x]?.getD 0).sum
  | [], a => by simp [lenF, cg]
  | s :: r, a => by
    have := len_cg f p r s
    simp only [lenF, List.map_cons, List.sum_cons]
    rw [this]
    simp only [cg]
    omega
theorem perm_sum {l l' : List Int} (h : l.Perm l') : l.sum = l'.sum := by
  induction h with
  | nil => rfl
  | cons x _ ih => simp [ih]
  | swap x y l => simp; omega
  | trans _ _ h1 h2 => exact h1.trans h2
theorem sum_frm (p : List Int) (h : 1 ≤ p.length) : p[0]?.getD 0 + ((frm 1 p.length).map fun x => p[x]?.getD 0).sum = p.sum := by
  cases p with
  | nil => simp at h
  | cons x r =>
    have e : (frm 1 (x :: r).length).map (fun k => (x :: r)[k]?.getD 0) = r := by
      apply List.ext_getElem
      · simp [frm]
      · intro k h1 h2
        simp [frm]
        rw [show 1 + k = k + 1 by omega]
        simp [h2]
    rw [e]; simp
/-- A shortest tour is no shorter than the bound of potentials. -/
theorem short_bound {n : Nat} {f : Nat → Nat → Int} {p : List Int} {b z : Int} (h : BdIs n f p b) (hz : IsShort n f z) (hs : ∀ i k, i < n → k < n → f i k = f k i) (hb : ∀ i k, i < n → k < n → -2000 ≤ cg f p i k ∧ cg f p i k ≤ 3000) (hn : 3 ≤ n) (hl : p.length = n) : b ≤ z := by
  obtain ⟨T, t2, h1, h2, rfl⟩ := h
  obtain ⟨t, ht, rfl⟩ := hz.2
  have hlen := ht.2
  cases t with
  | nil => simp at hlen; omega
  | cons s r =>
    have hv : ∀ x ∈ s :: r, x ∈ frm 1 n := fun x hx => mem_frm.2 (ht.1.2 x hx)
    have hsm : s ∈ frm 1 n := hv s (by simp)
    have hle := h1.le (lo := -2000) (d := 5000) (r' := s) (es' := pathE s r) (fun i k hi hk => by unfold cg; rw [hs i k (mem_frm.1 hi).2 (mem_frm.1 hk).2]; omega) (fun i k hi hk => by have := hb i k (mem_frm.1 hi).2 (mem_frm.1 hk).2; omega) hsm
      (pathE_spans r s _ rfl (fun x hx => hv x (by simp [hx])) fun x hx => by
        have := ht.mem (mem_frm.1 hx).1 (mem_frm.1 hx).2
        rcases List.mem_cons.1 this with h | h
        · exact .inl h
        · exact .inr h) (by rw [pathE_length]; simp at hlen; omega) (pathE_mem r s hsm fun x hx => hv x (by simp [hx]))
    have hc := len_cg f p (s :: r) 0
    have hsum := sum_frm p (by omega)
    have hps := perm_sum (ht.perm.map fun x => p[x]?.getD 0)
    rw [hl] at hsum
    have e1 : lenF (cg f p) 0 (s :: r) = cg f p 0 s + (cost (cg f p) (pathE s r) + cg f p (r.getLast?.getD s) 0) := by
      show cg f p 0 s + lenF (cg f p) s r = _
      rw [pathE_cost]
    have hne : r ≠ [] := fun e => by rw [e] at hlen; simp at hlen; omega
    have hlast : r.getLast?.getD s ∈ r := by
      rw [List.getLast?_eq_some_getLast hne]
      exact List.getLast_mem hne
    have hls := ht.1.2 _ (List.mem_cons_of_mem s hlast)
    have hss := ht.1.2 s (by simp)
    have hsl : s ≠ r.getLast?.getD s := fun e => (List.nodup_cons.1 ht.1.1).1 (Eq.mp (congrArg (fun x => x ∈ r) e.symm) hlast)
    have hsy : cg f p (r.getLast?.getD s) 0 = cg f p 0 (r.getLast?.getD s) := by unfold cg; rw [hs _ 0 hls.2 (by omega)]; omega
    have h2le : t2 ≤ cg f p 0 s + cg f p 0 (r.getLast?.getD s) := by
      rcases Nat.lt_or_ge s (r.getLast?.getD s) with h | h
      · have := h2.1 _ s hss.1 h hls.2
        omega
      · exact h2.1 s _ hls.1 (by omega) hss.2
    omega
end Go.Proofs.Ytmodbpglopfghaa
