/- Growing trees: one that takes a nearest place each time is no longer than any other one. Nothing of the program. -/
namespace Go.Proofs.Ytmodbpglopfghaa
abbrev Ed := Nat × Nat
section
variable (w : Nat → Nat → Int) (V : Nat → Prop)
/-- From the places in I on, each edge goes from a place that is in to a nearest one that is not, till all are in. -/
def Greedy : (Nat → Prop) → List Ed → Prop
  | I, [] => ∀ x, V x → I x
  | I, e :: es => I e.1 ∧ V e.2 ∧ ¬ I e.2 ∧ (∀ i k, I i → V k → ¬ I k → w e.1 e.2 ≤ w i k) ∧ Greedy (fun x => I x ∨ x = e.2) es
/-- Each edge goes from a place that is in to any one, till all are in. -/
def Spans : (Nat → Prop) → List Ed → Prop
  | I, [] => ∀ x, V x → I x
  | I, e :: es => I e.1 ∧ V e.2 ∧ Spans (fun x => I x ∨ x = e.2) es
def cost (es : List Ed) : Int := (es.map fun e => w e.1 e.2).sum
def costT (t : Int) (es : List Ed) : Int := (es.map fun e => min (w e.1 e.2) t).sum
def heavy (t : Int) (es : List Ed) : Nat := (es.filter fun e => decide (t ≤ w e.1 e.2)).length
end
section
variable {w : Nat → Nat → Int} {V : Nat → Prop}
theorem heavy_cons (t : Int) (e : Ed) (es : List Ed) : heavy w t (e :: es) = (if t ≤ w e.1 e.2 then 1 else 0) + heavy w t es := by
  unfold heavy
  rw [List.filter_cons]
  by_cases h : t ≤ w e.1 e.2
  · simp [h]; omega
  · simp [h]
theorem costT_succ (t : Int) : ∀ es, costT w (t + 1) es = costT w t es + heavy w (t + 1) es
  | [] => rfl
  | e :: es => by
    have ih := costT_succ t es
    rw [heavy_cons]
    unfold costT at ih ⊢
    rw [List.map_cons, List.map_cons, List.sum_cons, List.sum_cons, ih]
    split <;> simp only [Int.natCast_add] <;> omega
theorem costT_lo {t : Int} : ∀ es : List Ed, (∀ e ∈ es, t ≤ w e.1 e.2) → costT w t es = t * es.length
  | [], _ => by simp [costT]
  | e :: es, h => by
    have ih := costT_lo es fun x hx => h x (by simp [hx])
    unfold costT at ih ⊢
    have := h e (by simp)
    rw [List.map_cons, List.sum_cons, ih, List.length_cons, Int.min_eq_right this, Int.natCast_add, Int.mul_add]
    omega
theorem costT_hi {t : Int} : ∀ es : List Ed, (∀ e ∈ es, w e.1 e.2 ≤ t) → costT w t es = cost w es
  | [], _ => rfl
  | e :: es, h => by
    have ih := costT_hi es fun x hx => h x (by simp [hx])
    unfold costT cost at ih ⊢
    have := h e (by simp)
    rw [List.map_cons, List.sum_cons, List.map_cons, List.sum_cons, ih, Int.min_eq_left this]
/-- Behind a greedy growth the places have labels: as many as heavy edges, and one; only heavy ways lie between different ones. -/
theorem blocks (hs : ∀ i k, w i k = w k i) {t : Int} : ∀ (es : List Ed) (I : Nat → Prop) (lab : Nat → Nat) (j : Nat), Greedy w V I es →
    (∀ x, I x → V x) → (∀ x, I x → lab x ≤ j) → (∀ x y, I x → lab x < j → V y → ¬ I y → t ≤ w x y) → (∀ x y, I x → I y → lab x ≠ lab y → t ≤ w x y) → (∀ b, b ≤ j → ∃ x, I x ∧ lab x = b) →
    ∃ lab' : Nat → Nat, (∀ x y, V x → V y → lab' x ≠ lab' y → t ≤ w x y) ∧ ∀ b, b ≤ j + heavy w t es → ∃ x, V x ∧ lab' x = b
  | [], I, lab, j, hg, hV, h1, h2, h3, h4 => ⟨lab, fun x y hx hy => h3 x y (hg x hx) (hg y hy), fun b hb => by
      obtain ⟨x, hx, e⟩ := h4 b hb
      exact ⟨x, hV x hx, e⟩⟩
  | (p, c) :: es, I, lab, j, hg, hV, h1, h2, h3, h4 => by
    obtain ⟨g1, g2, g3, g4, g5⟩ := hg
    simp only at g1 g2 g3 g4 g5
    rw [heavy_cons]
    have hV' : ∀ x, (I x ∨ x = c) → V x := fun x hx => hx.elim (hV x) fun e => e ▸ g2
    have key : ∀ j' : Nat, (j ≤ j') → (∀ x, I x → lab x ≠ j' → t ≤ w x c) → (∀ x y, I x → lab x < j' → V y → ¬ (I y ∨ y = c) → t ≤ w x y) → (∀ b, b ≤ j' → b ≠ j' → b ≤ j) →
        (j' + heavy w t es = j + ((if t ≤ w p c then 1 else 0) + heavy w t es)) →
        ∃ lab' : Nat → Nat, (∀ x y, V x → V y → lab' x ≠ lab' y → t ≤ w x y) ∧ ∀ b, b ≤ j + ((if t ≤ w p c then 1 else 0) + heavy w t es) → ∃ x, V x ∧ lab' x = b := fun j' hjj k1 k2 k3 k4 => by
      have hL : ∀ x, I x → (if x = c then j' else lab x) = lab x := fun x hx => if_neg (fun (e : x = c) => g3 (e ▸ hx))
      rw [← k4]
      refine blocks hs es _ (fun x => if x = c then j' else lab x) j' g5 hV' (fun x hx => ?_) (fun x y hx hl hy hn => ?_) (fun x y hx hy hne => ?_) fun b hb => ?_
      · rcases hx with hx | hx
        · rw [hL x hx]; exact Nat.le_trans (h1 x hx) hjj
        · rw [if_pos hx]; exact Nat.le_refl _
      · rcases hx with hx | hx
        · rw [hL x hx] at hl; exact k2 x y hx hl hy hn
        · rw [if_pos hx] at hl; exact absurd hl (Nat.lt_irrefl _)
      · rcases hx with hx | hx <;> rcases hy with hy | hy
        · simp only [hL x hx, hL y hy] at hne; exact h3 x y hx hy hne
        · subst hy; simp only [hL x hx, if_pos] at hne; exact k1 x hx hne
        · subst hx; simp only [hL y hy, if_pos] at hne; rw [hs]; exact k1 y hy (Ne.symm hne)
        · subst hx; subst hy; exact absurd rfl hne
      · by_cases e : b = j'
        · exact ⟨c, .inr rfl, by rw [if_pos rfl, e]⟩
        · obtain ⟨x, hx, hl⟩ := h4 b (k3 b hb e)
          exact ⟨x, .inl hx, by rw [hL x hx, hl]⟩
    by_cases ht : t ≤ w p c
    · refine key (j + 1) (by omega) (fun x hx _ => Int.le_trans ht (g4 x c hx g2 g3)) (fun x y hx _ hy hn => Int.le_trans ht (g4 x y hx hy fun h => hn (.inl h))) (fun b _ _ => by omega) (by rw [if_pos ht]; omega)
    · refine key j (Nat.le_refl _) (fun x hx hne => ?_) (fun x y hx hl hy hn => h2 x y hx hl hy fun h => hn (.inl h)) (fun b hb _ => hb) (by rw [if_neg ht]; omega)
      have := h1 x hx
      exact h2 x c hx (by omega) g2 g3
/-- Whoever connects all places needs a heavy edge for each label that is not in. -/
theorem need {lab : Nat → Nat} {t : Int} (hl : ∀ x y, V x → V y → lab x ≠ lab y → t ≤ w x y) : ∀ (es : List Ed) (I : Nat → Prop) (B : List Nat), B.Nodup → Spans V I es → (∀ x, I x → V x) →
    (∀ b ∈ B, ∃ x, V x ∧ lab x = b) → (∀ b ∈ B, ∀ x, I x → lab x ≠ b) → B.length ≤ heavy w t es
  | [], I, B, _, hs, hV, h1, h2 => by
    cases B with
    | nil => simp
    | cons b B =>
      obtain ⟨x, hx, e⟩ := h1 b (by simp)
      exact absurd e (h2 b (by simp) x (hs x hx))
  | (p, c) :: es, I, B, hn, hs, hV, h1, h2 => by
    obtain ⟨g1, g2, g3⟩ := hs
    simp only at g1 g2 g3
    have hV' : ∀ x, (I x ∨ x = c) → V x := fun x hx => hx.elim (hV x) fun e => e ▸ g2
    have ih := need hl es _ (B.erase (lab c)) (hn.erase _) g3 hV' (fun b hb => h1 b (List.mem_of_mem_erase hb)) fun b hb x hx => by
      rw [hn.mem_erase_iff] at hb
      rcases hx with hx | hx
      · exact h2 b hb.2 x hx
      · rw [hx]; exact Ne.symm hb.1
    rw [heavy_cons]
    by_cases hb : lab c ∈ B
    · have hw := hl p c (hV p g1) g2 (h2 _ hb p g1)
      rw [if_pos hw]
      have := List.length_erase_of_mem hb
      have : 0 < B.length := List.length_pos_of_mem hb
      omega
    · rw [List.erase_of_not_mem hb] at ih
      omega
theorem heavy_le (hs : ∀ i k, w i k = w k i) {r r' : Nat} {R S : List Ed} (hR : Greedy w V (fun x => x = r) R) (hS : Spans V (fun x => x = r') S) (hr : V r) (hr' : V r') (t : Int) : heavy w t R ≤ heavy w t S := by
  obtain ⟨lab, h1, h2⟩ := blocks (t := t) hs R _ (fun _ => 0) 0 hR (fun x hx => hx ▸ hr) (fun _ _ => Nat.le_refl _) (fun _ _ _ h => absurd h (Nat.lt_irrefl _)) (fun _ _ _ _ h => absurd rfl h) fun b hb => ⟨r, rfl, by omega⟩
  have hnd : (List.range (heavy w t R + 1)).Nodup := List.nodup_range
  have := need h1 S _ ((List.range (heavy w t R + 1)).erase (lab r')) (hnd.erase _) hS (fun x hx => hx ▸ hr') (fun b hb => h2 b (by
    have := List.mem_of_mem_erase hb
    rw [List.mem_range] at this
    omega)) fun b hb x hx => by
      rw [hnd.mem_erase_iff] at hb
      rw [hx]; exact Ne.symm hb.1
  have hle : heavy w t R + 1 ≤ ((List.range (heavy w t R + 1)).erase (lab r')).length + 1 := by
    rw [List.length_erase]
    split <;> simp
  omega
/-- A greedy growth is no longer than one that connects the same places. -/
theorem greedy_le (hs : ∀ i k, w i k = w k i) {r r' : Nat} {R S : List Ed} (hR : Greedy w V (fun x => x = r) R) (hS : Spans V (fun x => x = r') S) (hr : V r) (hr' : V r') (hl : R.length = S.length) {lo : Int} {n : Nat}
    (bR : ∀ e ∈ R, lo ≤ w e.1 e.2 ∧ w e.1 e.2 ≤ lo + n) (bS : ∀ e ∈ S, lo ≤ w e.1 e.2 ∧ w e.1 e.2 ≤ lo + n) : cost w R ≤ cost w S := by
  rw [← costT_hi R fun e he => (bR e he).2, ← costT_hi S fun e he => (bS e he).2]
  have key : ∀ m : Nat, costT w (lo + m) R ≤ costT w (lo + m) S := fun m => by
    induction m with
    | zero =>
      rw [Int.natCast_zero, Int.add_zero, costT_lo R fun e he => (bR e he).1, costT_lo S fun e he => (bS e he).1, hl]
      exact Int.le_refl _
    | succ m ih =>
      have e : lo + ((m + 1 : Nat) : Int) = lo + m + 1 := by omega
      rw [e, costT_succ, costT_succ]
      have := heavy_le hs hR hS hr hr' (lo + m + 1)
      omega
  exact key n
end
end Go.Proofs.Ytmodbpglopfghaa
