/- Ways when detours may be taken: Floyd's table and the one that grows round by round; plain. -/
import Derived.Test.YtmodbpglopfghaaVanQ
set_option linter.unusedSimpArgs false
set_option linter.unusedVariables false
namespace Go.Proofs.Ytmodbpglopfghaa

/-- The length of a walk from i over l to j. -/
def wk (f : Nat → Nat → Int) (j : Nat) : Nat → List Nat → Int
  | i, [] => f i j
  | i, x :: l => f i x + wk f j x l
/-- Places before n. -/
def Wl (n : Nat) (l : List Nat) : Prop := ∀ x ∈ l, x < n
section
variable {n : Nat} {f : Nat → Nat → Int}
theorem wk_cat (f : Nat → Nat → Int) (j k : Nat) : ∀ (l : List Nat) (i : Nat) (b : List Nat), wk f j i (l ++ k :: b) = wk f k i l + wk f j k b
  | [], i, b => rfl
  | x :: l, i, b => by
    show f i x + wk f j x (l ++ k :: b) = f i x + wk f k x l + wk f j k b
    rw [wk_cat f j k l x b]; omega
theorem wk_pos (hf : ∀ i j, i < n → j < n → 0 ≤ f i j) {j : Nat} (hj : j < n) : ∀ (l : List Nat) (i : Nat), i < n → Wl n l → 0 ≤ wk f j i l
  | [], i, hi, _ => hf i j hi hj
  | x :: l, i, hi, hl => by
    have h1 := hf i x hi (hl x (by simp))
    have h2 := wk_pos hf hj l x (hl x (by simp)) fun y hy => hl y (List.mem_cons_of_mem _ hy)
    show 0 ≤ f i x + wk f j x l
    omega
/-- The shortest walks. -/
def IsDist (n : Nat) (f D : Nat → Nat → Int) : Prop := (∀ i j, i < n → j < n → ∃ l, Wl n l ∧ D i j = wk f j i l) ∧ ∀ i j l, i < n → j < n → Wl n l → D i j ≤ wk f j i l
theorem IsDist.unique {D D' : Nat → Nat → Int} (h : IsDist n f D) (h' : IsDist n f D') {i j : Nat} (hi : i < n) (hj : j < n) : D i j = D' i j := by
  obtain ⟨l, h1, h2⟩ := h.1 i j hi hj
  obtain ⟨l', h3, h4⟩ := h'.1 i j hi hj
  have := h.2 i j l' hi hj h3
  have := h'.2 i j l hi hj h1
  omega
/-- The walks that are sound so far, and all walks over places before k. -/
structure Fl (n : Nat) (f D : Nat → Nat → Int) (C : Nat → Nat → List Nat → Prop) : Prop where
  sound : ∀ i j, i < n → j < n → ∃ l, Wl n l ∧ D i j = wk f j i l
  comp : ∀ i j l, i < n → j < n → Wl n l → C i j l → D i j ≤ wk f j i l
theorem first_split {k : Nat} : ∀ (l : List Nat), k ∈ l → ∃ a b, l = a ++ k :: b ∧ k ∉ a
  | [], h => by simp at h
  | x :: l, h => by
    by_cases e : x = k
    · subst e; exact ⟨[], l, rfl, by simp⟩
    · have hk : k ∈ l := (List.mem_cons.1 h).resolve_left (fun h => e h.symm)
      obtain ⟨a, b, rfl, h2⟩ := first_split l hk
      exact ⟨x :: a, b, rfl, by simp [h2, Ne.symm e]⟩
/-- Behind its last visit of k, a walk is no longer. -/
theorem last_part (hf : ∀ i j, i < n → j < n → 0 ≤ f i j) {j k : Nat} (hj : j < n) (hk : k < n) : ∀ (m : Nat) (b : List Nat), b.length ≤ m → Wl n b → ∃ l2, Wl n l2 ∧ k ∉ l2 ∧ (∀ x ∈ l2, x ∈ b) ∧ wk f j k l2 ≤ wk f j k b
  | 0, b, hb, hw => by
    obtain rfl : b = [] := List.eq_nil_of_length_eq_zero (by omega)
    exact ⟨[], hw, by simp, by simp, Int.le_refl _⟩
  | m + 1, b, hb, hw => by
    by_cases hkb : k ∈ b
    · obtain ⟨a, b', rfl, _⟩ := first_split b hkb
      have hwa : Wl n a := fun x hx => hw x (by simp [hx])
      have hwb : Wl n b' := fun x hx => hw x (by simp [hx])
      obtain ⟨l2, h1, h2, h3, h4⟩ := last_part hf hj hk m b' (by simp at hb; omega) hwb
      refine ⟨l2, h1, h2, fun x hx => by simp [h3 x hx], ?_⟩
      rw [wk_cat]
      have := wk_pos hf hk a k hk hwa
      omega
    · exact ⟨b, hw, hkb, fun x hx => hx, Int.le_refl _⟩
/-- In stage k, before the pair i, j. -/
def Bst (n k i j : Nat) : Nat → Nat → List Nat → Prop := fun i' j' l => (∀ x ∈ l, x < k) ∨ ((∀ x ∈ l, x ≤ k) ∧ (i' < i ∨ (i' = i ∧ j' < j)))
theorem Fl.start (n : Nat) (f : Nat → Nat → Int) : Fl n f f (Bst n 0 0 0) := ⟨fun i j hi hj => ⟨[], by simp [Wl], rfl⟩, fun i j l hi hj hw hc => by
  rcases hc with hc | ⟨_, hc⟩
  · cases l with
    | nil => exact Int.le_refl _
    | cons x l => exact absurd (hc x (by simp)) (Nat.not_lt_zero _)
  · omega⟩
theorem Fl.mono {D : Nat → Nat → Int} {C C' : Nat → Nat → List Nat → Prop} (h : Fl n f D C) (hc : ∀ i j l, i < n → j < n → C' i j l → C i j l) : Fl n f D C' := ⟨h.sound, fun i j l hi hj hw hc' => h.comp i j l hi hj hw (hc i j l hi hj hc')⟩
theorem Fl.nextJ {D : Nat → Nat → Int} {k i : Nat} (h : Fl n f D (Bst n k i n)) : Fl n f D (Bst n k (i + 1) 0) := h.mono fun i' j' l hi hj hc => by
  rcases hc with hc | ⟨h1, h2⟩
  · exact .inl hc
  · exact .inr ⟨h1, by omega⟩
theorem Fl.nextK {D : Nat → Nat → Int} {k : Nat} (h : Fl n f D (Bst n k n 0)) : Fl n f D (Bst n (k + 1) 0 0) := h.mono fun i' j' l hi hj hc => by
  rcases hc with hc | ⟨h1, h2⟩
  · exact .inr ⟨fun x hx => by have := hc x hx; omega, .inl hi⟩
  · omega
theorem Fl.done {D : Nat → Nat → Int} (h : Fl n f D (Bst n n 0 0)) : IsDist n f D := ⟨h.sound, fun i j l hi hj hw => h.comp i j l hi hj hw (.inl hw)⟩
/-- One entry of the table. -/
def updD (D : Nat → Nat → Int) (i j : Nat) (v : Int) : Nat → Nat → Int := fun i' j' => if i' = i ∧ j' = j then v else D i' j'
theorem Fl.step (hf : ∀ i j, i < n → j < n → 0 ≤ f i j) {D : Nat → Nat → Int} {k i j : Nat} (h : Fl n f D (Bst n k i j)) (hk : k < n) (hi : i < n) (hj : j < n) : Fl n f (updD D i j (min (D i j) (D i k + D k j))) (Bst n k i (j + 1)) := by
  refine ⟨fun i' j' hi' hj' => ?_, fun i' j' l hi' hj' hw hc => ?_⟩
  · unfold updD
    by_cases e : i' = i ∧ j' = j
    · obtain ⟨rfl, rfl⟩ := e
      rw [if_pos ⟨rfl, rfl⟩]
      by_cases hc : D i' j' ≤ D i' k + D k j'
      · rw [Int.min_eq_left hc]; exact h.sound i' j' hi' hj'
      · rw [Int.min_eq_right (by omega)]
        obtain ⟨l1, h1, e1⟩ := h.sound i' k hi' hk
        obtain ⟨l2, h2, e2⟩ := h.sound k j' hk hj'
        refine ⟨l1 ++ k :: l2, fun x hx => ?_, by rw [wk_cat, e1, e2]⟩
        rcases List.mem_append.1 hx with hx | hx
        · exact h1 x hx
        · rcases List.mem_cons.1 hx with rfl | hx
          · exact hk
          · exact h2 x hx
    · rw [if_neg e]; exact h.sound i' j' hi' hj'
  · have hle : updD D i j (min (D i j) (D i k + D k j)) i' j' ≤ D i' j' := by
      unfold updD
      by_cases e : i' = i ∧ j' = j
      · obtain ⟨rfl, rfl⟩ := e
        rw [if_pos ⟨rfl, rfl⟩]; exact Int.min_le_left _ _
      · rw [if_neg e]; exact Int.le_refl _
    rcases hc with hc | ⟨h1, h2⟩
    · exact Int.le_trans hle (h.comp i' j' l hi' hj' hw (.inl hc))
    · by_cases e : i' = i ∧ j' = j
      · obtain ⟨rfl, rfl⟩ := e
        by_cases hkl : k ∈ l
        · obtain ⟨a, b, rfl, hka⟩ := first_split l hkl
          have hwa : Wl n a := fun x hx => hw x (by simp [hx])
          have hwb : Wl n b := fun x hx => hw x (by simp [hx])
          obtain ⟨l2, q1, q2, q3, q4⟩ := last_part hf hj hk b.length b (Nat.le_refl _) hwb
          have c1 := h.comp i' k a hi' hk hwa (.inl fun x hx => by
            have := h1 x (by simp [hx])
            have : x ≠ k := fun e => hka (e ▸ hx)
            omega)
          have c2 := h.comp k j' l2 hk hj' q1 (.inl fun x hx => by
            have := h1 x (by simp [q3 x hx])
            have : x ≠ k := fun e => q2 (e ▸ hx)
            omega)
          rw [wk_cat]
          unfold updD
          rw [if_pos ⟨rfl, rfl⟩]
          have := Int.min_le_right (D i' j') (D i' k + D k j')
          omega
        · refine Int.le_trans hle (h.comp i' j' l hi' hj' hw (.inl fun x hx => ?_))
          have := h1 x hx
          have : x ≠ k := fun e => hkl (e ▸ hx)
          omega
      · exact Int.le_trans hle (h.comp i' j' l hi' hj' hw (.inr ⟨h1, by omega⟩))
/-- A walk that visits a place twice may be shortened. -/
theorem shorten (hf : ∀ i j, i < n → j < n → 0 ≤ f i j) {i j : Nat} (hi : i < n) (hj : j < n) : ∀ (m : Nat) (l : List Nat), l.length ≤ m → Wl n l → ∃ l', Wl n l' ∧ l'.length ≤ n ∧ wk f j i l' ≤ wk f j i l
  | 0, l, hl, hw => ⟨l, hw, by omega, Int.le_refl _⟩
  | m + 1, l, hl, hw => by
    by_cases hn : l.Nodup
    · exact ⟨l, hw, nodup_len n l hn hw, Int.le_refl _⟩
    · obtain ⟨a, x, b, c, rfl⟩ : ∃ a x b c, l = a ++ x :: (b ++ x :: c) := by
        clear hl hw
        induction l with
        | nil => simp at hn
        | cons y l ih =>
          by_cases hy : y ∈ l
          · obtain ⟨b, c, rfl, _⟩ := first_split l hy
            exact ⟨[], y, b, c, rfl⟩
          · obtain ⟨a, x, b, c, rfl⟩ := ih fun h => hn (List.nodup_cons.2 ⟨hy, h⟩)
            exact ⟨y :: a, x, b, c, rfl⟩
      have hx : x < n := hw x (by simp)
      have hwb : Wl n b := fun y hy => hw y (by simp [hy])
      obtain ⟨l', h1, h2, h3⟩ := shorten hf hi hj m (a ++ x :: c) (by simp at hl ⊢; omega) (fun y hy => hw y (by
        simp at hy ⊢
        rcases hy with hy | hy | hy <;> simp [hy]))
      refine ⟨l', h1, h2, Int.le_trans h3 ?_⟩
      rw [wk_cat, wk_cat, wk_cat]
      have := wk_pos hf hx b x hx hwb
      omega
/-- Round by round: the walks over at most r places. -/
def Rst (r : Nat) : Nat → Nat → List Nat → Prop := fun _ _ l => l.length ≤ r
theorem Fl.rstart (n : Nat) (f : Nat → Nat → Int) : Fl n f f (Rst 0) := ⟨fun i j hi hj => ⟨[], by simp [Wl], rfl⟩, fun i j l hi hj hw hc => by
  obtain rfl : l = [] := List.eq_nil_of_length_eq_zero (by unfold Rst at hc; omega)
  exact Int.le_refl _⟩
theorem wk_snoc (f : Nat → Nat → Int) (j o : Nat) (l : List Nat) (i : Nat) : wk f j i (l ++ [o]) = wk f o i l + f o j := wk_cat f j o l i []
/-- A table of the next round: no longer than over any last place, and sound. -/
theorem Fl.rnext {D D' : Nat → Nat → Int} {r : Nat} (h : Fl n f D (Rst r)) (h1 : ∀ i j, i < n → j < n → D' i j ≤ D i j ∧ ∀ o, o < n → D' i j ≤ D i o + f o j) (h2 : ∀ i j, i < n → j < n → D' i j = D i j ∨ ∃ o, o < n ∧ D' i j = D i o + f o j) : Fl n f D' (Rst (r + 1)) := by
  refine ⟨fun i j hi hj => ?_, fun i j l hi hj hw hc => ?_⟩
  · rcases h2 i j hi hj with e | ⟨o, ho, e⟩
    · rw [e]; exact h.sound i j hi hj
    · obtain ⟨l, hl, e2⟩ := h.sound i o hi ho
      refine ⟨l ++ [o], fun x hx => ?_, by rw [wk_snoc, ← e2, e]⟩
      rcases List.mem_append.1 hx with hx | hx
      · exact hl x hx
      · rw [List.mem_singleton] at hx; subst hx; exact ho
  · by_cases hr : l.length ≤ r
    · exact Int.le_trans (h1 i j hi hj).1 (h.comp i j l hi hj hw hr)
    · have hne : l ≠ [] := fun e => by rw [e] at hr; simp at hr
      obtain ⟨l', o, rfl⟩ : ∃ l' o, l = l' ++ [o] := ⟨l.dropLast, l.getLast hne, (List.dropLast_concat_getLast hne).symm⟩
      have ho : o < n := hw o (by simp)
      have hl' : Wl n l' := fun x hx => hw x (by simp [hx])
      rw [wk_snoc]
      have := (h1 i j hi hj).2 o ho
      have := h.comp i o l' hi ho hl' (by unfold Rst at hc ⊢; simp at hc; omega)
      omega
theorem Fl.rdone (hf : ∀ i j, i < n → j < n → 0 ≤ f i j) {D : Nat → Nat → Int} (h : Fl n f D (Rst n)) : IsDist n f D := ⟨h.sound, fun i j l hi hj hw => by
  obtain ⟨l', h1, h2, h3⟩ := shorten hf hi hj l.length l (Nat.le_refl _) hw
  exact Int.le_trans (h.comp i j l' hi hj h1 h2) h3⟩
theorem IsDist.le {D : Nat → Nat → Int} (h : IsDist n f D) {i j : Nat} (hi : i < n) (hj : j < n) : D i j ≤ f i j := h.2 i j [] hi hj (by simp [Wl])
theorem IsDist.tri {D : Nat → Nat → Int} (h : IsDist n f D) {i j k : Nat} (hi : i < n) (hj : j < n) (hk : k < n) : D i j ≤ D i k + D k j := by
  obtain ⟨l1, h1, e1⟩ := h.1 i k hi hk
  obtain ⟨l2, h2, e2⟩ := h.1 k j hk hj
  have := h.2 i j (l1 ++ k :: l2) hi hj (fun x hx => by
    rcases List.mem_append.1 hx with hx | hx
    · exact h1 x hx
    · rcases List.mem_cons.1 hx with rfl | hx
      · exact hk
      · exact h2 x hx)
  rw [wk_cat] at this
  omega
theorem IsDist.pos (hf : ∀ i j, i < n → j < n → 0 ≤ f i j) {D : Nat → Nat → Int} (h : IsDist n f D) {i j : Nat} (hi : i < n) (hj : j < n) : 0 ≤ D i j := by
  obtain ⟨l1, h1, e1⟩ := h.1 i j hi hj
  rw [e1]; exact wk_pos hf hj l1 i hi h1
theorem wk_rev (hs : ∀ i j, i < n → j < n → f i j = f j i) {j : Nat} (hj : j < n) : ∀ (l : List Nat) (i : Nat), i < n → Wl n l → wk f i j l.reverse = wk f j i l
  | [], i, hi, _ => hs j i hj hi
  | x :: l, i, hi, hl => by
    have hx := hl x (by simp)
    have ih := wk_rev hs hj l x hx fun y hy => hl y (List.mem_cons_of_mem _ hy)
    rw [List.reverse_cons, wk_snoc, ih, hs x i hx hi]
    show wk f j x l + f i x = f i x + wk f j x l
    omega
theorem IsDist.sym (hs : ∀ i j, i < n → j < n → f i j = f j i) {D : Nat → Nat → Int} (h : IsDist n f D) {i j : Nat} (hi : i < n) (hj : j < n) : D i j = D j i := by
  have key : ∀ i j, i < n → j < n → D i j ≤ D j i := fun i j hi hj => by
    obtain ⟨l1, h1, e1⟩ := h.1 j i hj hi
    have := h.2 i j l1.reverse hi hj (fun x hx => h1 x (List.mem_reverse.1 hx))
    rw [wk_rev (fun a b ha hb => (hs a b ha hb)) hi l1 j hj h1] at this
    omega
  have := key i j hi hj
  have := key j i hj hi
  omega
/-- A table without shorter detours is its own. -/
theorem IsDist.own {D : Nat → Nat → Int} (h : IsDist n f D) : IsDist n D D := by
  refine ⟨fun i j hi hj => ⟨[], by simp [Wl], rfl⟩, fun i j l => ?_⟩
  induction l generalizing i with
  | nil => exact fun _ _ _ => Int.le_refl _
  | cons x l ih =>
    intro hi hj hw
    have hx := hw x (by simp)
    have h1 := ih x hx hj fun y hy => hw y (List.mem_cons_of_mem _ hy)
    have h2 := h.tri hi hj hx
    show D i j ≤ D i x + wk D j x l
    omega
theorem len_mono {D : Nat → Nat → Int} (hle : ∀ i j, i < n → j < n → D i j ≤ f i j) (hn : 1 ≤ n) : ∀ (t : List Nat) (a : Nat), a < n → (∀ x ∈ t, x < n) → lenF D a t ≤ lenF f a t
  | [], a, ha, _ => hle a 0 ha hn
  | s :: r, a, ha, h => by
    have h1 := hle a s ha (h s (by simp))
    have h2 := len_mono hle hn r s (h s (by simp)) fun x hx => h x (List.mem_cons_of_mem _ hx)
    show D a s + lenF D s r ≤ f a s + lenF f s r
    omega
/-- With direct ways, a stop left out makes no tour longer. -/
theorem len_less {D : Nat → Nat → Int} (htri : ∀ i j k, i < n → j < n → k < n → D i j ≤ D i k + D k j) (hn : 1 ≤ n) : ∀ (t : List Nat) (k : Nat) (a : Nat), a < n → (∀ x ∈ t, x < n) → k < t.length → lenF D a (t.eraseIdx k) ≤ lenF D a t
  | [], k, a, _, _, hk => by simp at hk
  | s :: r, 0, a, ha, h, _ => by
    have hs := h s (by simp)
    cases r with
    | nil =>
      show D a 0 ≤ D a s + D s 0
      exact htri a 0 s ha hn hs
    | cons y r =>
      have hy := h y (by simp)
      show D a y + lenF D y r ≤ D a s + (D s y + lenF D y r)
      have := htri a y s ha hy hs
      omega
  | s :: r, k + 1, a, ha, h, hk => by
    have ih := len_less htri hn r k s (h s (by simp)) (fun x hx => h x (List.mem_cons_of_mem _ hx)) (by simpa using hk)
    show D a s + lenF D s (r.eraseIdx k) ≤ D a s + lenF D s r
    omega
end
end Go.Proofs.Ytmodbpglopfghaa
