/- How a tour is cut into trips: plain. -/
import Derived.Test.YtmodbpglopfghaaVanAa
set_option linter.unusedSimpArgs false
set_option linter.unusedVariables false
namespace Go.Proofs.Ytmodbpglopfghaa
open Go.RowKit

/-- Lists of sizes of one length in order. -/
def lexS : List Nat → List Nat → Prop
  | a :: l, b :: m => a < b ∨ a = b ∧ lexS l m
  | _, _ => False
/-- A plan (sum, sizes) comes before another one. -/
def ltP (p q : Int × List Nat) : Prop := p.1 < q.1 ∨ p.1 = q.1 ∧ (p.2.length < q.2.length ∨ p.2.length = q.2.length ∧ lexS p.2 q.2)
theorem lexS_irrefl : ∀ l, ¬ lexS l l
  | [] => id
  | a :: l => fun h => h.elim (Nat.lt_irrefl a) fun h => lexS_irrefl l h.2
theorem lexS_trans : ∀ {a b c}, lexS a b → lexS b c → lexS a c
  | x :: a, y :: b, z :: c, h, h' => by
    rcases h with h | ⟨rfl, h⟩
    · rcases h' with h' | ⟨rfl, _⟩
      · exact .inl (Nat.lt_trans h h')
      · exact .inl h
    · rcases h' with h' | ⟨rfl, h'⟩
      · exact .inl h'
      · exact .inr ⟨rfl, lexS_trans h h'⟩
  | [], _, _, h, _ => h.elim
  | _ :: _, [], _, h, _ => h.elim
  | _ :: _, _ :: _, [], _, h' => h'.elim
theorem lexS_total : ∀ {a b : List Nat}, a.length = b.length → lexS a b ∨ a = b ∨ lexS b a
  | [], [], _ => .inr (.inl rfl)
  | x :: a, y :: b, h => by
    rcases Nat.lt_trichotomy x y with h1 | rfl | h1
    · exact .inl (.inl h1)
    · rcases lexS_total (a := a) (b := b) (by simpa using h) with h2 | rfl | h2
      · exact .inl (.inr ⟨rfl, h2⟩)
      · exact .inr (.inl rfl)
      · exact .inr (.inr (.inr ⟨rfl, h2⟩))
    · exact .inr (.inr (.inl h1))
theorem ltP_irrefl (p : Int × List Nat) : ¬ ltP p p := fun h => by
  rcases h with h | ⟨_, h | ⟨_, h⟩⟩
  · omega
  · omega
  · exact lexS_irrefl _ h
theorem ltP_trans {p q r : Int × List Nat} (h : ltP p q) (h' : ltP q r) : ltP p r := by
  unfold ltP at *
  rcases h with h | ⟨h1, h | ⟨h2, h⟩⟩
  · rcases h' with h' | ⟨h3, _⟩
    · exact .inl (by omega)
    · exact .inl (by omega)
  · rcases h' with h' | ⟨h3, h' | ⟨h4, _⟩⟩
    · exact .inl (by omega)
    · exact .inr ⟨by omega, .inl (by omega)⟩
    · exact .inr ⟨by omega, .inl (by omega)⟩
  · rcases h' with h' | ⟨h3, h' | ⟨h4, h'⟩⟩
    · exact .inl (by omega)
    · exact .inr ⟨by omega, .inl (by omega)⟩
    · exact .inr ⟨by omega, .inr ⟨by omega, lexS_trans h h'⟩⟩
theorem ltP_total (p q : Int × List Nat) : ltP p q ∨ p = q ∨ ltP q p := by
  obtain ⟨a, l⟩ := p
  obtain ⟨b, m⟩ := q
  unfold ltP
  rcases Int.lt_trichotomy a b with h | rfl | h
  · exact .inl (.inl h)
  · rcases Nat.lt_trichotomy l.length m.length with h | h | h
    · exact .inl (.inr ⟨rfl, .inl h⟩)
    · rcases lexS_total h with h1 | rfl | h1
      · exact .inl (.inr ⟨rfl, .inr ⟨h, h1⟩⟩)
      · exact .inr (.inl rfl)
      · exact .inr (.inr (.inr ⟨rfl, .inr ⟨h.symm, h1⟩⟩))
    · exact .inr (.inr (.inr ⟨rfl, .inl h⟩))
  · exact .inr (.inr (.inl h))
theorem ltP_cons {x a b : Int} {n : Nat} {l m : List Nat} : ltP (x + a, n :: l) (x + b, n :: m) ↔ ltP (a, l) (b, m) := by
  unfold ltP
  simp only [List.length_cons, lexS]
  constructor
  · rintro (h | ⟨h1, h | ⟨h2, h | ⟨_, h⟩⟩⟩)
    · exact .inl (by omega)
    · exact .inr ⟨by omega, .inl (by omega)⟩
    · omega
    · exact .inr ⟨by omega, .inr ⟨by omega, h⟩⟩
  · rintro (h | ⟨h1, h | ⟨h2, h⟩⟩)
    · exact .inl (by omega)
    · exact .inr ⟨by omega, .inl (by omega)⟩
    · exact .inr ⟨by omega, .inr ⟨by omega, .inr ⟨trivial, h⟩⟩⟩

section
variable (f : Nat → Nat → Int) (bx : Nat → Int) (cap : Int)
/-- The boxes of some stops. -/
def ldS (t : List Nat) : Int := (t.map bx).sum
/-- The sizes cut a tour into trips that can be loaded. -/
def Cut : List Nat → List Nat → Prop
  | [], t => t = []
  | n :: ss, t => 1 ≤ n ∧ n ≤ t.length ∧ ldS bx (t.take n) ≤ cap ∧ Cut ss (t.drop n)
/-- The length of all trips. -/
def smC : List Nat → List Nat → Int
  | [], _ => 0
  | n :: ss, t => lenF f 0 (t.take n) + smC ss (t.drop n)
/-- The trips. -/
def sgC : List Nat → List Nat → List (List Nat)
  | [], _ => []
  | n :: ss, t => t.take n :: sgC ss (t.drop n)
/-- The best plan of a tour. -/
def BestP (t : List Nat) (p : Int × List Nat) : Prop := Cut bx cap p.2 t ∧ p.1 = smC f p.2 t ∧ ∀ ss, Cut bx cap ss t → ¬ ltP (smC f ss t, ss) p
/-- The best plan of a tour whose first trip has at most k stops, or none. -/
def BestK (t : List Nat) (k : Nat) (o : Option (Int × List Nat)) : Prop := match o with
  | none => ∀ n ss, Cut bx cap (n :: ss) t → k < n
  | some p => Cut bx cap p.2 t ∧ p.1 = smC f p.2 t ∧ p.2 ≠ [] ∧ ∀ n ss, n ≤ k → Cut bx cap (n :: ss) t → ¬ ltP (smC f (n :: ss) t, n :: ss) p
end
section
variable {f : Nat → Nat → Int} {bx : Nat → Int} {cap : Int} {t : List Nat} {p q : Int × List Nat} {k : Nat} {o : Option (Int × List Nat)}
theorem BestP.unique (h : BestP f bx cap t p) (h' : BestP f bx cap t q) : p = q := by
  obtain ⟨a, l⟩ := p
  obtain ⟨b, m⟩ := q
  obtain ⟨h1, h2, h3⟩ := h
  obtain ⟨h4, h5, h6⟩ := h'
  simp only at h1 h2 h4 h5
  rcases ltP_total (a, l) (b, m) with h | h | h
  · exact absurd (by rw [← h2]; exact h) (h6 l h1)
  · exact h
  · exact absurd (by rw [← h5]; exact h) (h3 m h4)
theorem BestP.nil : BestP f bx cap [] (0, []) := ⟨rfl, rfl, fun ss h => by
  cases ss with
  | nil => exact ltP_irrefl _
  | cons n ss => have := h.1; have := h.2.1; simp at this; omega⟩
theorem BestK.zero : BestK f bx cap t 0 none := fun n ss h => h.1
/-- What is said of all cuttings with a first trip of one stop more. -/
theorem BestK.all (h : ∀ n ss, n ≤ k → Cut bx cap (n :: ss) t → ¬ ltP (smC f (n :: ss) t, n :: ss) q) (hp : BestP f bx cap (t.drop (k + 1)) p) (hq : q = (lenF f 0 (t.take (k + 1)) + p.1, (k + 1) :: p.2) ∨ ¬ ltP (lenF f 0 (t.take (k + 1)) + p.1, (k + 1) :: p.2) q) :
    ∀ n ss, n ≤ k + 1 → Cut bx cap (n :: ss) t → ¬ ltP (smC f (n :: ss) t, n :: ss) q := by
  intro n ss hn hc hlt
  by_cases e : n = k + 1
  · subst e
    have h1 := hp.2.2 ss hc.2.2.2
    have h2 : ¬ ltP (smC f ((k + 1) :: ss) t, (k + 1) :: ss) (lenF f 0 (t.take (k + 1)) + p.1, (k + 1) :: p.2) := fun h => h1 (ltP_cons.1 h)
    rcases hq with rfl | hq
    · exact h2 hlt
    · rcases ltP_total (smC f ((k + 1) :: ss) t, (k + 1) :: ss) (lenF f 0 (t.take (k + 1)) + p.1, (k + 1) :: p.2) with h3 | h3 | h3
      · exact h2 h3
      · rw [h3] at hlt; exact hq hlt
      · exact hq (ltP_trans h3 hlt)
  · exact h n ss (by omega) hc hlt
theorem BestK.first (h : BestK f bx cap t k none) (hk : k < t.length) (hl : ldS bx (t.take (k + 1)) ≤ cap) (hp : BestP f bx cap (t.drop (k + 1)) p) : BestK f bx cap t (k + 1) (some (lenF f 0 (t.take (k + 1)) + p.1, (k + 1) :: p.2)) := by
  refine ⟨⟨by omega, hk, hl, hp.1⟩, by show _ = _ + _; rw [hp.2.1], by simp, BestK.all (fun n ss hn hc _ => ?_) hp (.inl rfl)⟩
  have := h n ss hc
  omega
theorem BestK.take (h : BestK f bx cap t k (some q)) (hk : k < t.length) (hl : ldS bx (t.take (k + 1)) ≤ cap) (hp : BestP f bx cap (t.drop (k + 1)) p) (hlt : ltP (lenF f 0 (t.take (k + 1)) + p.1, (k + 1) :: p.2) q) : BestK f bx cap t (k + 1) (some (lenF f 0 (t.take (k + 1)) + p.1, (k + 1) :: p.2)) := by
  refine ⟨⟨by omega, hk, hl, hp.1⟩, by show _ = _ + _; rw [hp.2.1], by simp, BestK.all (fun n ss hn hc h2 => ?_) hp (.inl rfl)⟩
  exact h.2.2.2 n ss hn hc (ltP_trans h2 hlt)
theorem BestK.keep (h : BestK f bx cap t k (some q)) (hp : BestP f bx cap (t.drop (k + 1)) p) (hlt : ¬ ltP (lenF f 0 (t.take (k + 1)) + p.1, (k + 1) :: p.2) q) : BestK f bx cap t (k + 1) (some q) :=
  ⟨h.1, h.2.1, h.2.2.1, BestK.all h.2.2.2 hp (.inr hlt)⟩
theorem BestK.done (h : BestK f bx cap t k (some q)) (h0 : 0 < t.length) (hn : ∀ n, k < n → n ≤ t.length → cap < ldS bx (t.take n)) : BestP f bx cap t q := by
  refine ⟨h.1, h.2.1, fun ss hc hlt => ?_⟩
  cases ss with
  | nil => have e : t = [] := hc; rw [e] at h0; simp at h0
  | cons n ss =>
    by_cases hk : n ≤ k
    · exact h.2.2.2 n ss hk hc hlt
    · have := hn n (by omega) hc.2.1
      have := hc.2.2.1
      omega
theorem ldS_take (h : ∀ x ∈ t, 0 ≤ bx x) {a b : Nat} (hab : a ≤ b) : ldS bx (t.take a) ≤ ldS bx (t.take b) := by
  obtain ⟨d, rfl⟩ : ∃ d, b = a + d := ⟨b - a, by omega⟩
  rw [List.take_add]
  unfold ldS
  rw [List.map_append, List.sum_append]
  have : ∀ l : List Nat, (∀ x ∈ l, 0 ≤ bx x) → 0 ≤ (l.map bx).sum := fun l => by
    induction l with
    | nil => intro _; simp
    | cons x l ih => intro hl; have h1 := hl x (by simp); have h2 := ih (fun y hy => hl y (by simp [hy])); simp; omega
  have := this ((t.drop a).take d) (fun x hx => h x (List.mem_of_mem_drop (List.mem_of_mem_take hx)))
  omega
theorem ldS_succ {k : Nat} (hk : k < t.length) : ldS bx (t.take (k + 1)) = ldS bx (t.take k) + bx t[k] := by
  rw [List.take_succ_eq_append_getElem hk]
  simp only [ldS, List.map_append, List.sum_append, List.map_cons, List.map_nil, List.sum_cons, List.sum_nil]; omega
theorem sgC_length : ∀ (ss t : List Nat), (sgC ss t).length = ss.length
  | [], _ => rfl
  | n :: ss, t => by simp [sgC, sgC_length ss (t.drop n)]
theorem sgC_flat : ∀ (ss t : List Nat), Cut bx cap ss t → (sgC ss t).flatten = t
  | [], t, h => by
    have e : t = [] := h
    rw [e]; rfl
  | n :: ss, t, h => by
    rw [sgC, List.flatten_cons, sgC_flat ss (t.drop n) h.2.2.2, List.take_append_drop]
theorem sgC_sizes : ∀ (ss t : List Nat), Cut bx cap ss t → (sgC ss t).map List.length = ss
  | [], t, h => rfl
  | n :: ss, t, h => by
    rw [sgC, List.map_cons, sgC_sizes ss (t.drop n) h.2.2.2, List.length_take, Nat.min_eq_left h.2.1]
theorem sgC_sum : ∀ (ss t : List Nat), ((sgC ss t).map (lenF f 0)).sum = smC f ss t
  | [], _ => rfl
  | n :: ss, t => by
    rw [sgC, List.map_cons, List.sum_cons, sgC_sum ss (t.drop n)]; rfl
theorem Cut.sum : ∀ (ss t : List Nat), Cut bx cap ss t → ss.sum = t.length
  | [], t, h => by
    have e : t = [] := h
    rw [e]; rfl
  | n :: ss, t, h => by
    have := Cut.sum ss (t.drop n) h.2.2.2
    have := h.2.1
    rw [List.sum_cons]
    simp at *
    omega
theorem Cut.pos : ∀ (ss t : List Nat), Cut bx cap ss t → ∀ n ∈ ss, 1 ≤ n
  | [], t, h, n, hn => by simp at hn
  | m :: ss, t, h, n, hn => by
    rcases List.mem_cons.1 hn with rfl | hn
    · exact h.1
    · exact Cut.pos ss _ h.2.2.2 n hn
end
end Go.Proofs.Ytmodbpglopfghaa
