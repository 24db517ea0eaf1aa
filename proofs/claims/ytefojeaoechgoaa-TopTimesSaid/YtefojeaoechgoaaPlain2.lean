/- Stretches of equal meals: no program. -/
import Derived.Test.YtefojeaoechgoaaRecs
namespace Go.Proofs.Ytefojeaoechgoaa

/-- One day more. -/
def pushS (out : List Sp) (d mm : Int) : List Sp :=
  match out.getLast? with
  | some s => if s.t = d ∧ s.m = mm then out.dropLast ++ [⟨s.f, s.t + 1, s.m⟩] else out ++ [⟨d, d + 1, mm⟩]
  | none => out ++ [⟨d, d + 1, mm⟩]
/-- The spans of the first days. -/
def spanS (want : Nat → Bool) (fn : Nat → Int) : Nat → List Sp
  | 0 => []
  | k + 1 => if want k then pushS (spanS want fn k) k (fn k) else spanS want fn k
theorem pushS_nil (d mm : Int) : pushS [] d mm = [⟨d, d + 1, mm⟩] := rfl
theorem pushS_same {out : List Sp} {s : Sp} {d mm : Int} (h1 : s.t = d) (h2 : s.m = mm) : pushS (out ++ [s]) d mm = out ++ [⟨s.f, s.t + 1, s.m⟩] := by
  simp [pushS, h1, h2]
theorem pushS_other {out : List Sp} {s : Sp} {d mm : Int} (h : ¬ (s.t = d ∧ s.m = mm)) : pushS (out ++ [s]) d mm = out ++ [s] ++ [⟨d, d + 1, mm⟩] := by
  unfold pushS
  rw [List.getLast?_concat]
  exact if_neg h
theorem pushS_length (out : List Sp) (d mm : Int) : (pushS out d mm).length ≤ out.length + 1 := by
  rcases List.eq_nil_or_concat out with rfl | ⟨o, s, rfl⟩
  · simp [pushS]
  · rw [List.concat_eq_append]
    by_cases h : s.t = d ∧ s.m = mm
    · rw [pushS_same h.1 h.2]; simp
    · rw [pushS_other h]; simp
theorem spanS_length (want : Nat → Bool) (fn : Nat → Int) : ∀ k, (spanS want fn k).length ≤ k
  | 0 => Nat.le_refl _
  | k + 1 => by
    have := spanS_length want fn k
    simp only [spanS]
    split
    · have h2 := pushS_length (spanS want fn k) k (fn k); omega
    · omega
def inS (x : Sp) (d : Int) : Bool := decide (x.f ≤ d ∧ d < x.t)
/-- What is known of the spans of the first k days. -/
structure SpOk (want : Nat → Bool) (fn : Nat → Int) (k : Nat) (out : List Sp) : Prop where
  has : ∀ d : Nat, d < k → want d = true → ∃ s ∈ out, inS s d = true
  own : ∀ s ∈ out, ∀ d : Int, inS s d = true → ∃ e : Nat, d = e ∧ e < k ∧ want e = true ∧ fn e = s.m
  pos : ∀ s ∈ out, 0 ≤ s.f ∧ s.f < s.t ∧ s.t ≤ k
theorem SpOk.zero (want : Nat → Bool) (fn : Nat → Int) : SpOk want fn 0 [] := ⟨fun d h => by omega, fun s h => by simp at h, fun s h => by simp at h⟩
theorem SpOk.skip {want : Nat → Bool} {fn : Nat → Int} {k : Nat} {out : List Sp} (h : SpOk want fn k out) (hw : want k = false) : SpOk want fn (k + 1) out := by
  refine ⟨fun d hd hwd => ?_, fun s hs d hd => ?_, fun s hs => ?_⟩
  · by_cases e : d = k
    · subst e; rw [hw] at hwd; cases hwd
    · exact h.has d (by omega) hwd
  · obtain ⟨e, h1, h2, h3⟩ := h.own s hs d hd
    exact ⟨e, h1, by omega, h3⟩
  · have := h.pos s hs; omega
theorem SpOk.push {want : Nat → Bool} {fn : Nat → Int} {k : Nat} {out : List Sp} (h : SpOk want fn k out) (hw : want k = true) : SpOk want fn (k + 1) (pushS out k (fn k)) := by
  have new : SpOk want fn (k + 1) (out ++ [⟨k, k + 1, fn k⟩]) := by
    refine ⟨fun d hd hwd => ?_, fun s hs d hd => ?_, fun s hs => ?_⟩
    · by_cases e : d = k
      · subst e; exact ⟨⟨d, d + 1, fn d⟩, by simp, by simp [inS]; omega⟩
      · obtain ⟨s, hs, hi⟩ := h.has d (by omega) hwd
        exact ⟨s, by simp [hs], hi⟩
    · rcases List.mem_append.1 hs with hs | hs
      · obtain ⟨e, h1, h2, h3⟩ := h.own s hs d hd
        exact ⟨e, h1, by omega, h3⟩
      · obtain rfl : s = ⟨k, k + 1, fn k⟩ := by simpa using hs
        simp only [inS, decide_eq_true_eq] at hd
        exact ⟨k, by omega, by omega, hw, rfl⟩
    · rcases List.mem_append.1 hs with hs | hs
      · have := h.pos s hs; omega
      · obtain rfl : s = ⟨k, k + 1, fn k⟩ := by simpa using hs
        simp only; omega
  rcases List.eq_nil_or_concat out with rfl | ⟨o, s, rfl⟩
  · exact new
  · rw [List.concat_eq_append] at h new ⊢
    by_cases hc : s.t = k ∧ s.m = fn k
    · rw [pushS_same hc.1 hc.2]
      have hp := h.pos s (by simp)
      refine ⟨fun d hd hwd => ?_, fun x hx d hd => ?_, fun x hx => ?_⟩
      · by_cases e : d = k
        · subst e; exact ⟨⟨s.f, s.t + 1, s.m⟩, by simp, by simp only [inS, decide_eq_true_eq]; omega⟩
        · obtain ⟨x, hx, hi⟩ := h.has d (by omega) hwd
          rcases List.mem_append.1 hx with hx | hx
          · exact ⟨x, by simp [hx], hi⟩
          · obtain rfl : x = s := by simpa using hx
            simp only [inS, decide_eq_true_eq] at hi
            exact ⟨⟨x.f, x.t + 1, x.m⟩, by simp, by simp only [inS, decide_eq_true_eq]; omega⟩
      · rcases List.mem_append.1 hx with hx | hx
        · obtain ⟨e, h1, h2, h3⟩ := h.own x (by simp [hx]) d hd
          exact ⟨e, h1, by omega, h3⟩
        · obtain rfl : x = ⟨s.f, s.t + 1, s.m⟩ := by simpa using hx
          simp only [inS, decide_eq_true_eq] at hd
          by_cases hdk : d = k
          · exact ⟨k, hdk, by omega, hw, hc.2.symm⟩
          · obtain ⟨e, h1, h2, h3⟩ := h.own s (by simp) d (by simp only [inS, decide_eq_true_eq]; omega)
            exact ⟨e, h1, by omega, h3⟩
      · rcases List.mem_append.1 hx with hx | hx
        · have := h.pos x (by simp [hx]); omega
        · obtain rfl : x = ⟨s.f, s.t + 1, s.m⟩ := by simpa using hx
          simp only; omega
    · rw [pushS_other hc]; exact new
theorem spanS_ok (want : Nat → Bool) (fn : Nat → Int) : ∀ k, SpOk want fn k (spanS want fn k)
  | 0 => SpOk.zero _ _
  | k + 1 => by
    simp only [spanS]
    cases hw : want k
    · exact (spanS_ok want fn k).skip hw
    · exact (spanS_ok want fn k).push hw
theorem spanS_congr {want want' : Nat → Bool} {fn fn' : Nat → Int} : ∀ k, (∀ d, d < k → want d = want' d ∧ fn d = fn' d) → spanS want fn k = spanS want' fn' k
  | 0, _ => rfl
  | k + 1, h => by
    simp only [spanS, spanS_congr k (fun d hd => h d (by omega)), (h k (by omega)).1, (h k (by omega)).2]
/-- The meal of the first span that has a day. -/
def inM (l : List Sp) (d : Int) : Int := match l.find? (fun x => inS x d) with | some s => s.m | none => 0
theorem inM_of {want : Nat → Bool} {fn : Nat → Int} {k : Nat} {out : List Sp} (h : SpOk want fn k out) {d : Nat} (hd : d < k) : inM out d = if want d then fn d else 0 := by
  unfold inM
  cases hf : out.find? (fun x => inS x d) with
  | none =>
    rw [List.find?_eq_none] at hf
    cases hw : want d
    · rfl
    · obtain ⟨s, hs, hi⟩ := h.has d hd hw
      exact absurd hi (hf s hs)
  | some s =>
    have h1 := List.mem_of_find?_eq_some hf
    have h2 := List.find?_some hf
    obtain ⟨e, h3, h4, h5, h6⟩ := h.own s h1 d h2
    obtain rfl : d = e := by omega
    simp [h5, h6]
end Go.Proofs.Ytefojeaoechgoaa
