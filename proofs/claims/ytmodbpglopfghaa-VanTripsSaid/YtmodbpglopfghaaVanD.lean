/- The shortest way through all stops, set by set; plain. -/
import Derived.Test.YtmodbpglopfghaaVanC
namespace Go.Proofs.Ytmodbpglopfghaa
open Go.RowKit

section
variable (f : Nat → Nat → Int)
/-- The length of a way from the kitchen; its last stop stands first. -/
def pl : List Nat → Int
  | [] => 0
  | [a] => f 0 a
  | a :: b :: r => pl (b :: r) + f b a
/-- The length of a tour. -/
def lenF (at_ : Nat) : List Nat → Int
  | [] => f at_ 0
  | s :: r => f at_ s + lenF s r
end
def msk (p : List Nat) : Nat := p.foldr (fun a m => m ||| 2 ^ a) 0
/-- Stops of n places, none twice. -/
def Stp (n : Nat) (p : List Nat) : Prop := p.Nodup ∧ ∀ x ∈ p, 1 ≤ x ∧ x < n
theorem msk_bit (p : List Nat) (i : Nat) : (msk p).testBit i = p.contains i := by
  induction p with
  | nil => simp [msk]
  | cons a p ih =>
    have e : msk (a :: p) = msk p ||| 2 ^ a := rfl
    rw [e, Nat.testBit_or, ih, Nat.testBit_two_pow, List.contains_cons]
    rw [Bool.eq_iff_iff]
    simp only [Bool.or_eq_true, decide_eq_true_eq, beq_iff_eq]
    constructor
    · rintro (h | h)
      · exact .inr h
      · exact .inl h.symm
    · rintro (h | h)
      · exact .inr h.symm
      · exact .inl h
theorem msk_lt {n : Nat} {p : List Nat} (h : Stp n p) : msk p < 2 ^ n := by
  apply Nat.lt_pow_two_of_testBit
  intro i hi
  rw [msk_bit]
  cases hc : p.contains i with
  | false => rfl
  | true =>
    have := (h.2 i (List.contains_iff_mem.1 hc)).2
    omega
theorem msk_even {n : Nat} {p : List Nat} (h : Stp n p) : msk p % 2 = 0 := by
  have h0 := msk_bit p 0
  have hc : p.contains 0 = false := by
    cases hc : p.contains 0 with
    | false => rfl
    | true =>
      have := (h.2 0 (List.contains_iff_mem.1 hc)).1
      omega
  rw [hc, Nat.testBit_zero] at h0
  simpa using h0
theorem or_gt {s t : Nat} (h : s.testBit t = false) : s < s ||| 2 ^ t := by
  refine Nat.lt_of_le_of_ne Nat.left_le_or fun e => ?_
  have h2 := congrArg (fun x => x.testBit t) e
  simp only [Nat.testBit_or, Nat.testBit_two_pow, h] at h2
  simp at h2
section
variable (n : Nat) (f : Nat → Nat → Int)
/-- What is known of the ways so far: B tells which sets and last stops were gone on from. -/
structure DP (m : Nat → Nat → Option Int) (B : Nat → Nat → Prop) : Prop where
  sound : ∀ s l d, m s l = some d → ∃ r, Stp n (l :: r) ∧ msk (l :: r) = s ∧ pl f (l :: r) = d
  init : ∀ t, 1 ≤ t → t < n → ∃ e, m (2 ^ t) t = some e ∧ e ≤ f 0 t
  comp : ∀ s l d, B s l → m s l = some d → ∀ t, 1 ≤ t → t < n → s.testBit t = false → ∃ e, m (s ||| 2 ^ t) t = some e ∧ e ≤ d + f l t
/-- The sets before s, and s with last stops before l. -/
def Bef (s l : Nat) (s' l' : Nat) : Prop := s' < s ∨ s' = s ∧ l' < l
end
section
variable {n : Nat} {f : Nat → Nat → Int} {m : Nat → Nat → Option Int} {B : Nat → Nat → Prop}
theorem DP.mono {B' : Nat → Nat → Prop} (h : DP n f m B) (hb : ∀ s l d, m s l = some d → B' s l → B s l) : DP n f m B' :=
  ⟨h.sound, h.init, fun s l d hB hm => h.comp s l d (hb s l d hm hB) hm⟩
theorem DP.upd {s l : Nat} {v : Int} (h : DP n f m B) (hv : ∃ r, Stp n (l :: r) ∧ msk (l :: r) = s ∧ pl f (l :: r) = v) (hle : ∀ e, m s l = some e → v ≤ e) (hB : ∀ l', ¬ B s l') : DP n f (upd m s l v) B := by
  refine ⟨fun s' l' d hd => ?_, fun t h1 h2 => ?_, fun s' l' d hb hd t h1 h2 h3 => ?_⟩
  · unfold Ytmodbpglopfghaa.upd at hd
    by_cases e : s' = s ∧ l' = l
    · obtain ⟨rfl, rfl⟩ := e
      rw [if_pos ⟨rfl, rfl⟩] at hd
      injection hd with hd
      subst hd
      exact hv
    · rw [if_neg e] at hd
      exact h.sound s' l' d hd
  · obtain ⟨e, he, hle'⟩ := h.init t h1 h2
    unfold Ytmodbpglopfghaa.upd
    by_cases ek : 2 ^ t = s ∧ t = l
    · rw [if_pos ek]
      rw [ek.1, ek.2] at he
      exact ⟨v, rfl, Int.le_trans (hle e he) hle'⟩
    · rw [if_neg ek]
      exact ⟨e, he, hle'⟩
  · have hne : s' ≠ s := fun e => hB l' (e ▸ hb)
    have hd' : m s' l' = some d := by
      unfold Ytmodbpglopfghaa.upd at hd
      rwa [if_neg (fun e => hne e.1)] at hd
    obtain ⟨e, he, hle'⟩ := h.comp s' l' d hb hd' t h1 h2 h3
    unfold Ytmodbpglopfghaa.upd
    by_cases ek : (s' ||| 2 ^ t) = s ∧ t = l
    · rw [if_pos ek]
      rw [ek.1, ek.2] at he
      exact ⟨v, rfl, Int.le_trans (hle e he) hle'⟩
    · rw [if_neg ek]
      exact ⟨e, he, hle'⟩
/-- One way more. -/
theorem path_more {s l t : Nat} {d : Int} (h : ∃ r, Stp n (l :: r) ∧ msk (l :: r) = s ∧ pl f (l :: r) = d) (h1 : 1 ≤ t) (h2 : t < n) (h3 : s.testBit t = false) :
    ∃ r, Stp n (t :: r) ∧ msk (t :: r) = s ||| 2 ^ t ∧ pl f (t :: r) = d + f l t := by
  obtain ⟨r, hs, hm, hp⟩ := h
  refine ⟨l :: r, ⟨List.nodup_cons.2 ⟨fun hc => ?_, hs.1⟩, fun x hx => ?_⟩, ?_, ?_⟩
  · rw [← hm, msk_bit, List.contains_iff_mem.2 hc] at h3
    cases h3
  · rcases List.mem_cons.1 hx with rfl | hx
    · exact ⟨h1, h2⟩
    · exact hs.2 x hx
  · show msk (l :: r) ||| 2 ^ t = s ||| 2 ^ t
    rw [hm]
  · show pl f (l :: r) + f l t = d + f l t
    rw [hp]
theorem DP.even (h : DP n f m B) {s l : Nat} {d : Int} (hd : m s l = some d) : s % 2 = 0 ∧ s < 2 ^ n ∧ 1 ≤ l ∧ l < n := by
  obtain ⟨r, hs, hm, _⟩ := h.sound s l d hd
  have := hs.2 l (by simp)
  exact ⟨hm ▸ msk_even hs, hm ▸ msk_lt hs, this.1, this.2⟩
/-- From the last stops of a set to the next set. -/
theorem DP.next {s : Nat} (h : DP n f m (Bef s n)) (hs : s % 2 = 0) : DP n f m (Bef (s + 2) 1) :=
  h.mono fun s' l' d hd hb => by
    obtain ⟨h1, _, h3, h4⟩ := h.even hd
    unfold Bef at hb ⊢
    omega
theorem DP.skip {s l : Nat} (h : DP n f m (Bef s l)) (hn : m s l = none) : DP n f m (Bef s (l + 1)) :=
  h.mono fun s' l' d hd hb => by
    unfold Bef at hb ⊢
    by_cases e : s' = s ∧ l' = l
    · obtain ⟨rfl, rfl⟩ := e
      rw [hn] at hd; cases hd
    · omega
/-- At the end each way is known to be no shorter than what the map holds. -/
theorem DP.all (h : DP n f m fun _ _ => True) : ∀ r l, Stp n (l :: r) → ∃ d, m (msk (l :: r)) l = some d ∧ d ≤ pl f (l :: r)
  | [], l, hs => by
    obtain ⟨h1, h2⟩ := hs.2 l (by simp)
    obtain ⟨e, he, hle⟩ := h.init l h1 h2
    have : msk [l] = 2 ^ l := by simp [msk]
    rw [this]
    exact ⟨e, he, hle⟩
  | b :: r, l, hs => by
    have hs' : Stp n (b :: r) := ⟨(List.nodup_cons.1 hs.1).2, fun x hx => hs.2 x (List.mem_cons_of_mem _ hx)⟩
    obtain ⟨d, hd, hle⟩ := h.all r b hs'
    obtain ⟨h1, h2⟩ := hs.2 l (by simp)
    have hb : (msk (b :: r)).testBit l = false := by
      rw [msk_bit]
      cases hc : (b :: r).contains l with
      | false => rfl
      | true => exact absurd (List.contains_iff_mem.1 hc) (List.nodup_cons.1 hs.1).1
    obtain ⟨e, he, hle'⟩ := h.comp _ b d trivial hd l h1 h2 hb
    exact ⟨e, he, by show e ≤ pl f (b :: r) + f b l; omega⟩
end
/-- The length of a way is not great. -/
theorem pl_bd {n : Nat} {f : Nat → Nat → Int} (hf : ∀ i j, i < n → j < n → 0 ≤ f i j ∧ f i j ≤ 1000) : ∀ p, (∀ x ∈ p, x < n) → 0 ≤ pl f p ∧ pl f p ≤ 1000 * (p.length : Int)
  | [], _ => by simp [pl]
  | [a], h => by
    have ha := h a (by simp)
    have := hf 0 a (by omega) ha
    simp only [pl, List.length_singleton]; omega
  | a :: b :: r, h => by
    have ih := pl_bd hf (b :: r) fun x hx => h x (List.mem_cons_of_mem _ hx)
    have := hf b a (h b (by simp)) (h a (by simp))
    simp only [pl, List.length_cons] at ih ⊢
    omega
theorem nodup_len : ∀ (n : Nat) (l : List Nat), l.Nodup → (∀ i ∈ l, i < n) → l.length ≤ n
  | 0, l, _, h => by
    cases l with
    | nil => simp
    | cons x l => exact absurd (h x (by simp)) (by omega)
  | n + 1, l, hn, h => by
    by_cases hm : n ∈ l
    · have h1 := nodup_len n (l.erase n) (hn.erase n) fun i hi => by
        rw [hn.mem_erase_iff] at hi
        have := h i hi.2
        have := hi.1
        omega
      rw [List.length_erase_of_mem hm] at h1
      omega
    · have h1 := nodup_len n l hn fun i hi => by
        have h2 := h i hi
        have h3 : i ≠ n := fun e => hm (e ▸ hi)
        omega
      omega
theorem stp_len {n : Nat} {p : List Nat} (h : Stp n p) (hn : 1 ≤ n) : p.length ≤ n - 1 := by
  have := nodup_len n (0 :: p) (List.nodup_cons.2 ⟨fun hc => by have := (h.2 0 hc).1; omega, h.1⟩) fun i hi => by
    rcases List.mem_cons.1 hi with rfl | hi
    · omega
    · exact (h.2 i hi).2
  rw [List.length_cons] at this
  omega
theorem len_ge : ∀ (k : Nat) (p : List Nat), p.Nodup → (∀ i, 1 ≤ i → i ≤ k → i ∈ p) → k ≤ p.length
  | 0, _, _, _ => Nat.zero_le _
  | k + 1, p, hn, h => by
    have hk := h (k + 1) (by omega) (by omega)
    have := len_ge k (p.erase (k + 1)) (hn.erase _) fun i h1 h2 => by
      rw [hn.mem_erase_iff]
      exact ⟨by omega, h i h1 (by omega)⟩
    rw [List.length_erase_of_mem hk] at this
    have := List.length_pos_of_mem hk
    omega
/-- A tour of all stops. -/
def Tour (n : Nat) (t : List Nat) : Prop := Stp n t ∧ t.length = n - 1
theorem Tour.mem {n : Nat} {t : List Nat} (h : Tour n t) {i : Nat} (h1 : 1 ≤ i) (h2 : i < n) : i ∈ t := by
  rcases Classical.em (i ∈ t) with hc | hc
  · exact hc
  · have := stp_len (n := n) (p := i :: t) ⟨List.nodup_cons.2 ⟨hc, h.1.1⟩, fun x hx => by
      rcases List.mem_cons.1 hx with rfl | hx
      · exact ⟨h1, h2⟩
      · exact h.1.2 x hx⟩ (by omega)
    rw [List.length_cons, h.2] at this
    omega
theorem all_bit (n i : Nat) : (2 ^ n - 2).testBit i = (decide (1 ≤ i) && decide (i < n)) := by
  cases n with
  | zero => simp
  | succ k =>
    have e : 2 ^ (k + 1) - 2 = (2 ^ k - 1) * 2 := by rw [Nat.pow_succ]; omega
    rw [e]
    cases i with
    | zero => simp [Nat.testBit_zero]
    | succ j =>
      rw [Nat.testBit_succ, Nat.mul_div_cancel _ (by decide), Nat.testBit_two_pow_sub_one]
      simp
theorem Tour.msk {n : Nat} {t : List Nat} (h : Tour n t) : msk t = 2 ^ n - 2 := by
  apply Nat.eq_of_testBit_eq
  intro i
  rw [msk_bit, all_bit, Bool.eq_iff_iff]
  simp only [List.contains_iff_mem, Bool.and_eq_true, decide_eq_true_eq]
  exact ⟨fun hi => h.1.2 i hi, fun hi => h.mem hi.1 hi.2⟩
theorem tour_of_msk {n : Nat} {t : List Nat} (hs : Stp n t) (hn : 1 ≤ n) (h : msk t = 2 ^ n - 2) : Tour n t := by
  refine ⟨hs, Nat.le_antisymm (stp_len hs hn) (len_ge _ _ hs.1 fun i h1 h2 => ?_)⟩
  have := msk_bit t i
  rw [h, all_bit, decide_eq_true h1, decide_eq_true (show i < n by omega)] at this
  exact List.contains_iff_mem.1 this.symm
theorem tour_to {n l : Nat} (h1 : 1 ≤ l) (h2 : l < n) : ∃ r, Tour n (l :: r) := by
  have hnd : (List.range' 1 (n - 1)).Nodup := List.nodup_range'
  have hmem : l ∈ List.range' 1 (n - 1) := by rw [List.mem_range'_1]; omega
  refine ⟨(List.range' 1 (n - 1)).erase l, ⟨List.nodup_cons.2 ⟨fun hc => ?_, hnd.erase _⟩, fun x hx => ?_⟩, ?_⟩
  · exact (hnd.mem_erase_iff.1 hc).1 rfl
  · rcases List.mem_cons.1 hx with rfl | hx
    · exact ⟨h1, h2⟩
    · have := List.mem_of_mem_erase hx
      rw [List.mem_range'_1] at this
      omega
  · rw [List.length_cons, List.length_erase_of_mem hmem, List.length_range']; omega
theorem Tour.reverse {n : Nat} {t : List Nat} (h : Tour n t) : Tour n t.reverse :=
  ⟨⟨(List.reverse_perm t).nodup_iff.2 h.1.1, fun x hx => h.1.2 x (List.mem_reverse.1 hx)⟩, by rw [List.length_reverse]; exact h.2⟩
theorem len_rev (f : Nat → Nat → Int) : ∀ (r : List Nat) (l : Nat) (q : List Nat), lenF f 0 ((l :: r).reverse ++ q) = pl f (l :: r) + lenF f l q
  | [], l, q => rfl
  | b :: r, l, q => by
    have ih := len_rev f r b (l :: q)
    have e : (l :: b :: r).reverse ++ q = (b :: r).reverse ++ (l :: q) := by simp
    rw [e, ih]
    show pl f (b :: r) + (f b l + lenF f l q) = pl f (b :: r) + f b l + lenF f l q
    omega
theorem len_rev' (f : Nat → Nat → Int) (r : List Nat) (l : Nat) : lenF f 0 (l :: r).reverse = pl f (l :: r) + f l 0 := by
  have := len_rev f r l []
  rw [List.append_nil] at this
  exact this
/-- The smallest length of a tour of all stops. -/
def IsShort (n : Nat) (f : Nat → Nat → Int) (z : Int) : Prop := (∀ t, Tour n t → z ≤ lenF f 0 t) ∧ ∃ t, Tour n t ∧ lenF f 0 t = z
theorem IsShort.unique {n : Nat} {f : Nat → Nat → Int} {y z : Int} (h : IsShort n f y) (h' : IsShort n f z) : y = z := by
  obtain ⟨t, h1, h2⟩ := h.2
  obtain ⟨t', h3, h4⟩ := h'.2
  have := h.1 t' h3
  have := h'.1 t h1
  omega
/-- The way back from the last stop of a way through all stops. -/
def vl (f : Nat → Nat → Int) (m : Nat → Nat → Option Int) (n l : Nat) : Int := (m (2 ^ n - 2) l).getD 0 + f l 0
section
variable {n : Nat} {f : Nat → Nat → Int} {m : Nat → Nat → Option Int}
theorem DP.last (h : DP n f m fun _ _ => True) (hf : ∀ i j, i < n → j < n → 0 ≤ f i j ∧ f i j ≤ 1000) {l : Nat} (h1 : 1 ≤ l) (h2 : l < n) : ∃ d, m (2 ^ n - 2) l = some d ∧ 0 ≤ d ∧ d ≤ 1000 * (n : Int) := by
  obtain ⟨r, hr⟩ := tour_to h1 h2
  obtain ⟨d, hd, _⟩ := h.all r l hr.1
  rw [hr.msk] at hd
  obtain ⟨r', hs, _, hp⟩ := h.sound _ _ _ hd
  have hb := pl_bd hf (l :: r') fun x hx => (hs.2 x hx).2
  have hl := stp_len hs (by omega)
  exact ⟨d, hd, by omega, by omega⟩
theorem DP.short (h : DP n f m fun _ _ => True) (hf : ∀ i j, i < n → j < n → 0 ≤ f i j ∧ f i j ≤ 1000) {z : Int} (hn : 2 ≤ n) (h1 : ∀ l, 1 ≤ l → l < n → z ≤ vl f m n l) (h2 : ∃ l, 1 ≤ l ∧ l < n ∧ z = vl f m n l) : IsShort n f z := by
  constructor
  · intro t ht
    have hr := ht.reverse
    cases he : t.reverse with
    | nil => rw [he] at hr; have := hr.2; simp at this; omega
    | cons l r =>
      rw [he] at hr
      obtain ⟨d, hd, hle⟩ := h.all r l hr.1
      obtain ⟨g1, g2⟩ := hr.1.2 l (by simp)
      rw [hr.msk] at hd
      have h3 := h1 l g1 g2
      have e : t = (l :: r).reverse := by rw [← he, List.reverse_reverse]
      rw [e, len_rev']
      unfold vl at h3
      rw [hd, Option.getD_some] at h3
      omega
  · obtain ⟨l, g1, g2, rfl⟩ := h2
    obtain ⟨d, hd, _⟩ := h.last hf g1 g2
    obtain ⟨r, hs, hm, hp⟩ := h.sound _ _ _ hd
    refine ⟨(l :: r).reverse, (tour_of_msk hs (by omega) hm).reverse, ?_⟩
    rw [len_rev', hp, vl, hd, Option.getD_some]
end
/-- The ways of one stop. -/
def mI (f : Nat → Nat → Int) (k : Nat) : Nat → Nat → Option Int := fun s l => if 1 ≤ l ∧ l ≤ k ∧ s = 2 ^ l then some (f 0 l) else none
theorem mI_zero (f : Nat → Nat → Int) : mI f 0 = fun _ _ => none := by
  funext s l
  unfold mI
  rw [if_neg (by omega)]
theorem mI_succ (f : Nat → Nat → Int) (k : Nat) : upd (mI f k) (2 ^ (k + 1)) (k + 1) (f 0 (k + 1)) = mI f (k + 1) := by
  funext s l
  unfold upd mI
  by_cases e : s = 2 ^ (k + 1) ∧ l = k + 1
  · rw [if_pos e, if_pos ⟨by omega, by omega, by rw [e.1, e.2]⟩, e.2]
  · rw [if_neg e]
    by_cases e2 : 1 ≤ l ∧ l ≤ k ∧ s = 2 ^ l
    · rw [if_pos e2, if_pos ⟨e2.1, by omega, e2.2.2⟩]
    · rw [if_neg e2, if_neg]
      rintro ⟨h1, h2, h3⟩
      by_cases hl : l = k + 1
      · exact e ⟨by rw [h3, hl], hl⟩
      · exact e2 ⟨h1, by omega, h3⟩
theorem DP.start (n : Nat) (f : Nat → Nat → Int) : DP n f (mI f (n - 1)) (Bef 2 1) := by
  refine ⟨fun s l d hd => ?_, fun t h1 h2 => ?_, fun s l d hb hd => ?_⟩
  · unfold mI at hd
    split at hd
    · rename_i h
      injection hd with hd
      exact ⟨[], ⟨by simp, fun x hx => by rw [List.mem_singleton] at hx; omega⟩, by rw [h.2.2]; simp [Ytmodbpglopfghaa.msk], hd⟩
    · cases hd
  · unfold mI
    rw [if_pos ⟨h1, by omega, rfl⟩]
    exact ⟨_, rfl, Int.le_refl _⟩
  · unfold mI at hd
    split at hd
    · rename_i h
      obtain ⟨h1, _, rfl⟩ := h
      have : 2 ^ 1 ≤ 2 ^ l := Nat.pow_le_pow_right (by decide) h1
      unfold Bef at hb
      omega
    · cases hd
end Go.Proofs.Ytmodbpglopfghaa
