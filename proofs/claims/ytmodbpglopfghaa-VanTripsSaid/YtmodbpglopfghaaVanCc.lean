/- How plans compare; all cuttings; rows that lie apart from one block. -/
import Derived.Test.YtmodbpglopfghaaVanCb
set_option linter.unusedSimpArgs false
set_option linter.unusedVariables false
namespace Go.Proofs.Ytmodbpglopfghaa
open Go Go.RowKit

theorem cmp_lex : ∀ (xs ys : List Nat), xs.length = ys.length → (cmpL (intL xs) (intL ys) < 0 ↔ lexS xs ys)
  | [], [], _ => by simp [intL, cmpL, lexS]
  | [], y :: b, h => by simp at h
  | x :: a, [], h => by simp at h
  | x :: a, y :: b, h => by
    have ih := cmp_lex a b (by simpa using h)
    have e : cmpL (intL (x :: a)) (intL (y :: b)) = if Lib.compareInt (x : Int) (y : Int) = 0 then cmpL (intL a) (intL b) else Lib.compareInt (x : Int) (y : Int) := rfl
    rw [e]
    unfold lexS
    rw [← ih]
    unfold Lib.compareInt
    rcases Nat.lt_trichotomy x y with h1 | rfl | h1
    · rw [if_pos (show (x : Int) < (y : Int) by omega)]
      simp [h1]
    · rw [if_neg (show ¬ (x : Int) < (x : Int) by omega), if_neg (show ¬ (x : Int) > (x : Int) by omega)]
      simp
    · rw [if_neg (show ¬ (x : Int) < (y : Int) by omega), if_pos (show (x : Int) > (y : Int) by omega)]
      simp; omega
/-- The sign of what compare returns. -/
theorem or_lt (s s' : Int) (xs ys : List Nat) : orL [Lib.compareInt s s', Lib.compareInt (xs.length : Int) (ys.length : Int), cmpL (intL xs) (intL ys)] < 0 ↔ ltP (s, xs) (s', ys) := by
  unfold ltP
  simp only [orL]
  rcases Int.lt_trichotomy s s' with h1 | rfl | h1
  · have : Lib.compareInt s s' = -1 := by unfold Lib.compareInt; rw [if_pos h1]
    rw [this]; simp [h1]
  · have : Lib.compareInt s s = 0 := by unfold Lib.compareInt; rw [if_neg (by omega), if_neg (by omega)]
    rw [this, if_pos rfl]
    rcases Nat.lt_trichotomy xs.length ys.length with h2 | h2 | h2
    · have : Lib.compareInt (xs.length : Int) (ys.length : Int) = -1 := by unfold Lib.compareInt; rw [if_pos (by omega)]
      rw [this]; simp [h2]
    · have : Lib.compareInt (xs.length : Int) (ys.length : Int) = 0 := by unfold Lib.compareInt; rw [if_neg (by omega), if_neg (by omega)]
      rw [this, if_pos rfl, ← cmp_lex xs ys h2]
      have e : (if cmpL (intL xs) (intL ys) = 0 then (0 : Int) else cmpL (intL xs) (intL ys)) = cmpL (intL xs) (intL ys) := by
        split
        · rename_i h; exact h.symm
        · rfl
      rw [e]
      constructor
      · intro h; exact .inr ⟨rfl, .inr ⟨h2, h⟩⟩
      · rintro (h | ⟨_, h | ⟨_, h⟩⟩)
        · omega
        · omega
        · exact h
    · have : Lib.compareInt (xs.length : Int) (ys.length : Int) = 1 := by unfold Lib.compareInt; rw [if_neg (by omega), if_pos (by omega)]
      rw [this]
      simp
      omega
  · have : Lib.compareInt s s' = 1 := by unfold Lib.compareInt; rw [if_neg (by omega), if_pos (by omega)]
    rw [this]
    simp
    omega

section
variable {bx : Nat → Int} {cap : Int} {t : List Nat} {k : Nat} {L R : List (List Nat)}
/-- These are all cuttings of which the first trip has at most k stops. -/
def CutF (bx : Nat → Int) (cap : Int) (t : List Nat) (k : Nat) (L : List (List Nat)) : Prop := (∀ ss, ss ∈ L ↔ Cut bx cap ss t ∧ ∃ n r, ss = n :: r ∧ n ≤ k) ∧ L.length + 2 ^ (t.length - k) ≤ 2 ^ t.length
/-- These are all cuttings. -/
def CutA (bx : Nat → Int) (cap : Int) (t : List Nat) (L : List (List Nat)) : Prop := (∀ ss, ss ∈ L ↔ Cut bx cap ss t) ∧ L.length ≤ 2 ^ t.length
theorem CutA.nil : CutA bx cap [] [[]] := ⟨fun ss => by
  cases ss with
  | nil => simp [Cut]
  | cons n r => simp [Cut]; intro h h2; omega, by simp⟩
theorem CutF.zero : CutF bx cap t 0 [] := ⟨fun ss => by
  constructor
  · intro h; cases h
  · rintro ⟨h, n, r, rfl, hn⟩
    have := h.1
    omega, by simp⟩
theorem CutF.next (h : CutF bx cap t k L) (hk : k < t.length) (hl : ldS bx (t.take (k + 1)) ≤ cap) (hr : CutA bx cap (t.drop (k + 1)) R) : CutF bx cap t (k + 1) (L ++ R.map fun r => (k + 1) :: r) := by
  refine ⟨fun ss => ?_, ?_⟩
  · rw [List.mem_append, h.1, List.mem_map]
    constructor
    · rintro (⟨h1, n, r, rfl, h2⟩ | ⟨r, h1, rfl⟩)
      · exact ⟨h1, n, r, rfl, by omega⟩
      · exact ⟨⟨by omega, hk, hl, (hr.1 r).1 h1⟩, k + 1, r, rfl, Nat.le_refl _⟩
    · rintro ⟨h1, n, r, rfl, h2⟩
      by_cases e : n = k + 1
      · subst e
        exact .inr ⟨r, (hr.1 r).2 h1.2.2.2, rfl⟩
      · exact .inl ⟨h1, n, r, rfl, by omega⟩
  · have h1 := h.2
    have h2 := hr.2
    rw [List.length_drop] at h2
    rw [List.length_append, List.length_map]
    have e : 2 ^ (t.length - k) = 2 ^ (t.length - (k + 1)) * 2 := by
      rw [← Nat.pow_succ]
      congr 1
      omega
    omega
theorem CutF.all (h : CutF bx cap t k L) (h0 : 0 < t.length) (hn : ∀ n, k < n → n ≤ t.length → cap < ldS bx (t.take n)) : CutA bx cap t L := by
  refine ⟨fun ss => ?_, Nat.le_trans (Nat.le_add_right _ _) h.2⟩
  rw [h.1]
  constructor
  · exact fun h => h.1
  · intro hc
    refine ⟨hc, ?_⟩
    cases ss with
    | nil => have e : t = [] := hc; rw [e] at h0; simp at h0
    | cons n r =>
      refine ⟨n, r, rfl, ?_⟩
      by_cases hk : n ≤ k
      · exact hk
      · have := hn n (by omega) hc.2.1
        have := hc.2.2.1
        omega
theorem two_pow_le {n m : Nat} (h : n ≤ m) : 2 ^ n ≤ 2 ^ m := Nat.pow_le_pow_right (by decide) h
/-- Each tour of which each stop can be loaded can be cut. -/
theorem cut_ones (h : ∀ x ∈ t, bx x ≤ cap) : Cut bx cap (List.replicate t.length 1) t := by
  induction t with
  | nil => rfl
  | cons x t ih =>
    refine ⟨Nat.le_refl _, by simp, ?_, ih fun y hy => h y (by simp [hy])⟩
    have := h x (by simp)
    simpa [ldS] using this
theorem CutA.ne (h : CutA bx cap t L) (hb : ∀ x ∈ t, bx x ≤ cap) : L ≠ [] := fun e => by
  have := (h.1 _).2 (cut_ones hb)
  rw [e] at this; cases this
end

section
variable {N N' : Nat → Prop} {w w' : World} {A : Option Addr}
/-- Ints in blocks of which N holds. -/
def IntsN (N : Nat → Prop) (w : World) (A : Option Addr) (zs : List Int) : Prop := ∀ j (hj : j < zs.length), ∃ b off, A = some ⟨b, off, none⟩ ∧ N b ∧ b < w.heap.size ∧ w.cell? ⟨b, off + j, none⟩ = some (.int .i64 zs[j])
/-- A table in blocks of which N holds. -/
def TblN (N : Nat → Prop) (w : World) (A : Option Addr) (rows : List (List Int)) : Prop := ∀ k (hk : k < rows.length), ∃ b off A1 c1, A = some ⟨b, off, none⟩ ∧ N b ∧ b < w.heap.size ∧ w.cell? ⟨b, off + k, none⟩ = some (.slice A1 rows[k].length c1) ∧ IntsN N w A1 rows[k]
/-- What is said of the blocks of w holds of w'. -/
def Mv (N N' : Nat → Prop) (w w' : World) : Prop := w.heap.size ≤ w'.heap.size ∧ ∀ b, N b → b < w.heap.size → N' b ∧ ∀ o, w'.cell? ⟨b, o, none⟩ = w.cell? ⟨b, o, none⟩
theorem Mv.below (h : Below w.heap.size w w') : Mv N N w w' := ⟨h.size, fun b hn hb => ⟨hn, fun o => h.cell (p := ⟨b, o, none⟩) hb⟩⟩
theorem Mv.imp (h : ∀ b, N b → b < w.heap.size → N' b) : Mv N N' w w := ⟨Nat.le_refl _, fun b hn hb => ⟨h b hn hb, fun o => rfl⟩⟩
theorem Mv.only {G : Nat} (h : Only G w w') (hN : ∀ b, N b → b ≠ G) : Mv N N w w' := ⟨h.size, fun b hn hb => ⟨hn, fun o => h.cell (p := ⟨b, o, none⟩) hb (hN b hn)⟩⟩
theorem Mv.grown {gx gx' : Option Nat} (h : w.grownBy w' gx) (hat : ∀ k, gx' = some k → gx = some k ∨ k = w.heap.size) : Mv (fun b => gx ≠ some b) (fun b => gx' ≠ some b) w w' := ⟨h.size, fun b hn hb => ⟨fun e => by
  rcases hat b e with h1 | h1
  · exact hn h1
  · omega, fun o => World.cell?_of_block (h.block b hb (fun e => hn e.symm))⟩⟩
theorem IntsN.mv {zs : List Int} (h : IntsN N w A zs) (m : Mv N N' w w') : IntsN N' w' A zs := fun j hj => by
  obtain ⟨b, off, e, hn, hb, hc⟩ := h j hj
  exact ⟨b, off, e, (m.2 b hn hb).1, Nat.lt_of_lt_of_le hb m.1, ((m.2 b hn hb).2 _).trans hc⟩
theorem TblN.mv {rows : List (List Int)} (h : TblN N w A rows) (m : Mv N N' w w') : TblN N' w' A rows := fun k hk => by
  obtain ⟨b, off, A1, c1, e, hn, hb, hc, hi⟩ := h k hk
  exact ⟨b, off, A1, c1, e, (m.2 b hn hb).1, Nat.lt_of_lt_of_le hb m.1, ((m.2 b hn hb).2 _).trans hc, hi.mv m⟩
theorem IntsN.at {zs : List Int} (h : IntsN N w A zs) : IntsAt w.heap.size w A zs := fun k hk => by
  obtain ⟨b, off, e, hn, hb, hc⟩ := h k hk
  refine ⟨b, off, e, hb, fun j hj => ?_⟩
  obtain rfl : j = 0 := by omega
  simp only [Nat.mul_one, Nat.add_zero, hc]
  simp [hk]
theorem TblN.at {rows : List (List Int)} (h : TblN N w A rows) : TblAt w.heap.size w A rows := fun k hk => by
  obtain ⟨b, off, A1, c1, e, hn, hb, hc, hi⟩ := h k hk
  exact ⟨b, off, A1, c1, e, hb, hc, hi.at⟩
theorem IntsAt.toN {B : Nat} {zs : List Int} (h : IntsAt B w A zs) (hB : B ≤ w.heap.size) (hN : ∀ b, b < B → N b) : IntsN N w A zs := fun j hj => by
  obtain ⟨b, off, e, hb, hc⟩ := h.at hj
  exact ⟨b, off, e, hN b hb, by omega, hc⟩
theorem IntsN.of_own {base e c n : Nat} {zs : List Int} (h : w.ownsRow base e 1 (.slice A n c) n (zs.map (Value.int .i64))) (hn : zs.length = n) (hN : ∀ b, base ≤ b → b < w.heap.size → N b) : IntsN N w A zs := fun j hj => by
  obtain ⟨g, rfl, hg, hgb, hcell⟩ := own_cell h (k := j) (u := .int .i64 zs[j]) (by omega) (by simp [hj])
  exact ⟨g, 0, rfl, hN g hgb hg, hg, by rw [Nat.zero_add]; exact hcell⟩
/-- The values of a table's cells. -/
def RowQ (N : Nat → Prop) (w : World) (vs : List Value) (rows : List (List Int)) : Prop := vs.length = rows.length ∧ ∀ k (hk : k < rows.length), ∃ A1 c1, vs[k]? = some (.slice A1 rows[k].length c1) ∧ IntsN N w A1 rows[k]
theorem RowQ.nil : RowQ N w [] [] := ⟨rfl, fun k hk => by simp at hk⟩
theorem RowQ.mv {vs : List Value} {rows : List (List Int)} (h : RowQ N w vs rows) (m : Mv N N' w w') : RowQ N' w' vs rows := ⟨h.1, fun k hk => by
  obtain ⟨A1, c1, e, hi⟩ := h.2 k hk
  exact ⟨A1, c1, e, hi.mv m⟩⟩
theorem RowQ.cons {vs : List Value} {rows : List (List Int)} {r : List Int} {A1 : Option Addr} {n c1 : Nat} (h : RowQ N w vs rows) (hn : r.length = n) (hi : IntsN N w A1 r) : RowQ N w (.slice A1 n c1 :: vs) (r :: rows) := by
  subst hn
  refine ⟨by simp [h.1], fun k hk => ?_⟩
  cases k with
  | zero => exact ⟨A1, c1, rfl, hi⟩
  | succ k =>
    obtain ⟨A2, c2, e, hi2⟩ := h.2 k (by simpa using hk)
    exact ⟨A2, c2, by simpa using e, by simpa using hi2⟩
theorem TblN.row {rows : List (List Int)} (h : TblN N w A rows) : ∃ vs, RowQ N w vs rows ∧ (∀ ad, A = some ad → ∀ j u, vs[j]? = some u → w.cell? (ad.add j) = some u) ∧ (∀ u ∈ vs, u.oneCell' = true) ∧ (A = none → rows.length = 0) := by
  have key : ∀ k, ∃ v : Value, ∀ (hk : k < rows.length), ∃ b off A1 c1, A = some ⟨b, off, none⟩ ∧ v = .slice A1 rows[k].length c1 ∧ w.cell? ⟨b, off + k, none⟩ = some v ∧ IntsN N w A1 rows[k] := fun k => by
    by_cases hk : k < rows.length
    · obtain ⟨b, off, A1, c1, e, _, _, h2, h4⟩ := h k hk
      exact ⟨.slice A1 rows[k].length c1, fun _ => ⟨b, off, A1, c1, e, rfl, h2, h4⟩⟩
    · exact ⟨.int .i64 0, fun h => absurd h hk⟩
  obtain ⟨f, hf⟩ : ∃ f : Nat → Value, ∀ k (hk : k < rows.length), ∃ b off A1 c1, A = some ⟨b, off, none⟩ ∧ f k = .slice A1 rows[k].length c1 ∧ w.cell? ⟨b, off + k, none⟩ = some (f k) ∧ IntsN N w A1 rows[k] := ⟨fun k => Classical.choose (key k), fun k hk => Classical.choose_spec (key k) hk⟩
  have hget : ∀ k, k < rows.length → ((List.range rows.length).map f)[k]? = some (f k) := fun k hk => by simp [hk]
  refine ⟨(List.range rows.length).map f, ⟨by simp, fun k hk => ?_⟩, fun ad had j u hu => ?_, fun u hu => ?_, fun e => ?_⟩
  · obtain ⟨b, off, A1, c1, _, e, _, h4⟩ := hf k hk
    exact ⟨A1, c1, by rw [hget k hk, e], h4⟩
  · have hj : j < rows.length := by
      have := (List.getElem?_eq_some_iff.1 hu).1
      simpa using this
    obtain ⟨b, off, A1, c1, e, _, h2, _⟩ := hf j hj
    rw [had] at e
    injection e with e
    subst e
    rw [hget j hj] at hu
    rw [Addr.add_lit, h2, hu]
  · obtain ⟨k, hk, rfl⟩ := List.mem_map.1 hu
    obtain ⟨_, _, _, _, _, e, _⟩ := hf k (List.mem_range.1 hk)
    rw [e]; rfl
  · rcases Nat.eq_zero_or_pos rows.length with h0 | h0
    · exact h0
    · obtain ⟨_, _, _, _, e2, _⟩ := hf 0 h0
      rw [e] at e2; cases e2
theorem RowQ.tbl {vs : List Value} {rows : List (List Int)} {base e n c : Nat} (h : RowQ N w vs rows) (hown : w.ownsRow base e 1 (.slice A n c) n vs) (hn : rows.length = n) (hN : ∀ b, base ≤ b → b < w.heap.size → N b) : TblN N w A rows := fun k hk => by
  obtain ⟨A1, c1, e1, hi⟩ := h.2 k hk
  obtain ⟨g, rfl, hg, hgb, hcell⟩ := own_cell hown (k := k) (by omega) e1
  exact ⟨g, 0, A1, c1, rfl, hN g hgb hg, hg, by rw [Nat.zero_add]; exact hcell, hi⟩
theorem RowQ.snoc {vs : List Value} {rows : List (List Int)} {r : List Int} {A1 : Option Addr} {n c1 : Nat} (h : RowQ N w vs rows) (hn : r.length = n) (hi : IntsN N w A1 r) : RowQ N w (vs ++ [.slice A1 n c1]) (rows ++ [r]) := by
  subst hn
  refine ⟨by simp [h.1], fun k hk => ?_⟩
  have hl := h.1
  by_cases hlt : k < rows.length
  · obtain ⟨A2, c2, e, hi2⟩ := h.2 k hlt
    exact ⟨A2, c2, by rw [List.getElem?_append_left (by omega), e, List.getElem_append_left hlt], by rw [List.getElem_append_left hlt]; exact hi2⟩
  · have hk' : k = rows.length := by simp at hk; omega
    subst hk'
    exact ⟨A1, c1, by rw [List.getElem?_append_right (by omega), hl]; simp, by simpa using hi⟩
end
end Go.Proofs.Ytmodbpglopfghaa
