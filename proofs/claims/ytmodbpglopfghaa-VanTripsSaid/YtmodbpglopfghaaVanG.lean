/- The program's smallest tree. -/
import Derived.Test.YtmodbpglopfghaaVanF
import Derived.Test.YtmodbpglopfghaaSlices
import Derived.ArgAppend
import Derived.Deep.RegionHeld3
set_option linter.unusedSimpArgs false
namespace Go.Proofs.Ytmodbpglopfghaa
open Go.RowKit

/-- The places that are in: one of a longer row, or a row of the call's own that is not g. -/
def InS (base g : Nat) (w : World) (v : Value) (I : List Nat) : Prop :=
  (∃ b off x, v = .slice (some ⟨b, off, none⟩) 1 1 ∧ I = [x] ∧ b < w.heap.size ∧ b ≠ g ∧ w.cell? ⟨b, off, none⟩ = some (.int .i64 (x : Int))) ∨
  (w.ownsRow base 3 1 v I.length ((intL I).map (Value.int .i64)) ∧ v.ownBlock ≠ some g ∧ I ≠ [])
theorem InS.at {base g : Nat} {w : World} {v : Value} {I : List Nat} (h : InS base g w v I) : ∃ b off c, v = .slice (some ⟨b, off, none⟩) I.length c ∧ b < w.heap.size ∧ b ≠ g ∧ ∀ k (hk : k < I.length), w.cell? ⟨b, off + k, none⟩ = some (.int .i64 ((I[k] : Nat) : Int)) := by
  rcases h with ⟨b, off, x, rfl, rfl, h1, h2, h3⟩ | ⟨h1, h2, h3⟩
  · exact ⟨b, off, 1, rfl, h1, h2, fun k hk => by
      obtain rfl : k = 0 := by simpa using hk
      exact h3⟩
  · obtain ⟨A, c, rfl⟩ := own_form h1
    have h4 : w.ownsRow base 3 1 (.slice A (intL I).length c) (intL I).length ((intL I).map (Value.int .i64)) := by rw [intL_length]; exact h1
    have h5 := IntsAt.of_own h4
    have h0 : 0 < I.length := List.length_pos_iff.2 h3
    obtain ⟨b, off, rfl, hb, _⟩ := h5.at (k := 0) (by rw [intL_length]; exact h0)
    refine ⟨b, off, c, rfl, hb, fun e => h2 (by rw [← e]; rfl), fun k hk => ?_⟩
    have := (h5.cells (k := k) (by rw [intL_length]; exact hk)).2
    rw [this, intL_get hk]
theorem InS.only {base g : Nat} {w w' : World} {v : Value} {I : List Nat} (h : InS base g w v I) (ho : Only g w w') : InS base g w' v I := by
  rcases h with ⟨b, off, x, e1, e2, h1, h2, h3⟩ | ⟨h1, h2, h3⟩
  · exact .inl ⟨b, off, x, e1, e2, Nat.lt_of_lt_of_le h1 ho.size, h2, (ho.cell (p := ⟨b, off, none⟩) h1 h2).trans h3⟩
  · exact .inr ⟨ho.own h1 (Ne.symm h2), h2, h3⟩
theorem intL_snoc (I : List Nat) (t : Nat) : (intL I).map (Value.int .i64) ++ [.int .i64 (t : Int)] = (intL (I ++ [t])).map (Value.int .i64) := by simp [intL]

set_option maxRecDepth 100000 in
/-- One place more comes in. -/
theorem wpList_in {w : World} {ops : Array Oper} {rest : List Oper} {o : Oper} {a : Act} {Q : Exit → Act → World → Prop} (hgd : o.guard = none) (s x : Operand)
    (ho : o.op = .call { callee := .builtin .append, args := #[s, x], argTypes := #[28, 28] })
    (base g : Nat) (v : Value) (I : List Nat) (hs : a.eval s = v) (hin : InS base g w v I) (hg : g < w.heap.size) (hbase : base ≤ w.heap.size) (hI : I.length ≤ 1000)
    (t : Nat) (b : Nat) (hx : a.eval x = .slice (some ⟨b, 0, none⟩) 1 1) (hc : w.cell? ⟨b, 0, none⟩ = some (.int .i64 (t : Int)))
    (h : ∀ v' w' row, InS base g w' v' (I ++ [t]) → w.grownBy w' row → (∀ k, row = some k → base ≤ k ∧ k ≠ g) → wpList Try.prog ops Q rest (a.put o.dst v') w') : wpList Try.prog ops Q (o :: rest) a w := by
  obtain ⟨j0, hj, hy0, hy1, hy2⟩ := info_parts info3
  have hnew : ∀ j u, [Value.int .i64 (t : Int)][j]? = some u → w.cell? ((⟨b, 0, none⟩ : Addr).add j) = some u := fun j u hj => by
    cases j with
    | zero => rw [Addr.add_lit]; rw [← hj]; exact hc
    | succ j => simp at hj
  rcases hin with ⟨b1, off, x1, rfl, rfl, h1, h2, h3⟩ | ⟨h1, h2, h3⟩
  · refine wpList_append_grows w hgd s x 28 ho 3 j0 _ 1 8 Try.underlying28 hj hy0 hy1 hy2 rfl (by decide) (some ⟨b1, off, none⟩) 1 1 [.int .i64 (x1 : Int)] hs (fun h => by cases h) rfl (fun b' hb' j u hu => ?_)
      ⟨b, 0, none⟩ 1 1 [.int .i64 (t : Int)] hx rfl hnew (by simp [Value.oneCell']) (by omega) (by simp [maxLen]) (by omega) (fun v' w' hown hgr => ?_)
    · injection hb' with hb'
      subst hb'
      cases j with
      | zero => rw [Addr.add_lit]; rw [← hu]; exact h3
      | succ j => simp at hu
    · refine h v' w' none (.inr ⟨own_base hown hbase, fun e => ?_, by simp⟩) hgr (fun k hk => by cases hk)
      have := (hown.lt g e).1
      omega
  · refine wpList_plain hgd fun K hK => ?_
    have hlen : I.length + 1 ≤ 1001 := by omega
    obtain ⟨v', w', hr, r1, r2, _, r4⟩ := run_append_own_at (P := Try.prog) w base 28 o.type 3 j0 _ 1 8 Try.underlying28 hj hy0 hy1 hy2 rfl (by decide) v I.length _ h1 ⟨b, 0, none⟩ 1 1 [.int .i64 (t : Int)] rfl hnew (by simp [Value.oneCell']) (by simp only [maxLen]; omega) (by omega) hbase
    unfold Oper.wp execOp
    simp only [ho, resolve, invoke, builtin, Sem.run_bind, Sem.run_pure, Result.andThen_ok, List.map_toArray, List.map_cons, List.map_nil, hs, hx, hr]
    refine hK _ _ (h v' w' v.ownBlock (.inr ⟨?_, fun e => ?_, by simp⟩) r2 fun k hk => ⟨(h1.lt k hk).1, fun e => h2 (by rw [hk, e])⟩)
    · rw [← intL_snoc, List.length_append]; exact r1
    · rcases r4 with r4 | r4
      · exact h2 (r4.symm.trans e)
      · rw [r4] at e; injection e with e; omega
/-- The least of the ways from the places that are in to the first k that are out, and to the next one from the first j. -/
def LeastTo (f : Nat → Nat → Int) (I O : List Nat) (k j : Nat) (best at_ : Int) : Prop :=
  (at_ = -1 ∧ best = 0 ∧ k = 0 ∧ j = 0) ∨
  ∃ s q : Nat, ∃ (hq : q < O.length), at_ = (q : Int) ∧ s ∈ I ∧ best = f s O[q] ∧ (q ≤ k) ∧
    (∀ (q' : Nat) (hq' : q' < O.length), q' < k → ∀ s' ∈ I, best ≤ f s' O[q']) ∧ ∀ (hk : k < O.length) (s' : Nat) (hs' : s' < I.length), s' < j → best ≤ f I[s'] O[k]
theorem erase_perm {O : List Nat} {q : Nat} (hq : q < O.length) : (O[q] :: O.eraseIdx q).Perm O := by
  have e : O = O.take q ++ O[q] :: O.drop (q + 1) := by rw [← List.drop_eq_getElem_cons hq, List.take_append_drop]
  rw [List.eraseIdx_eq_take_drop_succ]
  refine List.Perm.trans ?_ (List.Perm.of_eq e.symm)
  exact List.perm_middle.symm
section
variable {f : Nat → Nat → Int} {I O : List Nat} {k j : Nat} {best at_ : Int}
theorem LeastTo.next (h : LeastTo f I O k I.length best at_) (h0 : 0 < I.length) : LeastTo f I O (k + 1) 0 best at_ := by
  rcases h with ⟨_, _, _, h4⟩ | ⟨s, q, hq, h1, h2, h3, h4, h5, h6⟩
  · omega
  · refine .inr ⟨s, q, hq, h1, h2, h3, by omega, fun q' hq' hlt s' hs' => ?_, fun _ _ _ hj => absurd hj (Nat.not_lt_zero _)⟩
    by_cases e : q' = k
    · subst e
      obtain ⟨i, hi, rfl⟩ := List.mem_iff_getElem.1 hs'
      exact h6 hq' i hi hi
    · exact h5 q' hq' (by omega) s' hs'
theorem LeastTo.take (h : LeastTo f I O k j best at_) (hk : k < O.length) (hj : j < I.length) (hc : at_ < 0 ∨ f I[j] O[k] < best) : LeastTo f I O k (j + 1) (f I[j] O[k]) (k : Int) := by
  refine .inr ⟨I[j], k, hk, rfl, List.getElem_mem hj, rfl, Nat.le_refl _, fun q' hq' hlt s' hs' => ?_, fun _ s' hs' hlt => ?_⟩
  · rcases h with ⟨_, _, h3, _⟩ | ⟨s, q, hq, h1, h2, h3, h4, h5, h6⟩
    · omega
    · have := h5 q' hq' hlt s' hs'
      omega
  · by_cases e : s' = j
    · subst e; exact Int.le_refl _
    · rcases h with ⟨_, _, _, h4⟩ | ⟨s, q, hq, h1, h2, h3, h4, h5, h6⟩
      · omega
      · have := h6 hk s' hs' (by omega)
        omega
theorem LeastTo.leave (h : LeastTo f I O k j best at_) (hk : k < O.length) (hj : j < I.length) (h0 : 0 ≤ at_) (hc : best ≤ f I[j] O[k]) : LeastTo f I O k (j + 1) best at_ := by
  rcases h with ⟨h1, _⟩ | ⟨s, q, hq, h1, h2, h3, h4, h5, h6⟩
  · omega
  · refine .inr ⟨s, q, hq, h1, h2, h3, h4, h5, fun _ s' hs' hlt => ?_⟩
    by_cases e : s' = j
    · subst e; exact hc
    · exact h6 hk s' hs' (by omega)
/-- What is known of a growing tree. -/
structure Grw (f : Nat → Nat → Int) (P : List Nat) (lo hi : Int) (r : Nat) (I O : List Nat) (S : Int) : Prop where
  gw : Gw f (fun x => x ∈ P) r I S
  perm : (I ++ O).Perm P
  bd : lo * ((I.length : Int) - 1) ≤ S ∧ S ≤ hi * ((I.length : Int) - 1)
theorem Grw.step {P : List Nat} {lo hi : Int} {r : Nat} {S : Int} (h : Grw f P lo hi r I O S) (hP : P.Nodup) (hb : ∀ i k, i ∈ P → k ∈ P → lo ≤ f i k ∧ f i k ≤ hi) (h0 : 0 < O.length) (hl : LeastTo f I O O.length 0 best at_) :
    ∃ q : Nat, ∃ (hq : q < O.length), at_ = (q : Int) ∧ Grw f P lo hi r (I ++ [O[q]]) (O.eraseIdx q) (S + best) := by
  rcases hl with ⟨_, _, h3, _⟩ | ⟨s, q, hq, h1, h2, h3, h4, h5, h6⟩
  · omega
  · have hnd : (I ++ O).Nodup := h.perm.nodup_iff.2 hP
    obtain ⟨n1, n2, n3⟩ := List.nodup_append.1 hnd
    have mI : ∀ x ∈ I, x ∈ P := fun x hx => h.perm.subset (List.mem_append.2 (.inl hx))
    have mO : ∀ x ∈ O, x ∈ P := fun x hx => h.perm.subset (List.mem_append.2 (.inr hx))
    have hqO : O[q] ∈ O := List.getElem_mem hq
    refine ⟨q, hq, h1, ?_, ?_, ?_⟩
    · subst h3
      refine h.gw.step h2 (mI s h2) (mO _ hqO) (fun hc => n3 _ hc _ hqO rfl) fun i k hi hk hk' => ?_
      have hkO : k ∈ O := by
        have := h.perm.symm.subset hk
        exact (List.mem_append.1 this).resolve_left hk'
      obtain ⟨q', hq', rfl⟩ := List.mem_iff_getElem.1 hkO
      exact h5 q' hq' hq' i hi
    · refine List.Perm.trans ?_ h.perm
      rw [List.append_assoc]
      refine List.Perm.append_left I ?_
      exact erase_perm hq
    · obtain ⟨b1, b2⟩ := h.bd
      have hb' := hb s O[q] (mI s h2) (mO _ hqO)
      rw [← h3] at hb'
      rw [List.length_append, List.length_singleton]
      have e : ((I.length + 1 : Nat) : Int) - 1 = ((I.length : Int) - 1) + 1 := by omega
      rw [e, Int.mul_add, Int.mul_add]
      omega
end
end Go.Proofs.Ytmodbpglopfghaa
