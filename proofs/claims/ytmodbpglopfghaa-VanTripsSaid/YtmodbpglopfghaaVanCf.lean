/- The table of plans: what lies in it. -/
import Derived.Test.YtmodbpglopfghaaVanCe
import Derived.Test.YtmodbpglopfghaaOrd3
set_option linter.unusedSimpArgs false
set_option linter.unusedVariables false
namespace Go.Proofs.Ytmodbpglopfghaa
open Go Go.RowKit

section
variable {f : Nat → Nat → Int} {bx : Nat → Int} {cap : Int} {t : List Nat} {G : Nat} {w w' : World} {k n : Nat} {u v : Value} {p : Int × List Nat} {o : Option (Int × List Nat)}
/-- A plan in two cells; its sizes lie apart from block G. -/
def PlN (G : Nat) (w : World) (u v : Value) (p : Int × List Nat) : Prop := u = .int .i64 p.1 ∧ ∃ A c, v = .slice A p.2.length c ∧ IntsN (fun x => x ≠ G) w A (intL p.2)
def PlO (G : Nat) (w : World) (u v : Value) : Option (Int × List Nat) → Prop
  | none => u = .int .i64 0 ∧ v = .slice none 0 0
  | some p => PlN G w u v p
theorem PlN.mv (h : PlN G w u v p) (m : Mv (fun x => x ≠ G) (fun x => x ≠ G) w w') : PlN G w' u v p := by
  obtain ⟨h1, A, c, h2, h3⟩ := h
  exact ⟨h1, A, c, h2, h3.mv m⟩
theorem PlO.mv (h : PlO G w u v o) (m : Mv (fun x => x ≠ G) (fun x => x ≠ G) w w') : PlO G w' u v o := by
  cases o with
  | none => exact h
  | some p => exact PlN.mv h m
/-- The best plans of all that is left of a tour, from place k on. -/
def PlT (f : Nat → Nat → Int) (bx : Nat → Int) (cap : Int) (t : List Nat) (G : Nat) (w : World) (k : Nat) : Prop := ∃ cs : Array Value, Blk w G 98 cs ∧
  (∀ j, j ≤ t.length → k ≤ j → ∃ u v p, cs[j * 2]? = some u ∧ cs[j * 2 + 1]? = some v ∧ PlN G w u v p ∧ BestP f bx cap (t.drop j) p) ∧
  (∀ j, j < k → cs[j * 2]? = some (.int .i64 0) ∧ cs[j * 2 + 1]? = some (.slice none 0 0))
/-- .. and the best plan so far at place k, of which the first trip has at most n stops. -/
def PlK (f : Nat → Nat → Int) (bx : Nat → Int) (cap : Int) (t : List Nat) (G : Nat) (w : World) (k n : Nat) (o : Option (Int × List Nat)) : Prop := ∃ cs : Array Value, Blk w G 98 cs ∧
  (∀ j, j ≤ t.length → k < j → ∃ u v p, cs[j * 2]? = some u ∧ cs[j * 2 + 1]? = some v ∧ PlN G w u v p ∧ BestP f bx cap (t.drop j) p) ∧
  (∀ j, j < k → cs[j * 2]? = some (.int .i64 0) ∧ cs[j * 2 + 1]? = some (.slice none 0 0)) ∧
  (∃ u v, cs[k * 2]? = some u ∧ cs[k * 2 + 1]? = some v ∧ PlO G w u v o) ∧ BestK f bx cap (t.drop k) n o
theorem PlT.below (h : PlT f bx cap t G w k) (hb : Below w.heap.size w w') : PlT f bx cap t G w' k := by
  obtain ⟨cs, h1, h2, h3⟩ := h
  refine ⟨cs, h1.below hb h1.lt, fun j hj hk => ?_, h3⟩
  obtain ⟨u, v, p, q1, q2, q3, q4⟩ := h2 j hj hk
  exact ⟨u, v, p, q1, q2, q3.mv (Mv.below hb), q4⟩
theorem PlK.below (h : PlK f bx cap t G w k n o) (hb : Below w.heap.size w w') : PlK f bx cap t G w' k n o := by
  obtain ⟨cs, h1, h2, h3, ⟨u0, v0, e1, e2, e3⟩, h5⟩ := h
  refine ⟨cs, h1.below hb h1.lt, fun j hj hk => ?_, h3, ⟨u0, v0, e1, e2, e3.mv (Mv.below hb)⟩, h5⟩
  obtain ⟨u, v, p, q1, q2, q3, q4⟩ := h2 j hj hk
  exact ⟨u, v, p, q1, q2, q3.mv (Mv.below hb), q4⟩
theorem PlT.lt (h : PlT f bx cap t G w k) : G < w.heap.size := by
  obtain ⟨cs, h1, _⟩ := h
  exact h1.lt
theorem PlK.lt (h : PlK f bx cap t G w k n o) : G < w.heap.size := by
  obtain ⟨cs, h1, _⟩ := h
  exact h1.lt
theorem PlT.start {cs : Array Value} (h : Blk w G 98 cs) (hz : ∀ j, j ≤ t.length → cs[j * 2]? = some (.int .i64 0) ∧ cs[j * 2 + 1]? = some (.slice none 0 0)) : PlT f bx cap t G w t.length := by
  refine ⟨cs, h, fun j hj hk => ?_, fun j hj => hz j (by omega)⟩
  obtain rfl : j = t.length := by omega
  obtain ⟨e1, e2⟩ := hz t.length (Nat.le_refl _)
  refine ⟨_, _, (0, []), e1, e2, ⟨rfl, none, 0, rfl, fun j hj => by simp [intL] at hj⟩, ?_⟩
  rw [List.drop_length]; exact BestP.nil
theorem PlT.enter (h : PlT f bx cap t G w (k + 1)) : PlK f bx cap t G w k 0 none := by
  obtain ⟨cs, h1, h2, h3⟩ := h
  obtain ⟨e1, e2⟩ := h3 k (Nat.lt_succ_self _)
  exact ⟨cs, h1, fun j hj hk => h2 j hj hk, fun j hj => h3 j (by omega), ⟨_, _, e1, e2, rfl, rfl⟩, BestK.zero⟩
theorem PlK.leave (h : PlK f bx cap t G w k n o) (hk : k < t.length) (hf : ∀ x ∈ t, bx x ≤ cap) (hn : ∀ m, n < m → m ≤ (t.drop k).length → cap < ldS bx ((t.drop k).take m)) : PlT f bx cap t G w k := by
  obtain ⟨cs, h1, h2, h3, ⟨u0, v0, e1, e2, e3⟩, h5⟩ := h
  refine ⟨cs, h1, fun j hj hkj => ?_, h3⟩
  by_cases e : j = k
  · subst e
    have hl : 0 < (t.drop j).length := by rw [List.length_drop]; omega
    cases o with
    | none =>
      exfalso
      have hc := cut_ones (t := t.drop j) (bx := bx) (cap := cap) (fun x hx => hf x (List.mem_of_mem_drop hx))
      obtain ⟨m, hm⟩ : ∃ m, (t.drop j).length = m + 1 := ⟨(t.drop j).length - 1, by omega⟩
      rw [hm, List.replicate_succ] at hc
      have h6 := h5 1 _ hc
      have h7 := hn 1 h6 (by omega)
      have := hc.2.2.1
      omega
    | some q => exact ⟨u0, v0, q, e1, e2, e3, h5.done hl hn⟩
  · exact h2 j hj (by omega)
/-- What is read at place j. -/
theorem PlK.get (h : PlK f bx cap t G w k n o) {j : Nat} (hj : j ≤ t.length) (hk : k < j) : ∃ p A c, BestP f bx cap (t.drop j) p ∧ w.cell? ⟨G, j * 2, none⟩ = some (.int .i64 p.1) ∧ w.cell? ⟨G, j * 2 + 1, none⟩ = some (.slice A p.2.length c) ∧ IntsN (fun x => x ≠ G) w A (intL p.2) := by
  obtain ⟨cs, h1, h2, _⟩ := h
  obtain ⟨u, v, p, q1, q2, ⟨rfl, A, c, rfl, q3⟩, q4⟩ := h2 j hj hk
  exact ⟨p, A, c, q4, by rw [h1.cell, q1], by rw [h1.cell, q2], q3⟩
theorem PlK.own0 (h : PlK f bx cap t G w k n none) : w.cell? ⟨G, k * 2, none⟩ = some (.int .i64 0) ∧ w.cell? ⟨G, k * 2 + 1, none⟩ = some (.slice none 0 0) ∧ w.frozen? ⟨G, k * 2, none⟩ = false ∧ w.frozen? ⟨G, k * 2 + 1, none⟩ = false := by
  obtain ⟨cs, h1, _, _, ⟨u, v, e1, e2, rfl, rfl⟩, _⟩ := h
  exact ⟨by rw [h1.cell, e1], by rw [h1.cell, e2], h1.frozen _, h1.frozen _⟩
theorem PlK.own1 {q : Int × List Nat} (h : PlK f bx cap t G w k n (some q)) : ∃ b off c, w.cell? ⟨G, k * 2, none⟩ = some (.int .i64 q.1) ∧ w.cell? ⟨G, k * 2 + 1, none⟩ = some (.slice (some ⟨b, off, none⟩) q.2.length c) ∧ w.frozen? ⟨G, k * 2, none⟩ = false ∧ w.frozen? ⟨G, k * 2 + 1, none⟩ = false ∧ IntsN (fun x => x ≠ G) w (some ⟨b, off, none⟩) (intL q.2) := by
  obtain ⟨cs, h1, _, _, ⟨u, v, e1, e2, rfl, A, c, rfl, hi⟩, hb⟩ := h
  have hne : 0 < (intL q.2).length := by
    rw [intL_length]
    exact List.length_pos_iff.2 hb.2.2.1
  obtain ⟨b, off, rfl, _⟩ := hi 0 hne
  exact ⟨b, off, c, by rw [h1.cell, e1], by rw [h1.cell, e2], h1.frozen _, h1.frozen _, hi⟩
theorem PlK.keep {q : Int × List Nat} (h : PlK f bx cap t G w k n o) (hb : BestK f bx cap (t.drop k) (n + 1) o) : PlK f bx cap t G w k (n + 1) o := by
  obtain ⟨cs, h1, h2, h3, h4, _⟩ := h
  exact ⟨cs, h1, h2, h3, h4, hb⟩
theorem PlK.best (h : PlK f bx cap t G w k n o) : BestK f bx cap (t.drop k) n o := by
  obtain ⟨_, _, _, _, _, hb⟩ := h
  exact hb
/-- A better plan is laid. -/
theorem PlK.set (h : PlK f bx cap t G w k n o) {q : Int × List Nat} (hb : BestK f bx cap (t.drop k) (n + 1) (some q)) {A : Option Addr} {c : Nat} (hi : IntsN (fun x => x ≠ G) w A (intL q.2)) :
    PlK f bx cap t G ((w.setCell ⟨G, k * 2, none⟩ (.int .i64 q.1)).setCell ⟨G, k * 2 + 1, none⟩ (.slice A q.2.length c)) k (n + 1) (some q) := by
  obtain ⟨cs, h1, h2, h3, ⟨u, v, e1, e2, e3⟩, _⟩ := h
  have hm : Mv (fun x => x ≠ G) (fun x => x ≠ G) w ((w.setCell ⟨G, k * 2, none⟩ (.int .i64 q.1)).setCell ⟨G, k * 2 + 1, none⟩ (.slice A q.2.length c)) := Mv.only (((Only.refl G w).put _ _).put _ _) fun b hb => hb
  have hk1 : k * 2 < cs.size := (Array.getElem?_eq_some_iff.1 e1).1
  have hk2 : k * 2 + 1 < cs.size := (Array.getElem?_eq_some_iff.1 e2).1
  have hfar : ∀ i, i ≠ k * 2 → i ≠ k * 2 + 1 → ((cs.setIfInBounds (k * 2) (.int .i64 q.1)).setIfInBounds (k * 2 + 1) (.slice A q.2.length c))[i]? = cs[i]? := fun i h1 h2 => by
    rw [Array.getElem?_setIfInBounds_ne (fun e => h2 e.symm), Array.getElem?_setIfInBounds_ne (fun e => h1 e.symm)]
  refine ⟨_, (h1.put _ _).put _ _, fun j hj hkj => ?_, fun j hj => ?_, ⟨.int .i64 q.1, .slice A q.2.length c, ?_, ?_, rfl, A, c, rfl, hi.mv hm⟩, hb⟩
  · obtain ⟨u, v, p, q1, q2, q3, q4⟩ := h2 j hj hkj
    exact ⟨u, v, p, by rw [hfar _ (by omega) (by omega), q1], by rw [hfar _ (by omega) (by omega), q2], q3.mv hm, q4⟩
  · obtain ⟨q1, q2⟩ := h3 j hj
    exact ⟨by rw [hfar _ (by omega) (by omega), q1], by rw [hfar _ (by omega) (by omega), q2]⟩
  · rw [Array.getElem?_setIfInBounds_ne (by omega)]
    simp [hk1]
  · simp [hk2]
theorem BestP.bd {m : Nat} (h : BestP f bx cap t p) (hf : ∀ i j, i < m → j < m → 0 ≤ f i j ∧ f i j ≤ 1000) (hm : 1 ≤ m) (ht : ∀ x ∈ t, x < m) : (0 ≤ p.1 ∧ p.1 ≤ 2000 * (t.length : Int)) ∧ p.2.length ≤ t.length := by
  refine ⟨?_, Cut.len h.1⟩
  rw [h.2.1]
  exact smC_bd hf hm p.2 t ht h.1
end
theorem info98 : (Try.prog.info? 98).map (fun i => (i.zero, i.size, i.bytes)) = some (some (.agg #[.int .i64 0, .slice none 0 0]), 2, 32) := by kernel_rfl
/-- make([]plan, n). -/
theorem make_plans (n : Nat) (hn : n ≤ 1000000) : ∃ cs : Array Value, (∀ d, d < n → cs[d * 2]? = some (.int .i64 0) ∧ cs[d * 2 + 1]? = some (.slice none 0 0)) ∧ ∀ w : World, (Instr.makeSlice 96 (.int .i64 (n : Int)) (.int .i64 (n : Int))).run Try.prog w = .ok (.slice (some ⟨w.heap.size, 0, none⟩) n n) (w.alloc (.cells cs 98)) := by
  obtain ⟨i0, hi, hz0, hz1, hz2⟩ := info_parts info98
  refine ⟨madeCells (Value.agg #[.int .i64 0, .slice none 0 0]).cells (n * i0.size), fun d hd => ?_, fun w => ?_⟩
  · rw [hz1]
    have h1 : d * 2 % 2 = 0 := by omega
    have h2 : (d * 2 + 1) % 2 = 1 := by omega
    constructor
    · simp [madeCells, Value.cells, h1, show d * 2 < n * 2 by omega]
    · simp [madeCells, Value.cells, h2, show d * 2 + 1 < n * 2 by omega]
  · have hr := run_make (P := Try.prog) w 96 98 i0 _ Try.underlying96 hi hz0 .i64 .i64 n n (by omega) (by omega) (by rw [hz2]; omega) (by omega)
    simp only [Int.toNat_natCast] at hr
    exact hr
end Go.Proofs.Ytmodbpglopfghaa
