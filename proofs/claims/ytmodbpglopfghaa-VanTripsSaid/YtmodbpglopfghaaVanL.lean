/- A table that is built row by row. -/
import Derived.Test.YtmodbpglopfghaaVanK
set_option linter.unusedSimpArgs false
set_option linter.unusedVariables false
namespace Go.Proofs.Ytmodbpglopfghaa
open Go.RowKit

theorem info28 : (Try.prog.info? 28).map (fun i => (i.zero, i.size, i.bytes)) = some (some (.slice none 0 0), 1, 24) := by kernel_rfl
/-- make([][]int, n). -/
theorem make_rows (n : Nat) (hn : n ≤ 1000000) : ∃ cs : Array Value, cs.size = n ∧ (∀ d, d < n → cs[d]? = some (.slice none 0 0)) ∧ ∀ w : World, (Instr.makeSlice 22 (.int .i64 (n : Int)) (.int .i64 (n : Int))).run Try.prog w = .ok (.slice (some ⟨w.heap.size, 0, none⟩) n n) (w.alloc (.cells cs 28)) := by
  obtain ⟨i0, hi, hz0, hz1, hz2⟩ := info_parts info28
  refine ⟨madeCells (Value.slice none 0 0).cells (n * i0.size), ?_, fun d hd => ?_, fun w => ?_⟩
  · rw [size_madeCells, hz1, Nat.mul_one]
  · rw [hz1]; simp [madeCells, Value.cells, hd, Nat.mod_one]
  · have hr := run_make (P := Try.prog) w 22 28 i0 _ Try.underlying22 hi hz0 .i64 .i64 n n (by omega) (by omega) (by rw [hz2]; omega) (by omega)
    simp only [Int.toNat_natCast] at hr
    exact hr
theorem wpList_app2 {P : Program} {w : World} {ops : Array Oper} {rest : List Oper} {o : Oper} {a : Act} {Q : Exit → Act → World → Prop} (hgd : o.guard = none) (s x : Operand) (t : TypeId)
    (ho : o.op = .call { callee := .builtin .append, args := #[s, x], argTypes := #[t, t] })
    (base : Nat) (e : TypeId) (i : TypeInfo) (z : Value) (size bytes : Nat) (ht : P.underlying t = some (.slice e)) (hi : P.info? e = some i) (hz : i.zero = some z)
    (hsize : i.size = size) (hby : i.bytes = bytes) (hzs : z.cells.size = size) (hsz : 0 < size)
    (v : Value) (n : Nat) (xs : List Value) (hs : a.eval s = v) (hown : w.ownsRow base e size v n xs)
    (ad : Addr) (m c : Nat) (news : List Value) (hx : a.eval x = .slice (some ad) m c) (hl : news.length = m * size) (hnews : ∀ j u, news[j]? = some u → w.cell? (ad.add j) = some u) (h1 : ∀ u ∈ news, u.oneCell' = true)
    (h63 : n + m ≤ 1000000) (hbytes : bytes ≤ 1000) (hbase : base ≤ w.heap.size) (N : Nat) (hN : n + m = N) (ys : List Value) (hys : xs ++ news = ys)
    (h : ∀ A' c' w', w'.ownsRow base e size (.slice A' N c') N ys → w.grownBy w' v.ownBlock → (∀ k, v.ownBlock = some k → base ≤ k) → (∀ k, (Value.slice A' N c').ownBlock = some k → v.ownBlock = some k ∨ k = w.heap.size) → wpList P ops Q rest (a.put o.dst (.slice A' N c')) w') : wpList P ops Q (o :: rest) a w := by
  subst hN hys
  refine wpList_plain hgd fun K hK => ?_
  obtain ⟨A', c', w', hr, h2, h3, h4⟩ := run_app2 (P := P) w base t o.type e i z size bytes ht hi hz hsize hby hzs hsz v n xs hown ad m c news hl hnews h1 (by simp only [maxLen]; omega)
    (Nat.le_trans (Nat.mul_le_mul h63 hbytes) (by decide)) hbase
  unfold Oper.wp execOp
  simp only [ho, resolve, invoke, builtin, Sem.run_bind, Sem.run_pure, Result.andThen_ok, List.map_toArray, List.map_cons, List.map_nil, hs, hx, hr]
  exact hK _ _ (h A' c' w' h2 h3 (fun k hk => (hown.lt k hk).1) h4)
theorem wpList_app2' {P : Program} {w : World} {ops : Array Oper} {rest : List Oper} {o : Oper} {a : Act} {Q : Exit → Act → World → Prop} (hgd : o.guard = none) (s x : Operand) (t : TypeId)
    (ho : o.op = .call { callee := .builtin .append, args := #[s, x], argTypes := #[t, t] })
    (base : Nat) (e : TypeId) (i : TypeInfo) (z : Value) (size bytes : Nat) (ht : P.underlying t = some (.slice e)) (hi : P.info? e = some i) (hz : i.zero = some z)
    (hsize : i.size = size) (hby : i.bytes = bytes) (hzs : z.cells.size = size) (hsz : 0 < size)
    (v : Value) (n : Nat) (xs : List Value) (hs : a.eval s = v) (hown : w.ownsRow base e size v n xs)
    (b : Nat) (u : Value) (hx : a.eval x = .slice (some ⟨b, 0, none⟩) 1 1) (hl : size = 1) (hc : w.cell? ⟨b, 0, none⟩ = some u) (h1 : u.oneCell' = true)
    (h63 : n + 1 ≤ 1000000) (hbytes : bytes ≤ 1000) (hbase : base ≤ w.heap.size)
    (h : ∀ A' c' w', w'.ownsRow base e size (.slice A' (n + 1) c') (n + 1) (xs ++ [u]) → w.grownBy w' v.ownBlock → (∀ k, v.ownBlock = some k → base ≤ k) → (∀ k, (Value.slice A' (n + 1) c').ownBlock = some k → v.ownBlock = some k ∨ k = w.heap.size) → wpList P ops Q rest (a.put o.dst (.slice A' (n + 1) c')) w') : wpList P ops Q (o :: rest) a w :=
  wpList_app2 hgd s x t ho base e i z size bytes ht hi hz hsize hby hzs hsz v n xs hs hown ⟨b, 0, none⟩ 1 1 [u] hx (by rw [hl]; rfl) (fun j u' hj => by
    cases j with
    | zero => rw [Addr.add_lit]; rw [← hj]; exact hc
    | succ j => simp at hj) (fun u' hu => by rw [List.mem_singleton] at hu; rw [hu]; exact h1) h63 hbytes hbase (n + 1) rfl (xs ++ [u]) rfl h

/-- Block g holds a table of n rows, of which the first i are whole; the next one is cur. -/
def Bld (g n : Nat) (f : Nat → Nat → Int) (i : Nat) (cur : Value) (w : World) : Prop := ∃ cs : Array Value, Blk w g 28 cs ∧ cs.size = n ∧
  (∀ i', i' < i → ∃ b1 c1, g < b1 ∧ b1 < w.heap.size ∧ cur.ownBlock ≠ some b1 ∧ cs[i']? = some (.slice (some ⟨b1, 0, none⟩) n c1) ∧ (n ≤ c1 ∧ c1 ≤ maxLen) ∧ ∀ j, j < n → w.cell? ⟨b1, j, none⟩ = some (.int .i64 (f i' j))) ∧
  (i < n → cs[i]? = some cur) ∧ ∀ i', i < i' → i' < n → cs[i']? = some (.slice none 0 0)
def rowL (f : Nat → Nat → Int) (i j : Nat) : List Int := (List.range j).map (f i)
theorem rowL_succ (f : Nat → Nat → Int) (i j : Nat) : (rowL f i (j + 1)).map (Value.int .i64) = (rowL f i j).map (Value.int .i64) ++ [.int .i64 (f i j)] := by simp [rowL, List.range_succ]
theorem rowL_length (f : Nat → Nat → Int) (i j : Nat) : (rowL f i j).length = j := by simp [rowL]
namespace Bld
variable {g n i : Nat} {f : Nat → Nat → Int} {cur : Value} {w w' : World}
theorem lt (h : Bld g n f i cur w) : g < w.heap.size := by obtain ⟨cs, h1, _⟩ := h; exact h1.lt
theorem cell (h : Bld g n f i cur w) (hi : i < n) : w.cell? ⟨g, i, none⟩ = some cur := by
  obtain ⟨cs, h1, _, _, h4, _⟩ := h
  rw [h1.cell]; exact h4 hi
theorem frozen (h : Bld g n f i cur w) (d : Nat) : w.frozen? ⟨g, d, none⟩ = false := by obtain ⟨cs, h1, _⟩ := h; exact h1.frozen d
theorem made {cs : Array Value} (w : World) (hs : cs.size = n) (hz : ∀ d, d < n → cs[d]? = some (.slice none 0 0)) : Bld w.heap.size n f 0 (.slice none 0 0) (w.alloc (.cells cs 28)) :=
  ⟨cs, Blk.new w 28 cs, hs, fun i' hi => absurd hi (Nat.not_lt_zero _), fun h0 => hz 0 h0, fun i' _ h => hz i' h⟩
/-- What lies elsewhere turns. -/
theorem keep {row : Option Nat} (h : Bld g n f i cur w) (hg : w.grownBy w' row) (hr : row = none ∨ row = cur.ownBlock) (hne : row ≠ some g) : Bld g n f i cur w' := by
  obtain ⟨cs, h1, h2, h3, h4, h5⟩ := h
  refine ⟨cs, h1.grown hg (Ne.symm hne), h2, fun i' hi => ?_, h4, h5⟩
  obtain ⟨b1, c1, q1, q2, q3, q4, q6, q5⟩ := h3 i' hi
  refine ⟨b1, c1, q1, Nat.lt_of_lt_of_le q2 hg.size, q3, q4, q6, fun j hj => ?_⟩
  rw [World.cell?_of_block (a := ⟨b1, j, none⟩) (hg.block b1 q2 (fun e => by
    rcases hr with hr | hr
    · rw [hr] at e; cases e
    · exact q3 (by rw [← hr, e])))]
  exact q5 j hj
theorem alloc (h : Bld g n f i cur w) (o : Obj) : Bld g n f i cur (w.alloc o) :=
  h.keep (row := none) ⟨rfl, rfl, rfl, by simp, fun k hk _ => Below.heap_alloc w o k hk⟩ (.inl rfl) (by simp)
theorem drewN (h : Bld g n f i cur w) (m : Nat) : Bld g n f i cur (w.drewN m) := h
/-- The next row, longer, is stored. -/
theorem put {v' : Value} (h : Bld g n f i cur w) (hi : i < n) (hat : ∀ k, v'.ownBlock = some k → cur.ownBlock = some k ∨ w.heap.size ≤ k) : Bld g n f i v' (w.setCell ⟨g, i, none⟩ v') := by
  obtain ⟨cs, h1, h2, h3, h4, h5⟩ := h
  refine ⟨_, h1.put i v', by simpa using h2, fun i' hi' => ?_, fun _ => ?_, fun i' h6 h7 => ?_⟩
  · obtain ⟨b1, c1, q1, q2, q3, q4, q6, q5⟩ := h3 i' hi'
    refine ⟨b1, c1, q1, by simpa [World.setCell] using q2, fun e => ?_, ?_, q6, fun j hj => ?_⟩
    · rcases hat b1 e with h8 | h8
      · exact q3 h8
      · omega
    · rw [Array.getElem?_setIfInBounds, if_neg (by omega)]; exact q4
    · rw [World.cell?_of_block (a := ⟨b1, j, none⟩) (Below.heap_setCell w _ v' b1 (by simp; omega))]
      exact q5 j hj
  · rw [Array.getElem?_setIfInBounds, if_pos rfl, if_pos (by omega)]
  · rw [Array.getElem?_setIfInBounds, if_neg (by omega)]; exact h5 i' h6 h7
/-- The next row grew, and is stored. -/
theorem step {v' : Value} (h : Bld g n f i cur w) (hi : i < n) (hg : w.grownBy w' cur.ownBlock) (hne : cur.ownBlock ≠ some g) (hat : ∀ k, v'.ownBlock = some k → cur.ownBlock = some k ∨ k = w.heap.size) : Bld g n f i v' (w'.setCell ⟨g, i, none⟩ v') := by
  have hk := h.keep hg (.inr rfl) hne
  obtain ⟨cs0, g1, g2, g3, g4, g5⟩ := h
  obtain ⟨cs, h1, h2, h3, h4, h5⟩ := hk
  have hcs : cs0 = cs := by
    have := g1.grown hg (Ne.symm hne)
    unfold Blk at this h1
    rw [this] at h1
    injection h1 with h1
    injection h1
  subst hcs
  refine ⟨_, h1.put i v', by simpa using h2, fun i' hi' => ?_, fun _ => ?_, fun i' h6 h7 => ?_⟩
  · obtain ⟨b1, c1, q1, q2, q3, q4, q6, q5⟩ := h3 i' hi'
    obtain ⟨b2, c2, p1, p2, p3, p4, p5⟩ := g3 i' hi'
    have hbb : b2 = b1 := by
      rw [p4] at q4
      injection q4 with q4
      injection q4 with q4
      injection q4 with q4
      injection q4
    subst hbb
    refine ⟨b2, c1, q1, by simpa [World.setCell] using q2, fun e => ?_, ?_, q6, fun j hj => ?_⟩
    · rcases hat b2 e with h8 | h8
      · exact q3 h8
      · omega
    · rw [Array.getElem?_setIfInBounds, if_neg (by omega)]; exact q4
    · rw [World.cell?_of_block (a := ⟨b2, j, none⟩) (Below.heap_setCell w' _ v' b2 (by simp; omega))]
      exact q5 j hj
  · rw [Array.getElem?_setIfInBounds, if_pos rfl, if_pos (by omega)]
  · rw [Array.getElem?_setIfInBounds, if_neg (by omega)]; exact h5 i' h6 h7
/-- The row is whole. -/
theorem next (h : Bld g n f i cur w) (hi : i < n) (hown : w.ownsRow (g + 1) 3 1 cur n ((rowL f i n).map (Value.int .i64))) : Bld g n f (i + 1) (.slice none 0 0) w := by
  obtain ⟨cs, h1, h2, h3, h4, h5⟩ := h
  refine ⟨cs, h1, h2, fun i' hi' => ?_, fun h6 => h5 (i + 1) (by omega) h6, fun i' h6 h7 => h5 i' (by omega) h7⟩
  by_cases e : i' = i
  · subst e
    obtain ⟨A, c, rfl⟩ := own_form hown
    obtain ⟨q, rfl, q1, q2, _⟩ := own_cell hown (k := 0) (u := .int .i64 (f i' 0)) (by omega) (by simp [rowL, show 0 < n by omega])
    refine ⟨q, c, by omega, q1, by simp [Value.ownBlock], h4 hi, ⟨(own_caps hown).1, (own_caps hown).2.1⟩, fun j hj => ?_⟩
    obtain ⟨q', e', _, _, q3⟩ := own_cell hown (k := j) (u := .int .i64 (f i' j)) hj (by simp [rowL, hj])
    injection e' with e'
    injection e' with e'
    rw [e']; exact q3
  · obtain ⟨b1, c1, q1, q2, q3, q4, q5⟩ := h3 i' (by omega)
    exact ⟨b1, c1, q1, q2, by simp [Value.ownBlock], q4, q5⟩
theorem row (h : Bld g n f i cur w) {i' : Nat} (hi : i' < i) : ∃ b1 c1, w.cell? ⟨g, i', none⟩ = some (.slice (some ⟨b1, 0, none⟩) n c1) ∧ n ≤ c1 ∧ c1 ≤ maxLen ∧ b1 < w.heap.size ∧ IntsAt w.heap.size w (some ⟨b1, 0, none⟩) (rowL f i' n) := by
  obtain ⟨cs, h1, h2, h3, h4, h5⟩ := h
  obtain ⟨b1, c1, q1, q2, q3, q4, q6, q5⟩ := h3 i' hi
  refine ⟨b1, c1, by rw [h1.cell]; exact q4, q6.1, q6.2, q2, fun k hk => ?_⟩
  rw [rowL_length] at hk
  refine ⟨b1, 0, rfl, q2, fun j hj => ?_⟩
  obtain rfl : j = 0 := by omega
  rw [show 0 + k * 1 + 0 = k by omega, q5 k hk]
  simp [rowL, hk]
theorem wa (h : Bld g n f n cur w) : WaAt w.heap.size w g 0 n f := by
  obtain ⟨cs, h1, h2, h3, h4, h5⟩ := h
  refine ⟨h1.lt, fun i hi => ?_⟩
  obtain ⟨b1, c1, q1, q2, q3, q4, q6, q5⟩ := h3 i hi
  refine ⟨b1, 0, c1, q2, ?_, fun j hj => ?_⟩
  · rw [h1.cell, Nat.zero_add]; exact q4
  · rw [Nat.zero_add]; exact q5 j hj
end Bld
theorem Bld.ne {g n i : Nat} {f : Nat → Nat → Int} {cur : Value} {w : World} {m : Nat} {xs : List Value} (h : Bld g n f i cur w) (hown : w.ownsRow (g + 1) 3 1 cur m xs) : cur.ownBlock ≠ some g := fun e => by
  have := (hown.lt g e).1; omega

/-- The sum of the two least ways from the kitchen. -/
def TwoIs (n : Nat) (h : Nat → Int) (t : Int) : Prop := (∀ i k, 1 ≤ k → k < i → i < n → t ≤ h i + h k) ∧ ∃ i k, 1 ≤ k ∧ k < i ∧ i < n ∧ t = h i + h k
theorem TwoIs.unique {n : Nat} {h : Nat → Int} {t t' : Int} (a : TwoIs n h t) (b : TwoIs n h t') : t = t' := by
  obtain ⟨i, k, h1, h2, h3, h4⟩ := a.2
  obtain ⟨i', k', g1, g2, g3, g4⟩ := b.2
  have := a.1 i' k' g1 g2 g3
  have := b.1 i k h1 h2 h3
  omega
theorem sorted_two {M : List Int} {x0 x1 : Int} {L : List Int} (hp : (x0 :: x1 :: L).Perm M) (hs : (x0 :: x1 :: L).Pairwise (fun a b => a ≤ b)) {i k : Nat} (hk : k < i) (hi : i < M.length) : x0 + x1 ≤ M[i] + M[k] := by
  have e : M = M.take k ++ M[k] :: M.drop (k + 1) := by rw [← List.drop_eq_getElem_cons (by omega), List.take_append_drop]
  have hm : M[i] ∈ M.drop (k + 1) := by
    rw [List.mem_iff_getElem]
    exact ⟨i - (k + 1), by simp; omega, by simp [show k + 1 + (i - (k + 1)) = i by omega]⟩
  have hp2 : (x0 :: x1 :: L).Perm (M[k] :: (M.take k ++ M.drop (k + 1))) := hp.trans (by
    conv => lhs; rw [e]
    exact List.perm_middle)
  have hm2 : M[i] ∈ M.take k ++ M.drop (k + 1) := List.mem_append.2 (.inr hm)
  have h0 : ∀ x ∈ x0 :: x1 :: L, x0 ≤ x := fun x hx => by
    rcases List.mem_cons.1 hx with rfl | hx
    · exact Int.le_refl _
    · exact (List.pairwise_cons.1 hs).1 x hx
  have h1 : ∀ x ∈ x1 :: L, x1 ≤ x := fun x hx => by
    rcases List.mem_cons.1 hx with rfl | hx
    · exact Int.le_refl _
    · exact (List.pairwise_cons.1 (List.pairwise_cons.1 hs).2).1 x hx
  have hkm := hp2.symm.subset (List.mem_cons_self (a := M[k]))
  have him := hp2.symm.subset (List.mem_cons_of_mem M[k] hm2)
  by_cases hx : M[k] = x0
  · rw [← hx] at hp2
    have hp3 := (List.perm_cons _).1 hp2
    have := h1 _ (hp3.symm.subset hm2)
    omega
  · have := h1 _ ((List.mem_cons.1 hkm).resolve_left hx)
    have := h0 _ him
    omega
theorem sorted_pos {M : List Int} {x0 x1 : Int} {L : List Int} (hp : (x0 :: x1 :: L).Perm M) : ∃ i k, ∃ (hk : k < i) (hi : i < M.length), x0 + x1 = M[i] + M[k] := by
  have h0 := hp.subset (List.mem_cons_self (a := x0))
  obtain ⟨k, hk, rfl⟩ := List.mem_iff_getElem.1 h0
  have e : M = M.take k ++ M[k] :: M.drop (k + 1) := by rw [← List.drop_eq_getElem_cons (by omega), List.take_append_drop]
  have hp2 : (x1 :: L).Perm (M.take k ++ M.drop (k + 1)) := (List.perm_cons M[k]).1 (hp.trans (by
    conv => lhs; rw [e]
    exact List.perm_middle))
  have h1 := hp2.subset (List.mem_cons_self (a := x1))
  rcases List.mem_append.1 h1 with h1 | h1
  · obtain ⟨i, hi, rfl⟩ := List.mem_iff_getElem.1 h1
    simp only [List.length_take] at hi
    exact ⟨k, i, by omega, hk, by simp⟩
  · obtain ⟨i, hi, rfl⟩ := List.mem_iff_getElem.1 h1
    simp only [List.length_drop] at hi
    exact ⟨k + 1 + i, k, by omega, by omega, by simp; omega⟩
/-- The two first of the sorted ways. -/
theorem two_sorted {n : Nat} {h : Nat → Int} {x0 x1 : Int} {L : List Int} (hL : sortS ((frm 1 n).map h) = x0 :: x1 :: L) : TwoIs n h (x0 + x1) := by
  have hp : (x0 :: x1 :: L).Perm ((frm 1 n).map h) := by rw [← hL]; exact List.mergeSort_perm _ _
  have hs : (x0 :: x1 :: L).Pairwise (fun a b => a ≤ b) := by
    rw [← hL]
    have := List.pairwise_mergeSort (le := fun x y : Int => decide (x ≤ y)) (fun a b c h1 h2 => by simp at h1 h2 ⊢; omega) (fun a b => by simp; omega) ((frm 1 n).map h)
    exact this.imp fun h => by simpa using h
  have hlen : ((frm 1 n).map h).length = n - 1 := by simp [frm]
  have hget : ∀ i (hi : i < ((frm 1 n).map h).length), ((frm 1 n).map h)[i] = h (1 + i) := fun i hi => by simp [frm]
  constructor
  · intro i k h1 h2 h3
    have := sorted_two hp hs (i := i - 1) (k := k - 1) (by omega) (by omega)
    rw [hget, hget, show 1 + (i - 1) = i by omega, show 1 + (k - 1) = k by omega] at this
    exact this
  · obtain ⟨i, k, hk, hi, e⟩ := sorted_pos hp
    rw [hget, hget] at e
    exact ⟨1 + i, 1 + k, by omega, by omega, by omega, e⟩
/-- The ways with potentials. -/
def cg (f : Nat → Nat → Int) (p : List Int) (i k : Nat) : Int := f i k + p[i]?.getD 0 + p[k]?.getD 0
/-- The bound of potentials. -/
def BdIs (n : Nat) (f : Nat → Nat → Int) (p : List Int) (z : Int) : Prop := ∃ T t, IsTree (cg f p) (fun x => x ∈ frm 1 n) (n - 1) T ∧ TwoIs n (cg f p 0) t ∧ z = T + t - 2 * p.sum
end Go.Proofs.Ytmodbpglopfghaa
