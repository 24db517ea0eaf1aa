/- A book, a rule that came in: opened. -/
import Derived.Test.YtgoojcjfhghmgaaDoorOpen
import Derived.Test.YtgoojcjfhghmgaaDoorDisI
namespace Go.Proofs.YtgoojcjfhghmgaaDoor
open Go.RowKit Go.ChangeShapes Go.WideShapes Go.ChangeAt Go.Deep

theorem exists_list {α : Type} {Q : Nat → α → Prop} : ∀ (n : Nat), (∀ k, k < n → ∃ x, Q k x) → ∃ l : List α, l.length = n ∧ ∀ k (hk : k < l.length), Q k l[k]
  | 0, _ => ⟨[], rfl, fun k hk => absurd hk (Nat.not_lt_zero k)⟩
  | n + 1, h => by
    obtain ⟨l, rfl, hq⟩ := exists_list n fun k hk => h k (by omega)
    obtain ⟨x, hx⟩ := h l.length (by omega)
    refine ⟨l ++ [x], by simp, fun k hk => ?_⟩
    by_cases hkn : k < l.length
    · rw [List.getElem_append_left hkn]; exact hq k hkn
    · have : k = l.length := by simp at hk; omega
      subst this
      have e : (l ++ [x])[l.length] = x := by simp
      rw [e]; exact hx

section
variable {H : Type} {enc : TypeId × Value → H} {P : Program} {W : World} {base : Nat} {sp : Nat → Bool} {held : Bool} {t e : TypeId} {cs : List Value} {x : DataW H × List MemPlace}

/-- The cells of a struct of one-cell fields. -/
theorem struct_fields {fs : Array Field} {n : Nat} {cs' : List Value} {y : DataW H × List MemPlace} (hs : P.underlying e = some (.struct fs)) (hone : oneCellFields P fs = true) (hC : P.cellsOf e = fs.size)
    (h : DataW.trod enc P W base sp held n e cs' = some y) :
    cs'.length = fs.size ∧ ∀ j (hj : j < fs.size), ∃ n' y' v, cs'[j]? = some v ∧ DataW.trod enc P W base sp held n' fs[j].type [v] = some y' := by
  obtain ⟨ys, n', _, _, hlen, _, hf⟩ := DataW.trod_struct hs h
  rw [hC] at hlen
  refine ⟨hlen, fun j hj => ?_⟩
  have hfj : fs[j]? = some fs[j] := Array.getElem?_eq_getElem hj
  obtain ⟨ho, hk⟩ := hone_of hone j fs[j] hfj
  have h1 := hf j fs[j] hfj
  rw [ho, hk] at h1
  have hv : cs'[j]? = some (cs'[j]'(by omega)) := List.getElem?_eq_getElem (by omega)
  have hone' : (cs'.drop j).take 1 = [cs'[j]'(by omega)] := by
    rw [List.drop_eq_getElem_cons (by omega)]; rfl
  rw [hone'] at h1
  cases hy : DataW.trod enc P W base sp held n' fs[j].type [cs'[j]'(by omega)] with
  | none =>
    rw [hy] at h1
    have := ‹ys.length = fs.size›
    rw [List.getElem?_eq_getElem (by omega)] at h1; cases h1
  | some y' => exact ⟨n', y', _, hv, hy⟩
/-- A slice of structs of two one-cell fields. -/
theorem open_twos {fs : Array Field} {fuel : Nat} (ht : P.underlying t = some (.slice e)) (hs : P.underlying e = some (.struct fs)) (hone : oneCellFields P fs = true) (hC : P.cellsOf e = fs.size) (h2 : fs.size = 2)
    (h : DataW.trod enc P W base sp held fuel t cs = some x) :
    ∃ A c n, cs = [.slice A n c] ∧ n ≤ maxLen ∧ ∀ k, k < n → ∃ b off v0 v1 n0 y0 n1 y1, A = some ⟨b, off, none⟩ ∧ b < W.heap.size ∧ W.cell? ⟨b, off + k * 2, none⟩ = some v0 ∧ W.cell? ⟨b, off + k * 2 + 1, none⟩ = some v1 ∧
      DataW.trod enc P W base sp held n0 fs[0].type [v0] = some y0 ∧ DataW.trod enc P W base sp held n1 fs[1].type [v1] = some y1 := by
  rcases open_slice ht h with ⟨hcs, _⟩ | ⟨a, len, cap, m, n, D, Pl, hcs, _, hl, hm, hmm, _, hel⟩
  · exact ⟨none, 0, 0, hcs, Nat.zero_le _, fun k hk => by omega⟩
  · have hlm : len ≤ m := by rw [hmm]; split <;> omega
    refine ⟨some a, cap, len, hcs, by omega, fun k hk => ?_⟩
    obtain ⟨cs', hc, htr⟩ := hel k (by omega)
    obtain ⟨hlen, hz⟩ := struct_fields hs hone hC htr
    obtain ⟨_, _, hat⟩ := World.cells?_some hc
    rw [hC] at hat
    obtain ⟨n0, y0, v0, c0, t0⟩ := hz 0 (by omega)
    obtain ⟨n1, y1, v1, c1, t1⟩ := hz 1 (by omega)
    have q0 := hat 0 (by omega)
    have q1 := hat 1 (by omega)
    rw [c0, Go.Deep.add_add] at q0
    rw [c1, Go.Deep.add_add] at q1
    obtain ⟨cs0, hc0, htr0⟩ := hel 0 (by omega)
    obtain ⟨_, hz0⟩ := struct_fields hs hone hC htr0
    obtain ⟨_, _, hat0⟩ := World.cells?_some hc0
    obtain ⟨_, _, u0, d0, _⟩ := hz0 0 (by omega)
    have p0 := hat0 0 (by rw [hC]; omega)
    rw [d0] at p0
    have hsp := spot_none p0
    obtain ⟨b, off, spot⟩ := a
    obtain rfl : spot = none := by
      unfold Addr.add at hsp
      simpa using hsp
    rw [Addr.add_lit, h2] at q0
    rw [Addr.add_lit, h2] at q1
    refine ⟨b, off, v0, v1, n0, y0, n1, y1, rfl, cell_lt q0, ?_, ?_, t0, t1⟩
    · simpa using q0
    · rw [Nat.add_assoc]; exact q1
end

section
variable {H : Type} {enc : TypeId × Value → H} {W : World} {base b0 : Nat} {sp : Nat → Bool} {held : Bool} {cs : List Value} {x : DataW H × List MemPlace}
theorem its_of {fuel : Nat} (h : DataW.trod enc Tryd.prog W base sp held fuel 22 cs = some x) : ∃ A c l, cs = [.slice A (List.length l) c] ∧ ItsAt W.heap.size W A l ∧ l.length ≤ maxLen := by
  obtain ⟨A, c, n, rfl, hn, hel⟩ := open_twos Tryd.underlying22 Tryd.underlying84 (by kernel_rfl) (by kernel_rfl) rfl h
  obtain ⟨l, rfl, hl⟩ := exists_list (Q := fun k (x : It) => ∃ b off A1 c1 A2 c2, A = some ⟨b, off, none⟩ ∧ b < W.heap.size ∧ W.cell? ⟨b, off + k * 2, none⟩ = some (.slice A1 x.1.length c1) ∧ W.cell? ⟨b, off + k * 2 + 1, none⟩ = some (.slice A2 x.2.length c2) ∧ IntsAt W.heap.size W A1 x.1 ∧ IntsAt W.heap.size W A2 x.2) n fun k hk => by
    obtain ⟨b, off, v0, v1, n0, y0, n1, y1, e, hb, q0, q1, t0, t1⟩ := hel k hk
    obtain ⟨A1, c1, z1, e1, i1, _, _⟩ := open_intsAt Tryd.underlying32 Tryd.underlying3 (by kernel_rfl) t0
    obtain ⟨A2, c2, z2, e2, i2, _, _⟩ := open_intsAt Tryd.underlying32 Tryd.underlying3 (by kernel_rfl) t1
    obtain rfl := List.singleton_inj.1 e1
    obtain rfl := List.singleton_inj.1 e2
    exact ⟨(z1, z2), b, off, A1, c1, A2, c2, e, hb, q0, q1, i1, i2⟩
  exact ⟨A, c, l, rfl, hl, hn⟩
theorem rus_of {fuel : Nat} (h : DataW.trod enc Tryd.prog W base sp held fuel 23 cs = some x) : ∃ A c l, cs = [.slice A (List.length l) c] ∧ RusAt W.heap.size W A l ∧ l.length ≤ maxLen := by
  obtain ⟨A, c, n, rfl, hn, hel⟩ := open_twos Tryd.underlying23 Tryd.underlying42 (by kernel_rfl) (by kernel_rfl) rfl h
  obtain ⟨l, rfl, hl⟩ := exists_list (Q := fun k (x : Ru) => ∃ b off A1 c1, A = some ⟨b, off, none⟩ ∧ b < W.heap.size ∧ W.cell? ⟨b, off + k * 2, none⟩ = some (.slice A1 x.1.length c1) ∧ W.cell? ⟨b, off + k * 2 + 1, none⟩ = some (.int .i64 x.2) ∧ IntsAt W.heap.size W A1 x.1) n fun k hk => by
    obtain ⟨b, off, v0, v1, n0, y0, n1, y1, e, hb, q0, q1, t0, t1⟩ := hel k hk
    obtain ⟨A1, c1, z1, e1, i1, _, _⟩ := open_intsAt Tryd.underlying32 Tryd.underlying3 (by kernel_rfl) t0
    obtain ⟨z2, rfl, _⟩ := trod_int_inv Tryd.underlying3 t1
    obtain rfl := List.singleton_inj.1 e1
    exact ⟨(z1, z2), b, off, A1, c1, e, hb, q0, q1, i1⟩
  exact ⟨A, c, l, rfl, hl, hn⟩
theorem arr3 {cs : Array Value} {v0 v1 v2 : Value} (hl : cs.toList.length = 3) (h0 : cs.toList[0]? = some v0) (h1 : cs.toList[1]? = some v1) (h2 : cs.toList[2]? = some v2) : cs = #[v0, v1, v2] := by
  obtain ⟨l⟩ := cs
  match l, hl with
  | [a, b, c], _ =>
    simp only [List.getElem?_cons_zero, List.getElem?_cons_succ, Option.some.injEq] at h0 h1 h2
    subst h0 h1 h2; rfl
theorem arr2 {cs : Array Value} {v0 v1 : Value} (hl : cs.toList.length = 2) (h0 : cs.toList[0]? = some v0) (h1 : cs.toList[1]? = some v1) : cs = #[v0, v1] := by
  obtain ⟨l⟩ := cs
  match l, hl with
  | [a, b], _ =>
    simp only [List.getElem?_cons_zero, List.getElem?_cons_succ, Option.some.injEq] at h0 h1
    subst h0 h1; rfl
set_option maxRecDepth 100000 in
/-- A book by value. -/
theorem open_book {r : Reach} {v : Value} {d : DataW H} {p : List MemPlace} (hv : Value.okWide Tryd.prog W r b0 25 v) (h : DataW.Trod enc Tryd.prog W base sp held 25 v d p) :
    ∃ AI AR cI cR, ∃ b : Bk, v = .agg #[.int .i64 b.p, .slice AI b.its.length cI, .slice AR b.rus.length cR] ∧ ItsAt W.heap.size W AI b.its ∧ RusAt W.heap.size W AR b.rus ∧ b.its.length ≤ maxLen ∧ b.rus.length ≤ maxLen := by
  obtain ⟨cs, rfl, hsz⟩ := okWide_struct Tryd.underlying25 hv
  obtain ⟨fuel, hf⟩ := h
  simp only [Value.cells] at hf
  obtain ⟨hlen, hz⟩ := struct_fields Tryd.underlying25 (by kernel_rfl) (by kernel_rfl) hf
  obtain ⟨n0, y0, v0, c0, t0⟩ := hz 0 (by decide)
  obtain ⟨n1, y1, v1, c1, t1⟩ := hz 1 (by decide)
  obtain ⟨n2, y2, v2, c2, t2⟩ := hz 2 (by decide)
  obtain rfl := arr3 hlen c0 c1 c2
  obtain ⟨q, rfl, _⟩ := trod_int_inv Tryd.underlying3 t0
  obtain ⟨AI, cI, l1, e1, i1, m1⟩ := its_of t1
  obtain ⟨AR, cR, l2, e2, i2, m2⟩ := rus_of t2
  obtain rfl := List.singleton_inj.1 e1
  obtain rfl := List.singleton_inj.1 e2
  exact ⟨AI, AR, cI, cR, ⟨q, l1, l2⟩, rfl, i1, i2, m1, m2⟩
set_option maxRecDepth 100000 in
/-- A rule by value. -/
theorem open_rule {r : Reach} {v : Value} {d : DataW H} {p : List MemPlace} (hv : Value.okWide Tryd.prog W r b0 42 v) (h : DataW.Trod enc Tryd.prog W base sp held 42 v d p) :
    ∃ A c, ∃ x : Ru, v = .agg #[.slice A x.1.length c, .int .i64 x.2] ∧ IntsAt W.heap.size W A x.1 := by
  obtain ⟨cs, rfl, hsz⟩ := okWide_struct Tryd.underlying42 hv
  obtain ⟨fuel, hf⟩ := h
  simp only [Value.cells] at hf
  obtain ⟨hlen, hz⟩ := struct_fields Tryd.underlying42 (by kernel_rfl) (by kernel_rfl) hf
  obtain ⟨n0, y0, v0, c0, t0⟩ := hz 0 (by decide)
  obtain ⟨n1, y1, v1, c1, t1⟩ := hz 1 (by decide)
  obtain rfl := arr2 hlen c0 c1
  obtain ⟨A1, k1, z1, e1, i1, _, _⟩ := open_intsAt Tryd.underlying32 Tryd.underlying3 (by kernel_rfl) t0
  obtain ⟨z2, rfl, _⟩ := trod_int_inv Tryd.underlying3 t1
  obtain rfl := List.singleton_inj.1 e1
  exact ⟨A1, k1, (z1, z2), rfl, i1⟩
end
end Go.Proofs.YtgoojcjfhghmgaaDoor
