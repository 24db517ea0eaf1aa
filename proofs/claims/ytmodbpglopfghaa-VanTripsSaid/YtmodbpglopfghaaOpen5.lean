/- A trip that came in: opened. -/
import Derived.Test.YtmodbpglopfghaaOpen
import Derived.Test.YtmodbpglopfghaaOpen3
import Derived.Test.YtmodbpglopfghaaVanAo
namespace Go.Proofs.Ytmodbpglopfghaa
open Go.RowKit Go.ChangeShapes Go.WideShapes Go.ChangeAt Go.Deep

section
variable {H : Type} {enc : TypeId × Value → H} {P : Program} {W : World} {base : Nat} {sp : Nat → Bool} {held : Bool} {t e : TypeId} {cs : List Value} {x : DataW H × List MemPlace}

/-- The cells of a struct of one-cell fields. -/
theorem struct_fields {fs : Array Field} {n : Nat} {cs' : List Value} {y : DataW H × List MemPlace} (hs : P.underlying e = some (.struct fs)) (hone : oneCellFields P fs = true) (hC : P.cellsOf e = fs.size)
    (h : DataW.trod enc P W base sp held n e cs' = some y) :
    cs'.length = fs.size ∧ ∀ j (hj : j < fs.size), ∃ n' y' v, cs'[j]? = some v ∧ DataW.trod enc P W base sp held n' fs[j].type [v] = some y' := by
  obtain ⟨ys, n', _, _, hlen, _, hf⟩ := DataW.trod_struct hs h
  rw [hC] at hlen
  refine ⟨hlen, fun j hj => ?_⟩
  have hfj : fs[j]? = some fs[j] := Array.getElem?_eq_getElem hj
  obtain ⟨ho, hk⟩ := hone_of hone j fs[j] hfj
  have h1 := hf j fs[j] hfj
  rw [ho, hk] at h1
  have hv : cs'[j]? = some (cs'[j]'(by omega)) := List.getElem?_eq_getElem (by omega)
  have hone' : (cs'.drop j).take 1 = [cs'[j]'(by omega)] := by
    rw [List.drop_eq_getElem_cons (by omega)]; rfl
  rw [hone'] at h1
  cases hy : DataW.trod enc P W base sp held n' fs[j].type [cs'[j]'(by omega)] with
  | none =>
    rw [hy] at h1
    have := ‹ys.length = fs.size›
    rw [List.getElem?_eq_getElem (by omega)] at h1; cases h1
  | some y' => exact ⟨n', y', _, hv, hy⟩
end

theorem arr3 {cs : Array Value} {v0 v1 v2 : Value} (hl : cs.toList.length = 3) (h0 : cs.toList[0]? = some v0) (h1 : cs.toList[1]? = some v1) (h2 : cs.toList[2]? = some v2) : cs = #[v0, v1, v2] := by
  obtain ⟨l⟩ := cs
  match l, hl with
  | [a, b, c], _ =>
    simp only [List.getElem?_cons_zero, List.getElem?_cons_succ, Option.some.injEq] at h0 h1 h2
    subst h0 h1 h2; rfl
section
variable {H : Type} {enc : TypeId × Value → H} {W : World} {base b0 : Nat} {sp : Nat → Bool} {held : Bool} {cs : List Value} {x : DataW H × List MemPlace}
set_option maxRecDepth 100000 in
/-- A trip by value. -/
theorem open_trip {r : Reach} {v : Value} {d : DataW H} {p : List MemPlace} (hv : Value.okWide Try.prog W r b0 45 v) (h : DataW.Trod enc Try.prog W base sp held 45 v d p) :
    ∃ AS cS n, ∃ g : Nat → Nat → Int, ∃ AT cT, ∃ t : List Int, ∃ bg, v = .agg #[.slice AS n cS, .slice AT t.length cT, .int .i64 bg] ∧ StAt W.heap.size W AS n g ∧ IntsAt W.heap.size W AT t ∧ t.length ≤ cT ∧ cT ≤ maxLen := by
  obtain ⟨cs, rfl, hsz⟩ := okWide_struct Try.underlying45 hv
  obtain ⟨fuel, hf⟩ := h
  simp only [Value.cells] at hf
  obtain ⟨hlen, hz⟩ := struct_fields Try.underlying45 (by kernel_rfl) (by kernel_rfl) hf
  obtain ⟨n0, y0, v0, c0, t0⟩ := hz 0 (by decide)
  obtain ⟨n1, y1, v1, c1, t1⟩ := hz 1 (by decide)
  obtain ⟨n2, y2, v2, c2, t2⟩ := hz 2 (by decide)
  obtain rfl := arr3 hlen c0 c1 c2
  obtain ⟨q, rfl, _⟩ := trod_int_inv Try.underlying3 t2
  obtain ⟨AS, cS, n, g, e0, i0, _, _⟩ := open_rowsAt Try.underlying43 Try.underlying89 (by kernel_rfl) (by kernel_rfl) (by decide) (by intro f hf; simp only [List.mem_cons, List.not_mem_nil, or_false] at hf; rcases hf with rfl | rfl | rfl | rfl <;> exact Try.underlying3) t0
  obtain ⟨AT, cT, z, e1, i1, _, _, m1, m2⟩ := open_intsCap Try.underlying28 Try.underlying3 (by kernel_rfl) t1
  obtain rfl := List.singleton_inj.1 e0
  obtain rfl := List.singleton_inj.1 e1
  exact ⟨AS, cS, n, g, AT, cT, z, q, rfl, i0, i1, m1, m2⟩
end
end Go.Proofs.Ytmodbpglopfghaa
