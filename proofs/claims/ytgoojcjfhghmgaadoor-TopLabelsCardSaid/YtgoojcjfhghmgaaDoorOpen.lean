/- An argument opened: ints, structs of ints, slices of ints, slices of structs of ints; a law's row out of its walk. -/
import Derived.Test.YtgoojcjfhghmgaaDoorBase
import Derived.ProofKit
import Derived.Deep.Slices
import Derived.Deep.Fields
import Derived.ChangeOld
import Derived.OpenShut
namespace Go.Proofs.YtgoojcjfhghmgaaDoor
open Go.RowKit Go.ChangeShapes Go.WideShapes Go.ChangeAt Go.Deep

/-- It fits an int. -/
def I64 (n : Int) : Prop := (Lit.int .i64 n).wf = true

section
variable {H : Type} {enc : TypeId × Value → H} {P : Program} {W : World} {base : Nat} {sp : Nat → Bool} {held : Bool} {fuel : Nat} {t e : TypeId} {cs : List Value} {x : DataW H × List MemPlace}

theorem spot_none {w : World} {a : Addr} {v : Value} (h : w.cell? a = some v) : a.spot = none := by
  cases hs : a.spot with
  | none => rfl
  | some s =>
    have : w.cell? a = none := by
      unfold World.cell?
      split
      · simp [hs]
      · rfl
    rw [this] at h; cases h
theorem add_spot (a : Addr) (n : Nat) : (a.add n).spot = a.spot ∨ (a.add n).spot = none := by
  unfold Addr.add; split <;> simp_all

theorem ElsAt.of_add {w : World} {a : Addr} {s n : Nat} {f : Nat → Nat → Value} (hs : 0 < s) (h : ∀ k, k < n → ∀ j, j < s → w.cell? (a.add (k * s + j)) = some (f k j)) (ha : 0 < n → a.spot = none) : ElsAt w.heap.size w (some a) s n f := by
  intro k hk
  obtain ⟨b, off, spot⟩ := a
  obtain rfl : spot = none := ha (by omega)
  have h0 := h k hk 0 hs
  rw [Addr.add_lit] at h0
  refine ⟨b, off, rfl, cell_lt h0, fun j hj => ?_⟩
  have := h k hk j hj
  rw [Addr.add_lit] at this
  rw [Nat.add_assoc]; exact this

/-- A slice of ints that came in. -/
theorem open_intsAt (ht : P.underlying t = some (.slice e)) (he : P.underlying e = some (.int .i64)) (hc : P.cellsOf e = 1) (h : DataW.trod enc P W base sp held fuel t cs = some x) :
    ∃ A c zs, cs = [.slice A zs.length c] ∧ IntsAt W.heap.size W A zs ∧ (∀ z ∈ zs, I64 z) ∧ zs.length ≤ maxLen := by
  rcases open_ints ht he hc h with ⟨hcs, _⟩ | ⟨a, len, cap, zs, hcs, _, hl, hm, hz, _, hcell, hwf⟩
  · exact ⟨none, 0, [], hcs, IntsAt.nil _ _ _, by simp, Nat.zero_le _⟩
  · have hlz : len ≤ zs.length := by rw [hz]; split <;> omega
    have hlen : (zs.take len).length = len := by simp; omega
    refine ⟨some a, cap, zs.take len, by rw [hlen]; exact hcs, ?_, fun z hz => hwf z (List.mem_of_mem_take hz), by omega⟩
    refine ElsAt.of_add (by omega) (fun k hk j hj => ?_) (fun h0 => ?_)
    · rw [hlen] at hk
      obtain rfl : j = 0 := by omega
      have := hcell k (by omega)
      simp only [Nat.mul_one, Nat.add_zero]
      rw [this]; simp [hk]
    · rw [hlen] at h0
      have := spot_none (hcell 0 (by omega))
      unfold Addr.add at this
      simpa using this

theorem trod_int_inv {n : Nat} {v : Value} {y : DataW H × List MemPlace} (he : P.underlying e = some (.int .i64)) (h : DataW.trod enc P W base sp held n e [v] = some y) : ∃ z, v = .int .i64 z ∧ I64 z := by
  obtain ⟨z, e0, _, wa⟩ := DataW.trod_int he h
  exact ⟨z, by simpa using e0, wa⟩

/-- The cells of a struct whose fields are all ints. -/
theorem struct_ints {fs : Array Field} {n : Nat} {cs' : List Value} {y : DataW H × List MemPlace} (hs : P.underlying e = some (.struct fs)) (hone : oneCellFields P fs = true) (hC : P.cellsOf e = fs.size)
    (hint : ∀ f ∈ fs.toList, P.underlying f.type = some (.int .i64)) (h : DataW.trod enc P W base sp held n e cs' = some y) :
    cs'.length = fs.size ∧ ∀ j, j < fs.size → ∃ z, cs'[j]? = some (.int .i64 z) ∧ I64 z := by
  obtain ⟨ys, n', _, _, hlen, _, hf⟩ := DataW.trod_struct hs h
  rw [hC] at hlen
  refine ⟨hlen, fun j hj => ?_⟩
  have hfj : fs[j]? = some fs[j] := Array.getElem?_eq_getElem hj
  obtain ⟨ho, hk⟩ := hone_of hone j fs[j] hfj
  have h1 := hf j fs[j] hfj
  rw [ho, hk] at h1
  have hv : cs'[j]? = some (cs'[j]'(by omega)) := List.getElem?_eq_getElem (by omega)
  have hone' : (cs'.drop j).take 1 = [cs'[j]'(by omega)] := by
    rw [List.drop_eq_getElem_cons (by omega)]; rfl
  rw [hone'] at h1
  cases hy : DataW.trod enc P W base sp held n' fs[j].type [cs'[j]'(by omega)] with
  | none => 
    rw [hy] at h1
    have := ‹ys.length = fs.size›
    rw [List.getElem?_eq_getElem (by omega)] at h1; cases h1
  | some y' =>
    obtain ⟨z, hz, wz⟩ := trod_int_inv (hint fs[j] (by simp)) hy
    exact ⟨z, by rw [hv, hz], wz⟩

/-- A slice of structs of ints that came in. -/
theorem open_rowsAt {fs : Array Field} (ht : P.underlying t = some (.slice e)) (hs : P.underlying e = some (.struct fs)) (hone : oneCellFields P fs = true) (hC : P.cellsOf e = fs.size) (h0 : 0 < fs.size)
    (hint : ∀ f ∈ fs.toList, P.underlying f.type = some (.int .i64)) (h : DataW.trod enc P W base sp held fuel t cs = some x) :
    ∃ A c n, ∃ f : Nat → Nat → Int, cs = [.slice A n c] ∧ ElsAt W.heap.size W A fs.size n (fun k j => .int .i64 (f k j)) ∧ (∀ k j, k < n → j < fs.size → I64 (f k j)) ∧ n ≤ maxLen := by
  rcases open_slice ht h with ⟨hcs, _⟩ | ⟨a, len, cap, m, n, D, Pl, hcs, _, hl, hm, hmm, _, hel⟩
  · exact ⟨none, 0, 0, fun _ _ => 0, hcs, ElsAt.nil _ _ _ _ _, fun k j hk => by omega, Nat.zero_le _⟩
  · have hlm : len ≤ m := by rw [hmm]; split <;> omega
    have key : ∀ k, ∃ g : Nat → Int, k < len → ∀ j, j < fs.size → W.cell? (a.add (k * fs.size + j)) = some (.int .i64 (g j)) ∧ I64 (g j) := by
      intro k
      by_cases hk : k < len
      · obtain ⟨cs', hc, htr⟩ := hel k (by omega)
        obtain ⟨hlen, hz⟩ := struct_ints hs hone hC hint htr
        obtain ⟨_, _, hat⟩ := World.cells?_some hc
        rw [hC] at hat
        have : ∀ j, ∃ z, j < fs.size → cs'[j]? = some (.int .i64 z) ∧ I64 z := fun j => by
          by_cases hj : j < fs.size
          · obtain ⟨z, h1, h2⟩ := hz j hj; exact ⟨z, fun _ => ⟨h1, h2⟩⟩
          · exact ⟨0, fun h => absurd h hj⟩
        refine ⟨fun j => Classical.choose (this j), fun _ j hj => ?_⟩
        obtain ⟨h1, h2⟩ := Classical.choose_spec (this j) hj
        refine ⟨?_, h2⟩
        rw [← Go.Deep.add_add, hat j hj]; exact h1
      · exact ⟨fun _ => 0, fun h => absurd h hk⟩
    refine ⟨some a, cap, len, fun k => Classical.choose (key k), hcs, ElsAt.of_add h0 (fun k hk j hj => (Classical.choose_spec (key k) hk j hj).1) (fun h0' => ?_), fun k j hk hj => (Classical.choose_spec (key k) hk j hj).2, by omega⟩
    have := spot_none (Classical.choose_spec (key 0) h0' 0 h0).1
    unfold Addr.add at this
    simpa using this

/-- A struct of ints by value. -/
theorem open_agg_ints {fs : Array Field} {r : Reach} {b0 : Nat} {v : Value} {d : DataW H} {p : List MemPlace} (hs : P.underlying e = some (.struct fs)) (hone : oneCellFields P fs = true) (hC : P.cellsOf e = fs.size)
    (hint : ∀ f ∈ fs.toList, P.underlying f.type = some (.int .i64)) (hv : Value.okWide P W r b0 e v) (h : DataW.Trod enc P W base sp held e v d p) :
    ∃ zs : List Int, zs.length = fs.size ∧ v = .agg (zs.map (Value.int .i64)).toArray ∧ ∀ z ∈ zs, I64 z := by
  obtain ⟨cs, rfl, hsz⟩ := okWide_struct hs hv
  obtain ⟨fuel, hf⟩ := h
  simp only [Value.cells] at hf
  obtain ⟨hlen, hz⟩ := struct_ints hs hone hC hint hf
  have hsz' : cs.size = fs.size := hsz.trans hC
  have key : ∀ j, ∃ z, j < fs.size → cs.toList[j]? = some (.int .i64 z) ∧ I64 z := fun j => by
    by_cases hj : j < fs.size
    · obtain ⟨z, h1, h2⟩ := hz j hj; exact ⟨z, fun _ => ⟨h1, h2⟩⟩
    · exact ⟨0, fun h => absurd h hj⟩
  refine ⟨(List.range fs.size).map fun j => Classical.choose (key j), by simp, ?_, fun z hz' => ?_⟩
  · congr 1
    apply Array.ext'
    apply List.ext_getElem?
    intro j
    by_cases hj : j < fs.size
    · rw [(Classical.choose_spec (key j) hj).1]; simp [hj]
    · rw [List.getElem?_eq_none (by simp; omega), List.getElem?_eq_none (by simp; omega)]
  · simp only [List.mem_map, List.mem_range] at hz'
    obtain ⟨j, hj, rfl⟩ := hz'
    exact (Classical.choose_spec (key j) hj).2
end
theorem list1 {zs : List Int} (h : zs.length = 1) : ∃ x0 : Int, zs = [x0] := by
  match zs, h with
  | [x0], _ => exact ⟨_, rfl⟩
theorem list2 {zs : List Int} (h : zs.length = 2) : ∃ x0 x1 : Int, zs = [x0, x1] := by
  match zs, h with
  | [x0, x1], _ => exact ⟨_, _, rfl⟩
theorem list3 {zs : List Int} (h : zs.length = 3) : ∃ x0 x1 x2 : Int, zs = [x0, x1, x2] := by
  match zs, h with
  | [x0, x1, x2], _ => exact ⟨_, _, _, rfl⟩
theorem list4 {zs : List Int} (h : zs.length = 4) : ∃ x0 x1 x2 x3 : Int, zs = [x0, x1, x2, x3] := by
  match zs, h with
  | [x0, x1, x2, x3], _ => exact ⟨_, _, _, _, rfl⟩
theorem list5 {zs : List Int} (h : zs.length = 5) : ∃ x0 x1 x2 x3 x4 : Int, zs = [x0, x1, x2, x3, x4] := by
  match zs, h with
  | [x0, x1, x2, x3, x4], _ => exact ⟨_, _, _, _, _, rfl⟩
theorem list6 {zs : List Int} (h : zs.length = 6) : ∃ x0 x1 x2 x3 x4 x5 : Int, zs = [x0, x1, x2, x3, x4, x5] := by
  match zs, h with
  | [x0, x1, x2, x3, x4, x5], _ => exact ⟨_, _, _, _, _, _, rfl⟩
end Go.Proofs.YtgoojcjfhghmgaaDoor
