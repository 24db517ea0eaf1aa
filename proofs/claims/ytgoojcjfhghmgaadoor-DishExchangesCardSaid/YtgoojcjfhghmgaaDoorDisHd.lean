/- Rules that are left out: plain; rows of rules of a call's own that are turned. -/
import Derived.Test.YtgoojcjfhghmgaaDoorDisHc
import Derived.Test.YtgoojcjfhghmgaaDoorDisEf
set_option linter.unusedSimpArgs false
set_option linter.unusedVariables false
namespace Go.Proofs.YtgoojcjfhghmgaaDoor
open Go Go.RowKit

/-- What is left of rules if the last k ones are looked at, from the end. -/
def RedR (p : Nat) : Nat → List Ru → List Ru → Prop
  | 0, l, m => m = l
  | k + 1, l, m => ∃ r, FlR (l.eraseIdx k) p (l[k]?.getD ([], 0)) r ∧ RedR p k (if r = true then l.eraseIdx k else l) m
theorem RedR.unique {p : Nat} : ∀ {k : Nat} {l m m' : List Ru}, RedR p k l m → RedR p k l m' → m = m'
  | 0, _, _, _, h, h' => h.trans h'.symm
  | k + 1, _, _, _, ⟨r, h1, h2⟩, ⟨r', h3, h4⟩ => by
    obtain rfl := h1.unique h3
    exact h2.unique h4
theorem RedR.sub {p : Nat} : ∀ {k : Nat} {l m : List Ru}, RedR p k l m → m.Sublist l
  | 0, _, _, h => by
    have e : _ = _ := h
    rw [e]; exact List.Sublist.refl _
  | k + 1, l, _, ⟨r, _, h⟩ => by
    refine h.sub.trans ?_
    cases r
    · exact List.Sublist.refl _
    · exact List.eraseIdx_sublist l k
theorem mem_erase_or {l : List Ru} {k : Nat} (hk : k < l.length) {x : Ru} (h : x ∈ l) : x ∈ l.eraseIdx k ∨ x = l[k] := by
  obtain ⟨j, hj, rfl⟩ := List.mem_iff_getElem.1 h
  by_cases e : j = k
  · subst e; exact .inr rfl
  · refine .inl ?_
    rw [List.eraseIdx_eq_take_drop_succ]
    rcases Nat.lt_or_ge j k with h1 | h1
    · exact List.mem_append.2 (.inl (List.mem_iff_getElem.2 ⟨j, by simp; omega, by simp⟩))
    · exact List.mem_append.2 (.inr (List.mem_iff_getElem.2 ⟨j - (k + 1), by simp; omega, by simp only [List.getElem_drop]; congr 1; omega⟩))
/-- A set is shut by the same rules if one that follows is left out. -/
theorem shut_erase {l : List Ru} {k p : Nat} (hk : k < l.length) (h : FlR (l.eraseIdx k) p l[k] true) (y : Nat) : Shut (l.eraseIdx k) allW y ↔ Shut l allW y := by
  constructor
  · intro hs r hr ha hw
    rcases mem_erase_or hk hr with hr | rfl
    · exact hs r hr ha hw
    · obtain ⟨x, hx, _, hb⟩ := h
      have hsub : Sub (mk (natL l[k].1)) y := fun q hq => by
        rw [mk_bit, List.contains_iff_mem] at hq
        exact List.all_eq_true.1 ha q hq
      exact hx.1.2 y hsub hs _ hb.symm
  · intro hs r hr ha hw
    exact hs r (List.mem_of_mem_eraseIdx hr) ha hw
theorem RedR.shut {p : Nat} : ∀ {k : Nat} {l m : List Ru}, k ≤ l.length → RedR p k l m → ∀ y, Shut m allW y ↔ Shut l allW y
  | 0, _, _, _, h, y => by
    have e : _ = _ := h
    rw [e]
  | k + 1, l, m, hk, ⟨r, h1, h2⟩, y => by
    rw [show l[k]?.getD ([], 0) = l[k] by simp [show k < l.length by omega]] at h1
    cases r with
    | false => exact RedR.shut (by simp; omega) h2 y
    | true => exact (RedR.shut (by simp [List.length_eraseIdx]; split <;> omega) h2 y).trans (shut_erase (by omega) h1 y)
theorem cl_shut {l m : List Ru} (h : ∀ y, Shut m allW y ↔ Shut l allW y) {x y : Nat} : Cl m x allW y ↔ Cl l x allW y :=
  ⟨fun ⟨⟨h1, h2⟩, h3⟩ => ⟨⟨h1, fun z hz hs => h2 z hz ((h z).2 hs)⟩, (h y).1 h3⟩, fun ⟨⟨h1, h2⟩, h3⟩ => ⟨⟨h1, fun z hz hs => h2 z hz ((h z).1 hs)⟩, (h y).2 h3⟩⟩

theorem RowsOwn.erase {base : Nat} {gx : Option Nat} {w : World} {vs : List Value} {rows : List (List Int)} (h : RowsOwn base gx w vs rows) (k : Nat) : RowsOwn base gx w (vs.eraseIdx k) (rows.eraseIdx k) := by
  have key : ∀ i, ∃ j, (∀ (α : Type) (l : List α), (l.eraseIdx k)[i]? = l[j]?) ∧ (i < k → j = i) ∧ (k ≤ i → j = i + 1) := fun i => by
    by_cases e : i < k
    · exact ⟨i, fun α l => by rw [List.getElem?_eraseIdx, if_pos e], fun _ => rfl, fun h => by omega⟩
    · exact ⟨i + 1, fun α l => by rw [List.getElem?_eraseIdx, if_neg e], fun h => by omega, fun _ => rfl⟩
  refine ⟨by simp [List.length_eraseIdx, h.1], fun i hi => ?_, fun i i' v v' hii hv hv' b hb => ?_⟩
  · obtain ⟨j, e, _, _⟩ := key i
    have hj : rows[j]? = some (rows.eraseIdx k)[i] := by rw [← e, List.getElem?_eq_getElem hi]
    obtain ⟨hj1, hj2⟩ := List.getElem?_eq_some_iff.1 hj
    obtain ⟨A, c, q1, q2, q3⟩ := h.2.1 j hj1
    rw [hj2] at q1 q2 q3
    exact ⟨A, c, by rw [e]; exact q1, q2, q3⟩
  · obtain ⟨j, e, e1, e2⟩ := key i
    obtain ⟨j', e', e1', e2'⟩ := key i'
    rw [e] at hv
    rw [e'] at hv'
    exact h.2.2 j j' v v' (by
      rcases Nat.lt_or_ge i k with h1 | h1 <;> rcases Nat.lt_or_ge i' k with h2 | h2
      · rw [e1 h1, e1' h2]; exact hii
      · rw [e1 h1, e2' h2]; omega
      · omega
      · rw [e2 h1, e2' h2]; omega) hv hv' b hb
/-- A block that is no row of it is turned. -/
theorem RowsOwn.onlyG {base : Nat} {gx : Option Nat} {w w' : World} {vs : List Value} {rows : List (List Int)} {G : Nat} {t : TypeId} {cs : Array Value} (h : RowsOwn base gx w vs rows) (o : Only G w w') (hG : Blk w G t cs) (ht : 3 ≠ t) : RowsOwn base gx w' vs rows :=
  ⟨h.1, fun i hi => by
    obtain ⟨A, c, h1, h2, h3⟩ := h.2.1 i hi
    exact ⟨A, c, h1, o.own h2 (hG.ne_row h2 ht), h3⟩, h.2.2⟩
theorem RuP.onlyG {lo G : Nat} {out : Value} {w w' : World} {ps : List (Value × Value)} {l : List Ru} {cs : Array Value} (h : RuP lo out w ps l) (o : Only G w w') (hG : Blk w G 25 cs) : RuP lo out w' ps l :=
  ⟨h.1, o.own h.2.1 (hG.ne_row h.2.1 (by decide)), h.2.2.1.onlyG o hG (by decide), h.2.2.2⟩
theorem RuP.one {lo : Nat} {out : Value} {w : World} {ps : List (Value × Value)} {l : List Ru} (h : RuP lo out w ps l) : ∀ u ∈ flatV ps, u.oneCell' = true := flatV_one fun q hq => by
  obtain ⟨i, hi, rfl⟩ := List.mem_iff_getElem.1 hq
  have hil : i < l.length := by rw [← h.1]; exact hi
  obtain ⟨A, c, h1, _⟩ := h.2.2.1.2.1 i (by simpa [flR] using hil)
  rw [List.getElem?_map, List.getElem?_eq_getElem hi] at h1
  have h2 := congrArg (fun l => l[i]?) h.2.2.2
  simp only [List.getElem?_map, List.getElem?_eq_getElem hi, List.getElem?_eq_getElem hil, Option.map_some, Option.some.injEq] at h1 h2
  rw [h1, h2]
  exact ⟨rfl, rfl⟩
/-- Rules of which one is left out, in a row of their own. -/
theorem RuP.erase {lo lo' i n : Nat} {out out' : Value} {w w' : World} {ps : List (Value × Value)} {l : List Ru} (h : RuP lo out w ps l) (hn : l.length = n) (hi : i < n) (hlo : lo ≤ lo') (hw : w.heap.size ≤ lo') (hb : Below w.heap.size w w')
    (ho : w'.ownsRow lo' 42 2 out' (n - 1) (flatV (ps.eraseIdx i))) : RuP lo out' w' (ps.eraseIdx i) (l.eraseIdx i) := by
  subst hn
  refine ⟨by simp [List.length_eraseIdx, h.1], by rw [List.length_eraseIdx_of_lt hi]; exact own_base ho hlo, ?_, ?_⟩
  · have h1 := (h.2.2.1.below hb).erase i
    have e1 : (ps.map (·.1)).eraseIdx i = (ps.eraseIdx i).map (·.1) := by rw [List.eraseIdx_eq_take_drop_succ, List.eraseIdx_eq_take_drop_succ]; simp
    have e2 : (flR l).eraseIdx i = flR (l.eraseIdx i) := by unfold flR; rw [List.eraseIdx_eq_take_drop_succ, List.eraseIdx_eq_take_drop_succ]; simp
    rw [e1, e2] at h1
    refine ⟨h1.1, fun j hj => ?_, h1.2.2⟩
    obtain ⟨A, c, q1, q2, _⟩ := h1.2.1 j hj
    refine ⟨A, c, q1, q2, fun k hk e => ?_⟩
    have h3 := (ho.lt k e).1
    have h2 := (h.2.2.1.erase i).lt (by rw [e1]; exact q1) hk
    omega
  · have := h.2.2.2
    have e1 : (ps.eraseIdx i).map (·.2) = (ps.map (·.2)).eraseIdx i := by rw [List.eraseIdx_eq_take_drop_succ, List.eraseIdx_eq_take_drop_succ]; simp
    rw [e1, this, List.eraseIdx_eq_take_drop_succ, List.eraseIdx_eq_take_drop_succ]; simp
end Go.Proofs.YtgoojcjfhghmgaaDoor
