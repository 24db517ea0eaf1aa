/- Sort, Clone, Contains, Compact, Equal at slices of ints; isSet. -/
import Derived.Test.YtgoojcjfhghmgaaDoorDisC
import Derived.Test.YtgoojcjfhghmgaaDoorShelf
import Derived.Lib.SlKeysI
namespace Go.Proofs.YtgoojcjfhghmgaaDoor
open Go.RowKit Go.Shelf Go.Sort Go.Lib

theorem sort_own (base : Nat) (v : Value) (zs : List Int) (w : World) (hz : zs.length ≤ 1000000) (hown : w.ownsRow base 3 1 v zs.length (zs.map (Value.int .i64))) :
    Calls Tryd.prog 117 #[v] w fun e w' => e = .returned (.tuple #[]) ∧ w'.ownsRow base 3 1 v zs.length ((zs.mergeSort fun x y => decide (x ≤ y)).map (Value.int .i64)) ∧ w.grownBy w' v.ownBlock := by
  rcases hown.2 with ⟨rfl, h0⟩ | ⟨gb, cap, cur, rfl, hbase, hgb, r1, r2, r3, r4⟩
  · obtain rfl : zs = [] := List.eq_nil_of_length_eq_zero h0
    refine (Tryd.slices_Sort_int_none none 0 w).mono ?_
    rintro e w' ⟨rfl, rfl⟩
    exact ⟨rfl, by simpa using hown, World.grownBy.refl _ _⟩
  · have hH : Holds (Value.int .i64) w gb 0 zs.toArray := holds_of_block_i hgb (by simpa using r4)
    have hgl : gb < w.heap.size := (Array.getElem?_eq_some_iff.1 hgb).1
    refine (Tryd.slices_Sort_int gb 0 cap zs w hH hgl (by omega)).mono ?_
    rintro e w' ⟨rfl, nn, os, rfl⟩
    exact ⟨rfl, ownsRow_sorted_i (by simp) hbase hgb r1 r2 r3, grownBy_sorted_i _⟩

/-- slices.Contains. -/
theorem contains_any (A : Option Addr) (c B : Nat) (zs : List Int) (x : Int) (w : World) (hz : zs.length ≤ 1000000) (h : IntsAt B w A zs) :
    Calls Tryd.prog 89 #[.slice A zs.length c, .int .i64 x] w fun e w' => e = .returned (.bool (zs.contains x)) ∧ w = w' := by
  by_cases h0 : zs.length = 0
  · obtain rfl : zs = [] := List.eq_nil_of_length_eq_zero h0
    exact (Tryd.slices_Contains_int_empty A c x w).mono fun e w' ⟨he, hw⟩ => ⟨he, hw.symm⟩
  · obtain ⟨b, off, rfl, _, _⟩ := h.at (k := 0) (by omega)
    refine (Tryd.slices_Contains_int b off zs.length c zs x w (Nat.le_refl _) (by omega) (fun j hj => ?_)).mono fun e w' ⟨he, hw⟩ => ⟨by rw [he, List.take_length], hw.symm⟩
    rw [(h.cells hj).2]; simp [hj]

/-- slices.Clone: a slice of its own, or nil. -/
theorem clone_any (A : Option Addr) (c B : Nat) (zs : List Int) (w : World) (hz : zs.length ≤ 1000000) (h : IntsAt B w A zs) :
    Calls Tryd.prog 112 #[.slice A zs.length c] w fun e w' => ∃ v, e = .returned v ∧ w'.ownsRow w.heap.size 3 1 v zs.length (zs.map (Value.int .i64)) ∧ Below w.heap.size w w' := by
  by_cases h0 : zs.length = 0
  · obtain rfl : zs = [] := List.eq_nil_of_length_eq_zero h0
    cases A with
    | none => exact (Tryd.slices_Clone_int_nil 0 c w).mono fun e w' ⟨he, hw⟩ => ⟨_, he, by subst hw; exact ⟨World.ownsRow_nil _ _ _ _, Below.refl _ _⟩⟩
    | some a => exact (Tryd.slices_Clone_int_zero a c w).mono fun e w' ⟨v, he, ho, _, hb⟩ => ⟨v, he, ho, hb⟩
  · obtain ⟨b, off, rfl, _, _⟩ := h.at (k := 0) (by omega)
    refine (Tryd.slices_Clone_int b off zs.length c zs w (Nat.le_refl _) (by omega) (fun j hj => ?_)).mono fun e w' ⟨v, he, ho, _, hb⟩ => ⟨v, he, by simpa using ho, hb⟩
    rw [(h.cells hj).2]; simp [hj]

theorem compact_own (base c : Nat) (A : Option Addr) (zs : List Int) (w : World) (hz : zs.length ≤ 1000000) (hown : w.ownsRow base 3 1 (.slice A zs.length c) zs.length (zs.map (Value.int .i64))) :
    Calls Tryd.prog 118 #[.slice A zs.length c] w fun e w' => e = .returned (.slice A (Lib.compact zs).length c) ∧ IntsAt w'.heap.size w' A (Lib.compact zs) ∧ w.grownBy w' (Value.slice A zs.length c).ownBlock := by
  by_cases h0 : zs.length = 0
  · obtain rfl : zs = [] := List.eq_nil_of_length_eq_zero h0
    refine (Tryd.slices_Compact_int_empty A c w).mono ?_
    rintro e w' ⟨rfl, rfl⟩
    exact ⟨rfl, IntsAt.nil _ _ _, World.grownBy.refl _ _⟩
  · rcases hown.2 with ⟨_, h1⟩ | ⟨gb, cap, cur, hv, hbase, hgb, r1, r2, r3, r4⟩
    · exact absurd h1 h0
    · injection hv with e1 e2 e3
      subst e1 e3
      have hH : Holds (Value.int .i64) w gb 0 zs.toArray := holds_of_block_i hgb (by simpa using r4)
      have hcl := Lib.compact_length_le zs
      refine (Tryd.slices_Compact_int gb 0 c zs w hH (by omega) r1).mono ?_
      rintro e w' ⟨rfl, q, rfl⟩
      have hts : (Lib.compact zs ++ List.replicate (zs.length - (Lib.compact zs).length) 0).length = zs.length := by simp; omega
      have ho := ownsRow_sorted_i (os := #[]) (n := q) hts hbase hgb r1 r2 r3
      have hg := grownBy_sorted_i (w := w) (g := gb) (n := q) (os := #[]) (Lib.compact zs ++ List.replicate (zs.length - (Lib.compact zs).length) 0).toArray
      have e0 : ∀ W : World, grow W #[] = W := fun W => by simp [grow]
      rw [e0] at ho hg
      have hi : IntsAt _ _ _ (Lib.compact zs ++ List.replicate (zs.length - (Lib.compact zs).length) 0) := IntsAt.of_own (c := c) (by rw [hts]; exact ho)
      have ht := hi.take (Lib.compact zs).length
      rw [List.take_left] at ht
      exact ⟨rfl, ht, hg⟩
/-- slices.Equal. -/
theorem equal_any (A A' : Option Addr) (c c' B : Nat) (x y : List Int) (w : World) (hx : x.length ≤ 1000000) (hy : y.length ≤ 1000000) (h : IntsAt B w A x) (h' : IntsAt B w A' y) :
    Calls Tryd.prog 104 #[.slice A x.length c, .slice A' y.length c'] w fun e w' => e = .returned (.bool (decide (x = y))) ∧ Below w.heap.size w w' := by
  by_cases hl : x.length = y.length
  · by_cases h0 : x.length = 0
    · obtain rfl : x = [] := List.eq_nil_of_length_eq_zero h0
      obtain rfl : y = [] := List.eq_nil_of_length_eq_zero (by omega)
      refine (Tryd.slices_Equal_int_empty A A' c 0 c' w (by omega)).mono ?_
      rintro e w' ⟨rfl, rfl⟩
      exact ⟨rfl, Below.refl _ _⟩
    · obtain ⟨b, off, rfl, _, _⟩ := h.at (k := 0) (by omega)
      obtain ⟨b', off', rfl, _, _⟩ := h'.at (k := 0) (by omega)
      refine (Tryd.slices_Equal_int b off x.length c b' off' y.length c' x y w (Nat.le_refl _) (Nat.le_refl _) (by omega) (by omega) (fun j hj => by rw [(h.cells hj).2]; simp [hj]) (fun j hj => by rw [(h'.cells hj).2]; simp [hj])).mono ?_
      rintro e w' ⟨rfl, q, rfl⟩
      refine ⟨?_, below_drewN (Below.refl _ _) _⟩
      rw [List.take_length, List.take_length]
      congr 2
      rw [Bool.eq_iff_iff]; simp
  · refine (Tryd.slices_Equal_int_lens A A' x.length c y.length c' w hl).mono ?_
    rintro e w' ⟨rfl, rfl⟩
    refine ⟨?_, Below.refl _ _⟩
    rw [decide_eq_false]
    intro e; exact hl (by rw [e])
/-- In order, each once. -/
def srt (l : List Int) : List Int := Lib.compact (l.mergeSort fun x y => decide (x ≤ y))
theorem srt_length (l : List Int) : (srt l).length ≤ l.length := by
  have := Lib.compact_length_le (l.mergeSort fun x y => decide (x ≤ y))
  simpa [srt] using this
theorem sorted_any (A : Option Addr) (c B : Nat) (l : List Int) (w : World) (hz : l.length ≤ 1000000) (h : IntsAt B w A l) :
    Calls Tryd.prog 105 #[.slice A l.length c] w fun e w' => ∃ A' c', e = .returned (.slice A' (srt l).length c') ∧ IntsAt w'.heap.size w' A' (srt l) ∧ Below w.heap.size w w' := by
  have cc := Lib.hid (clone_any A c B l w hz h)
  have hlen : (l.mergeSort fun x y => decide (x ≤ y)).length = l.length := by simp
  clear h
  go_enter Tryd.func105, Tryd.ntmps105
  go_wp2_with (first
    | (go_at_call 112; refine cc.out.mono ?_; rintro e w1 ⟨v, rfl, hrow, hb⟩; obtain ⟨A1, c1, hv⟩ := own_form hrow; subst hv)
    | (go_at_call 117; refine (sort_own w.heap.size _ l _ hz hrow).mono ?_; rintro e w2 ⟨rfl, hrow2, hg⟩; have hb2 : Below w.heap.size w w2 := hb.grown hg hb.size fun k hk => (hrow.lt k hk).1; rw [← hlen] at hrow2)
    | (go_at_call 118; rw [← hlen]; refine (compact_own w.heap.size c1 A1 _ _ (by rw [hlen]; exact hz) hrow2).mono ?_; rintro e w3 ⟨rfl, hI3, hg3⟩))
  go_ret
  exact ⟨A1, c1, rfl, hI3, hb2.grown hg3 hb2.size fun k hk => (hrow2.lt k hk).1⟩
end Go.Proofs.YtgoojcjfhghmgaaDoor
