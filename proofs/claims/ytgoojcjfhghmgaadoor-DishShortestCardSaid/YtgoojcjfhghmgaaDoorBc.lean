/- Sort, Clone, Contains, Compact, Equal at slices of ints; isSet. -/
import Derived.Test.YtgoojcjfhghmgaaDoorBb
import Derived.Lib.SlKeysI
import Derived.Deep.LoopGhost
import Derived.Deep.RegionHeld3

namespace Go.Proofs.YtgoojcjfhghmgaaDoor
open Go.RowKit Go.Shelf Go.Sort Go.Lib

theorem sort_own (base : Nat) (v : Value) (zs : List Int) (w : World) (hz : zs.length ≤ 1000000) (hown : w.ownsRow base 3 1 v zs.length (zs.map (Value.int .i64))) :
    Calls Tryd.prog 117 #[v] w fun e w' => e = .returned (.tuple #[]) ∧ w'.ownsRow base 3 1 v zs.length ((zs.mergeSort fun x y => decide (x ≤ y)).map (Value.int .i64)) ∧ w.grownBy w' v.ownBlock := by
  rcases hown.2 with ⟨rfl, h0⟩ | ⟨gb, cap, cur, rfl, hbase, hgb, r1, r2, r3, r4⟩
  · obtain rfl : zs = [] := List.eq_nil_of_length_eq_zero h0
    refine (Tryd.slices_Sort_int_none none 0 w).mono ?_
    rintro e w' ⟨rfl, rfl⟩
    exact ⟨rfl, by simpa using hown, World.grownBy.refl _ _⟩
  · have hH : Holds (Value.int .i64) w gb 0 zs.toArray := holds_of_block_i hgb (by simpa using r4)
    have hgl : gb < w.heap.size := (Array.getElem?_eq_some_iff.1 hgb).1
    refine (Tryd.slices_Sort_int gb 0 cap zs w hH hgl (by omega)).mono ?_
    rintro e w' ⟨rfl, nn, os, rfl⟩
    exact ⟨rfl, ownsRow_sorted_i (by simp) hbase hgb r1 r2 r3, grownBy_sorted_i _⟩

/-- slices.Contains. -/
theorem contains_any (A : Option Addr) (c B : Nat) (zs : List Int) (x : Int) (w : World) (hz : zs.length ≤ 1000000) (h : IntsAt B w A zs) :
    Calls Tryd.prog 89 #[.slice A zs.length c, .int .i64 x] w fun e w' => e = .returned (.bool (zs.contains x)) ∧ w = w' := by
  by_cases h0 : zs.length = 0
  · obtain rfl : zs = [] := List.eq_nil_of_length_eq_zero h0
    exact (Tryd.slices_Contains_int_empty A c x w).mono fun e w' ⟨he, hw⟩ => ⟨he, hw.symm⟩
  · obtain ⟨b, off, rfl, _, _⟩ := h.at (k := 0) (by omega)
    refine (Tryd.slices_Contains_int b off zs.length c zs x w (Nat.le_refl _) (by omega) (fun j hj => ?_)).mono fun e w' ⟨he, hw⟩ => ⟨by rw [he, List.take_length], hw.symm⟩
    rw [(h.cells hj).2]; simp [hj]

/-- slices.Clone: a slice of its own, or nil. -/
theorem clone_any (A : Option Addr) (c B : Nat) (zs : List Int) (w : World) (hz : zs.length ≤ 1000000) (h : IntsAt B w A zs) :
    Calls Tryd.prog 112 #[.slice A zs.length c] w fun e w' => ∃ v, e = .returned v ∧ w'.ownsRow w.heap.size 3 1 v zs.length (zs.map (Value.int .i64)) ∧ Below w.heap.size w w' := by
  by_cases h0 : zs.length = 0
  · obtain rfl : zs = [] := List.eq_nil_of_length_eq_zero h0
    cases A with
    | none => exact (Tryd.slices_Clone_int_nil 0 c w).mono fun e w' ⟨he, hw⟩ => ⟨_, he, by subst hw; exact ⟨World.ownsRow_nil _ _ _ _, Below.refl _ _⟩⟩
    | some a => exact (Tryd.slices_Clone_int_zero a c w).mono fun e w' ⟨v, he, ho, _, hb⟩ => ⟨v, he, ho, hb⟩
  · obtain ⟨b, off, rfl, _, _⟩ := h.at (k := 0) (by omega)
    refine (Tryd.slices_Clone_int b off zs.length c zs w (Nat.le_refl _) (by omega) (fun j hj => ?_)).mono fun e w' ⟨v, he, ho, _, hb⟩ => ⟨v, he, by simpa using ho, hb⟩
    rw [(h.cells hj).2]; simp [hj]

theorem compact_own (base c : Nat) (A : Option Addr) (zs : List Int) (w : World) (hz : zs.length ≤ 1000000) (hown : w.ownsRow base 3 1 (.slice A zs.length c) zs.length (zs.map (Value.int .i64))) :
    Calls Tryd.prog 118 #[.slice A zs.length c] w fun e w' => e = .returned (.slice A (Lib.compact zs).length c) ∧ IntsAt w'.heap.size w' A (Lib.compact zs) ∧ w.grownBy w' (Value.slice A zs.length c).ownBlock := by
  by_cases h0 : zs.length = 0
  · obtain rfl : zs = [] := List.eq_nil_of_length_eq_zero h0
    refine (Tryd.slices_Compact_int_empty A c w).mono ?_
    rintro e w' ⟨rfl, rfl⟩
    exact ⟨rfl, IntsAt.nil _ _ _, World.grownBy.refl _ _⟩
  · rcases hown.2 with ⟨_, h1⟩ | ⟨gb, cap, cur, hv, hbase, hgb, r1, r2, r3, r4⟩
    · exact absurd h1 h0
    · injection hv with e1 e2 e3
      subst e1 e3
      have hH : Holds (Value.int .i64) w gb 0 zs.toArray := holds_of_block_i hgb (by simpa using r4)
      have hcl := Lib.compact_length_le zs
      refine (Tryd.slices_Compact_int gb 0 c zs w hH (by omega) r1).mono ?_
      rintro e w' ⟨rfl, q, rfl⟩
      have hts : (Lib.compact zs ++ List.replicate (zs.length - (Lib.compact zs).length) 0).length = zs.length := by simp; omega
      have ho := ownsRow_sorted_i (os := #[]) (n := q) hts hbase hgb r1 r2 r3
      have hg := grownBy_sorted_i (w := w) (g := gb) (n := q) (os := #[]) (Lib.compact zs ++ List.replicate (zs.length - (Lib.compact zs).length) 0).toArray
      have e0 : ∀ W : World, grow W #[] = W := fun W => by simp [grow]
      rw [e0] at ho hg
      have hi : IntsAt _ _ _ (Lib.compact zs ++ List.replicate (zs.length - (Lib.compact zs).length) 0) := IntsAt.of_own (c := c) (by rw [hts]; exact ho)
      have ht := hi.take (Lib.compact zs).length
      rw [List.take_left] at ht
      exact ⟨rfl, ht, hg⟩
/-- slices.Equal. -/
theorem equal_any (A A' : Option Addr) (c c' B : Nat) (x y : List Int) (w : World) (hx : x.length ≤ 1000000) (hy : y.length ≤ 1000000) (h : IntsAt B w A x) (h' : IntsAt B w A' y) :
    Calls Tryd.prog 104 #[.slice A x.length c, .slice A' y.length c'] w fun e w' => e = .returned (.bool (decide (x = y))) ∧ Below w.heap.size w w' := by
  by_cases hl : x.length = y.length
  · by_cases h0 : x.length = 0
    · obtain rfl : x = [] := List.eq_nil_of_length_eq_zero h0
      obtain rfl : y = [] := List.eq_nil_of_length_eq_zero (by omega)
      refine (Tryd.slices_Equal_int_empty A A' c 0 c' w (by omega)).mono ?_
      rintro e w' ⟨rfl, rfl⟩
      exact ⟨rfl, Below.refl _ _⟩
    · obtain ⟨b, off, rfl, _, _⟩ := h.at (k := 0) (by omega)
      obtain ⟨b', off', rfl, _, _⟩ := h'.at (k := 0) (by omega)
      refine (Tryd.slices_Equal_int b off x.length c b' off' y.length c' x y w (Nat.le_refl _) (Nat.le_refl _) (by omega) (by omega) (fun j hj => by rw [(h.cells hj).2]; simp [hj]) (fun j hj => by rw [(h'.cells hj).2]; simp [hj])).mono ?_
      rintro e w' ⟨rfl, q, rfl⟩
      refine ⟨?_, below_drewN (Below.refl _ _) _⟩
      rw [List.take_length, List.take_length]
      congr 2
      rw [Bool.eq_iff_iff]; simp
  · refine (Tryd.slices_Equal_int_lens A A' x.length c y.length c' w hl).mono ?_
    rintro e w' ⟨rfl, rfl⟩
    refine ⟨?_, Below.refl _ _⟩
    rw [decide_eq_false]
    intro e; exact hl (by rw [e])
/-- In order, each once. -/
def srt (l : List Int) : List Int := Lib.compact (l.mergeSort fun x y => decide (x ≤ y))
theorem srt_length (l : List Int) : (srt l).length ≤ l.length := by
  have := Lib.compact_length_le (l.mergeSort fun x y => decide (x ≤ y))
  simpa [srt] using this
theorem sorted_any (A : Option Addr) (c B : Nat) (l : List Int) (w : World) (hz : l.length ≤ 1000000) (h : IntsAt B w A l) :
    Calls Tryd.prog 105 #[.slice A l.length c] w fun e w' => ∃ A' c', e = .returned (.slice A' (srt l).length c') ∧ IntsAt w'.heap.size w' A' (srt l) ∧ Below w.heap.size w w' := by
  have cc := Lib.hid (clone_any A c B l w hz h)
  have hlen : (l.mergeSort fun x y => decide (x ≤ y)).length = l.length := by simp
  clear h
  go_enter Tryd.func105, Tryd.ntmps105
  go_wp2_with (first
    | (go_at_call 112; refine cc.out.mono ?_; rintro e w1 ⟨v, rfl, hrow, hb⟩; obtain ⟨A1, c1, hv⟩ := own_form hrow; subst hv)
    | (go_at_call 117; refine (sort_own w.heap.size _ l _ hz hrow).mono ?_; rintro e w2 ⟨rfl, hrow2, hg⟩; have hb2 : Below w.heap.size w w2 := hb.grown hg hb.size fun k hk => (hrow.lt k hk).1; rw [← hlen] at hrow2)
    | (go_at_call 118; rw [← hlen]; refine (compact_own w.heap.size c1 A1 _ _ (by rw [hlen]; exact hz) hrow2).mono ?_; rintro e w3 ⟨rfl, hI3, hg3⟩))
  go_ret
  exact ⟨A1, c1, rfl, hI3, hb2.grown hg3 hb2.size fun k hk => (hrow2.lt k hk).1⟩
end Go.Proofs.YtgoojcjfhghmgaaDoor

/- isSet. -/
namespace Go.Proofs.YtgoojcjfhghmgaaDoor
open Go.RowKit

/-- Ascending numbers from 0, below n. -/
def isS (l : List Int) (n : Int) : Bool := decide (l.Pairwise (· < ·)) && l.all fun x => decide (0 ≤ x ∧ x < n)
theorem compactUpTo_mem (d : Array Int) : ∀ (m : Nat), m ≤ d.size → ∀ x ∈ Lib.compactUpTo d m, ∃ j, ∃ h : j < d.size, j < m ∧ x = d[j]
  | 0, _, x, hx => by simp [Lib.compactUpTo] at hx
  | m + 1, hm, x, hx => by
    rw [Lib.compactUpTo_succ] at hx
    rcases List.mem_append.1 hx with hx | hx
    · obtain ⟨j, h, h1, h2⟩ := compactUpTo_mem d m (by omega) x hx
      exact ⟨j, h, by omega, h2⟩
    · split at hx
      · obtain rfl : x = d[m]! := by simpa using hx
        exact ⟨m, by omega, by omega, by simp [getElem!_pos d m (by omega)]⟩
      · simp at hx
theorem compactUpTo_asc (d : Array Int) (hs : ∀ i j (_ : i ≤ j) (hj : j < d.size), d[i]'(by omega) ≤ d[j]) : ∀ (m : Nat), m ≤ d.size → (Lib.compactUpTo d m).Pairwise (· < ·)
  | 0, _ => by simp [Lib.compactUpTo]
  | m + 1, hm => by
    rw [Lib.compactUpTo_succ]
    split
    · rename_i hk
      rw [List.pairwise_append]
      refine ⟨compactUpTo_asc d hs m (by omega), by simp, fun x hx y hy => ?_⟩
      obtain rfl : y = d[m]! := by simpa using hy
      obtain ⟨j, h, h1, rfl⟩ := compactUpTo_mem d m (by omega) x hx
      rw [getElem!_pos d m (by omega)]
      have hne : d[m]'(by omega) ≠ d[m - 1]'(by omega) := by
        intro e
        have := Lib.keeps_neg (d := d) (m := m) (by omega) (by rw [getElem!_pos d m (by omega), getElem!_pos d (m - 1) (by omega)]; exact e)
        rw [this] at hk; cases hk
      have h2 := hs j (m - 1) (by omega) (by omega)
      have h3 := hs (m - 1) m (by omega) (by omega)
      omega
    · rw [List.append_nil]; exact compactUpTo_asc d hs m (by omega)
theorem srt_asc (l : List Int) : (srt l).Pairwise (· < ·) := by
  unfold srt Lib.compact
  have hp : (l.mergeSort fun x y => decide (x ≤ y)).Pairwise (fun a b => decide (a ≤ b) = true) := List.pairwise_mergeSort (fun a b c h1 h2 => by simp at *; omega) (fun a b => by simp; omega) l
  generalize l.mergeSort (fun x y => decide (x ≤ y)) = s at hp
  refine compactUpTo_asc s.toArray (fun i j hij hj => ?_) _ (by simp)
  simp only [List.size_toArray] at hj
  rcases Nat.eq_or_lt_of_le hij with rfl | hlt
  · exact Int.le_refl _
  · have := List.pairwise_iff_getElem.1 hp i j (by omega) hj hlt
    simpa using this
theorem srt_self {l : List Int} (h : l.Pairwise (· < ·)) : srt l = l := by
  have e : (l.mergeSort fun x y => decide (x ≤ y)) = l := by
    apply List.mergeSort_of_pairwise
    exact h.imp fun hab => by simp; omega
  unfold srt
  rw [e]
  refine Lib.compact_all l fun j hj => ?_
  by_cases h0 : j = 0
  · subst h0; exact Lib.keeps_lt_one _ 0 (by omega)
  · refine Lib.keeps_pos ?_
    have := List.pairwise_iff_getElem.1 h (j - 1) j (by omega) hj (by omega)
    rw [getElem!_pos l.toArray j (by simpa using hj), getElem!_pos l.toArray (j - 1) (by simp; omega)]
    simp only [List.getElem_toArray]
    omega
theorem srt_iff (l : List Int) : decide (l = srt l) = decide (l.Pairwise (· < ·)) := by
  rw [decide_eq_decide]
  exact ⟨fun h => by rw [h]; exact srt_asc l, fun h => (srt_self h).symm⟩
theorem asc_le {l : List Int} (h : l.Pairwise (· < ·)) {i j : Nat} (hij : i ≤ j) (hj : j < l.length) : l[i]'(by omega) ≤ l[j] := by
  rcases Nat.eq_or_lt_of_le hij with rfl | hlt
  · exact Int.le_refl _
  · have := List.pairwise_iff_getElem.1 h i j (by omega) hj hlt; omega
/-- By its first and last number. -/
theorem isS_ends {l : List Int} (h : l.Pairwise (· < ·)) (h0 : 0 < l.length) (n : Int) : isS l n = (decide ((0 : Int) ≤ l[0]) && decide (l[l.length - 1] < n)) := by
  unfold isS
  rw [decide_eq_true h, Bool.true_and, Bool.eq_iff_iff, List.all_eq_true]
  simp only [decide_eq_true_eq, Bool.and_eq_true]
  constructor
  · intro ha
    exact ⟨(ha _ (List.getElem_mem h0)).1, (ha _ (List.getElem_mem (by omega))).2⟩
  · rintro ⟨h1, h2⟩ x hx
    obtain ⟨i, hi, rfl⟩ := List.getElem_of_mem hx
    have h3 := asc_le h (i := 0) (j := i) (by omega) hi
    have h4 := asc_le h (i := i) (j := l.length - 1) (by omega) (by omega)
    omega

set_option maxRecDepth 100000 in
set_option maxHeartbeats 1000000 in
theorem isSet_any (A : Option Addr) (c B : Nat) (l : List Int) (n : Int) (w : World) (hB : B ≤ w.heap.size) (h : IntsAt B w A l) (hm : l.length ≤ 1000) :
    Calls Tryd.prog 59 #[.slice A l.length c, .int .i64 n] w fun e w' => e = .returned (.bool (isS l n)) ∧ Below w.heap.size w w' := by
  have hI := h.below (Below.refl _ _) hB
  have cs := Lib.hid (sorted_any A c B l w (by omega) h)
  have ce := Lib.hid (fun A' c' W (hW : Below w.heap.size w W) (hI' : IntsAt (World.heap W).size W A' (srt l)) => equal_any A A' c c' (World.heap W).size l (srt l) W (by omega) (by have := srt_length l; omega) (hI.below hW hW.size) hI')
  rw [srt_iff] at ce
  cases hp : decide (l.Pairwise (· < ·)) with
  | false =>
    rw [hp] at ce
    have Hr := Lib.hid (show isS l n = false by rw [isS, hp]; rfl)
    clear h hI hp
    go_enter Tryd.func59, Tryd.ntmps59
    go_wp2_with (first
      | (go_at_call 105; refine cs.out.mono ?_; rintro e w1 ⟨A1, c1, rfl, hI1, hb1⟩)
      | (go_at_call 104; refine (ce.out _ _ _ hb1 hI1).mono ?_; rintro e w2 ⟨rfl, hd⟩; have hb2 := hb1.trans (hd.mono hb1.size)))
    go_ret
    exact ⟨by rw [Hr.out]; rfl, hb2⟩
  | true =>
    rw [hp] at ce
    have hpp : l.Pairwise (· < ·) := by simpa using hp
    by_cases h0 : l.length = 0
    · have Hr := Lib.hid (show isS l n = true by rw [isS, hp, List.eq_nil_of_length_eq_zero h0]; rfl)
      have e0 : ((l.length : Int) == 0) = true := by rw [beq_iff_eq]; omega
      have H0 := Lib.hid h0
      clear h hI hp hpp h0
      go_enter Tryd.func59, Tryd.ntmps59
      go_wp2_with (first
        | (go_at_call 105; refine cs.out.mono ?_; rintro e w1 ⟨A1, c1, rfl, hI1, hb1⟩)
        | (go_at_call 104; refine (ce.out _ _ _ hb1 hI1).mono ?_; rintro e w2 ⟨rfl, hd⟩; have hb2 := hb1.trans (hd.mono hb1.size)))
      go_ret
      exact ⟨by rw [Hr.out]; rfl, hb2⟩
    · have hpos : 0 < l.length := by omega
      have Hr := Lib.hid (isS_ends hpp hpos n)
      have e0 : ((l.length : Int) == 0) = false := by rw [beq_eq_false_iff_ne]; omega
      obtain ⟨b, off, rfl, hbB, c0⟩ := hI.at hpos
      obtain ⟨b', off', e', _, c1⟩ := hI.at (k := l.length - 1) (by omega)
      obtain ⟨rfl, rfl⟩ : b = b' ∧ off = off' := by injection e' with e'; injection e' with e1 e2; exact ⟨e1, e2⟩
      simp only [Nat.add_zero] at c0
      generalize l[0] = x0 at c0 Hr
      generalize l[l.length - 1] = x1 at c1 Hr
      have hx : (0 ≤ x0 ∧ decide (0 ≤ x0) = true) ∨ (x0 < 0 ∧ decide (0 ≤ x0) = false) := by
        rcases Int.lt_or_le x0 0 with h1 | h1
        · exact .inr ⟨h1, by simp; omega⟩
        · exact .inl ⟨h1, by simpa using h1⟩
      clear h hI hp hpp h0
      rcases hx with ⟨h1, g1⟩ | ⟨h1, g1⟩
      all_goals
        go_enter Tryd.func59, Tryd.ntmps59
        go_wp2_with (first
          | (go_at_call 105; refine cs.out.mono ?_; rintro e w1 ⟨A1, c1', rfl, hI1, hb1⟩)
          | (go_at_call 104; refine (ce.out _ _ _ hb1 hI1).mono ?_; rintro e w2 ⟨rfl, hd⟩; have hb2 := hb1.trans (hd.mono hb1.size); have z0 := (hb2.cell (p := ⟨b, off, none⟩) hbB).trans c0; have z1 := (hb2.cell (p := ⟨b, off + (l.length - 1), none⟩) hbB).trans c1))
        go_ret
        exact ⟨by rw [Hr.out]; simp [g1], hb2⟩
end Go.Proofs.YtgoojcjfhghmgaaDoor

/- Books in a world; isRule, Validate. -/
namespace Go.Proofs.YtgoojcjfhghmgaaDoor
open Go.RowKit

/-- An item: its parts, and what it has. A rule: its properties, and what follows. -/
abbrev It := List Int × List Int
abbrev Ru := List Int × Int
structure Bk where
  p : Int
  its : List It
  rus : List Ru
def ItsAt (B : Nat) (w : World) (A : Option Addr) (l : List It) : Prop :=
  ∀ k (hk : k < l.length), ∃ b off A1 c1 A2 c2, A = some ⟨b, off, none⟩ ∧ b < B ∧ w.cell? ⟨b, off + k * 2, none⟩ = some (.slice A1 l[k].1.length c1) ∧ w.cell? ⟨b, off + k * 2 + 1, none⟩ = some (.slice A2 l[k].2.length c2) ∧ IntsAt B w A1 l[k].1 ∧ IntsAt B w A2 l[k].2
def RusAt (B : Nat) (w : World) (A : Option Addr) (l : List Ru) : Prop :=
  ∀ k (hk : k < l.length), ∃ b off A1 c1, A = some ⟨b, off, none⟩ ∧ b < B ∧ w.cell? ⟨b, off + k * 2, none⟩ = some (.slice A1 l[k].1.length c1) ∧ w.cell? ⟨b, off + k * 2 + 1, none⟩ = some (.int .i64 l[k].2) ∧ IntsAt B w A1 l[k].1
theorem ItsAt.below {B B' : Nat} {w w' : World} {A : Option Addr} {l : List It} (h : ItsAt B w A l) (hb : Below B w w') (hB : B ≤ B') : ItsAt B' w' A l := by
  intro k hk
  obtain ⟨b, off, A1, c1, A2, c2, e, h1, h2, h3, h4, h5⟩ := h k hk
  exact ⟨b, off, A1, c1, A2, c2, e, by omega, (hb.cell (p := ⟨b, off + k * 2, none⟩) h1).trans h2, (hb.cell (p := ⟨b, off + k * 2 + 1, none⟩) h1).trans h3, h4.below hb hB, h5.below hb hB⟩
theorem RusAt.below {B B' : Nat} {w w' : World} {A : Option Addr} {l : List Ru} (h : RusAt B w A l) (hb : Below B w w') (hB : B ≤ B') : RusAt B' w' A l := by
  intro k hk
  obtain ⟨b, off, A1, c1, e, h1, h2, h3, h4⟩ := h k hk
  exact ⟨b, off, A1, c1, e, by omega, (hb.cell (p := ⟨b, off + k * 2, none⟩) h1).trans h2, (hb.cell (p := ⟨b, off + k * 2 + 1, none⟩) h1).trans h3, h4.below hb hB⟩
/-- No list of the book is long. -/
def Short (b : Bk) : Prop := b.its.length ≤ 60 ∧ b.rus.length ≤ 60 ∧ (∀ x ∈ b.its, x.1.length ≤ 40 ∧ x.2.length ≤ 40) ∧ ∀ x ∈ b.rus, x.1.length ≤ 40

def ruOk (p : Int) (x : Ru) : Bool := isS x.1 p && decide (0 ≤ x.2) && decide (x.2 < p)
set_option maxRecDepth 100000 in
set_option maxHeartbeats 1000000 in
theorem isRule_any (A : Option Addr) (c B : Nat) (x : Ru) (p : Int) (w : World) (hB : B ≤ w.heap.size) (h : IntsAt B w A x.1) (hm : x.1.length ≤ 1000) :
    Calls Tryd.prog 60 #[.agg #[.slice A x.1.length c, .int .i64 x.2], .int .i64 p] w fun e w' => e = .returned (.bool (ruOk p x)) ∧ Below w.heap.size w w' := by
  obtain ⟨l, t⟩ := x
  have hw0 : Below w.heap.size w (w.alloc (.cells #[.slice A l.length c, .int .i64 t] 42)) := (Below.refl _ _).alloc (Nat.le_refl _) _
  have cs := Lib.hid (isSet_any A c w.heap.size l p (w.alloc (.cells #[.slice A l.length c, .int .i64 t] 42)) hw0.size ((h.below (Below.refl _ _) hB).below hw0 (Nat.le_refl _)) hm)
  have HB := Lib.hid (Blk.new w 42 #[.slice A l.length c, .int .i64 t])
  have Hr := Lib.hid (show ruOk p (l, t) = (isS l p && decide (0 ≤ t) && decide (t < p)) from rfl)
  have Hw := Lib.hid hw0
  rw [Hr.out]
  generalize isS l p = s at cs ⊢
  clear h hw0
  cases s
  · go_enter Tryd.func60, Tryd.ntmps60
    go_wp2_with (go_at_call 59; refine cs.out.mono ?_; rintro e w1 ⟨rfl, hb⟩; have z1 := (hb.cell (p := ⟨w.heap.size, 1, none⟩) (by simp)).trans (HB.out.cell 1))
    go_ret
    exact ⟨rfl, Hw.out.trans (hb.mono Hw.out.size)⟩
  · have hx : (0 ≤ t ∧ decide (0 ≤ t) = true) ∨ (t < 0 ∧ decide (0 ≤ t) = false) := by
      rcases Int.lt_or_le t 0 with h1 | h1
      · exact .inr ⟨h1, by simp; omega⟩
      · exact .inl ⟨h1, by simpa using h1⟩
    rcases hx with ⟨h1, g1⟩ | ⟨h1, g1⟩
    all_goals
      go_enter Tryd.func60, Tryd.ntmps60
      go_wp2_with (go_at_call 59; refine cs.out.mono ?_; rintro e w1 ⟨rfl, hb⟩; have z1 := (hb.cell (p := ⟨w.heap.size, 1, none⟩) (by simp)).trans (HB.out.cell 1))
      go_ret
      exact ⟨by simp [g1], Hw.out.trans (hb.mono Hw.out.size)⟩

/-- The error of the item with number i. -/
def itE (p : Int) (i : Nat) (x : It) : Int := if 6 < x.1.length then 4 else if isS x.1 i && isS x.2 p then 0 else 1
def itsE (p : Int) : Nat → List It → Int
  | _, [] => 0
  | i, x :: l => if itE p i x = 0 then itsE p (i + 1) l else itE p i x
/-- The error of a book. -/
def vlR (b : Bk) : Int := if b.p < 0 ∨ 10 < b.p then 1 else if 20 < b.its.length ∨ 16 < b.rus.length then 4 else if itsE b.p 0 b.its = 0 then (if b.rus.all (ruOk b.p) then 0 else 1) else itsE b.p 0 b.its
theorem itsE_step {p : Int} {k : Nat} {l : List It} (hk : k < l.length) : itsE p k (l.drop k) = if itE p k l[k] = 0 then itsE p (k + 1) (l.drop (k + 1)) else itE p k l[k] := by
  rw [List.drop_eq_getElem_cons hk]; rfl
def vBk (AI AR : Option Addr) (cI cR : Nat) (b : Bk) : Value := .agg #[.int .i64 b.p, .slice AI b.its.length cI, .slice AR b.rus.length cR]

set_option maxRecDepth 100000 in
set_option maxHeartbeats 2000000 in
theorem Validate_any (AI AR : Option Addr) (cI cR B : Nat) (b : Bk) (w : World) (hB : B ≤ w.heap.size) (h : ItsAt B w AI b.its) (h' : RusAt B w AR b.rus) (hs : Short b) :
    Calls Tryd.prog 20 #[.agg #[.int .i64 b.p, .slice AI b.its.length cI, .slice AR b.rus.length cR]] w fun e w' => e = .returned (.int .i64 (vlR b)) ∧ Below w.heap.size w w' := by
  obtain ⟨p, its, rus⟩ := b
  obtain ⟨s1, s2, s3, s4⟩ := hs
  simp only at h h' s1 s2 s3 s4 ⊢
  have hw0 : Below w.heap.size w (w.alloc (.cells #[.int .i64 p, .slice AI its.length cI, .slice AR rus.length cR] 25)) := (Below.refl _ _).alloc (Nat.le_refl _) _
  have hb0 := Blk.new w 25 #[.int .i64 p, .slice AI its.length cI, .slice AR rus.length cR]
  by_cases h1 : p < 0 ∨ 10 < p
  · have Hr := Lib.hid (show vlR ⟨p, its, rus⟩ = 1 from if_pos h1)
    clear h h' s3 s4
    rcases h1 with h1 | h1
    all_goals
      go_enter Tryd.func20, Tryd.ntmps20
      go_wp2_with fail
      go_ret
      exact ⟨by rw [Hr.out]; rfl, hw0⟩
  · have h1' := Lib.hid h1
    have h1a : 0 ≤ p := by omega
    have h1b : p ≤ 10 := by omega
    clear h1
    by_cases h2 : 20 < its.length ∨ 16 < rus.length
    · have Hr := Lib.hid (show vlR ⟨p, its, rus⟩ = 4 by rw [vlR, if_neg h1'.out, if_pos h2])
      clear h h' s3 s4
      rcases h2 with h2 | h2
      · go_enter Tryd.func20, Tryd.ntmps20
        go_wp2_with fail
        go_ret
        exact ⟨by rw [Hr.out]; rfl, hw0⟩
      · by_cases h3 : 20 < its.length
        · go_enter Tryd.func20, Tryd.ntmps20
          go_wp2_with fail
          go_ret
          exact ⟨by rw [Hr.out]; rfl, hw0⟩
        · go_enter Tryd.func20, Tryd.ntmps20
          go_wp2_with fail
          go_ret
          exact ⟨by rw [Hr.out]; rfl, hw0⟩
    · have hl1 : its.length ≤ 20 := by omega
      have hl2 : rus.length ≤ 16 := by omega
      have Hr := Lib.hid (show vlR ⟨p, its, rus⟩ = if itsE p 0 its = 0 then (if rus.all (ruOk p) then 0 else 1) else itsE p 0 its by rw [vlR, if_neg h1'.out, if_neg h2])
      have H := Lib.hid (h.below (Below.refl _ _) hB)
      have H' := Lib.hid (h'.below (Below.refl _ _) hB)
      have HB0 := Lib.hid hb0
      clear h h' h2 hb0
      go_enter Tryd.func20, Tryd.ntmps20
      go_wp2_with fail
      go_loopw [28] (fun i wr => ∃ k : Nat, k ≤ its.length ∧ i = .int .i64 k ∧ itsE p 0 its = itsE p k (its.drop k) ∧ Below w.heap.size w wr ∧ Blk wr w.heap.size 25 #[.int .i64 p, .slice AI its.length cI, .slice AR rus.length cR]) (fun i _ => its.length - (intOf i).toNat)
      case atStart => exact ⟨0, Nat.zero_le _, rfl, rfl, hw0, HB0.out⟩
      case round =>
        obtain ⟨k, hk, rfl, he, hb, hblk⟩ := hrel
        by_cases hlt : k < its.length
        · obtain ⟨bb, off, A1, c1, A2, c2, rfl, hbB, e0, e1, i1, i2⟩ := H.out k hlt
          obtain ⟨m1, m2⟩ := s3 its[k] (List.getElem_mem hlt)
          have d0 := (hb.cell (p := ⟨bb, off + k * 2, none⟩) hbB).trans e0
          have d1 := (hb.cell (p := ⟨bb, off + k * 2 + 1, none⟩) hbB).trans e1
          have He := Lib.hid (he.trans (itsE_step hlt))
          have Hi := Lib.hid (show itE p k its[k] = if 6 < its[k].1.length then 4 else if isS its[k].1 k && isS its[k].2 p then 0 else 1 from rfl)
          have hba := hb.alloc hb.size (.cells #[.slice A1 its[k].1.length c1, .slice A2 its[k].2.length c2] 84)
          have HBA := Lib.hid hba
          have HK := Lib.hid (Blk.new wr 84 #[.slice A1 its[k].1.length c1, .slice A2 its[k].2.length c2])
          have HX := Lib.hid (hblk.alloc (.cells #[.slice A1 its[k].1.length c1, .slice A2 its[k].2.length c2] 84))
          have cs1 := Lib.hid (fun W (hW : Below w.heap.size w W) => isSet_any A1 c1 w.heap.size its[k].1 (k : Int) W hW.size (i1.below hW (Nat.le_refl _)) (by omega))
          have cs2 := Lib.hid (fun W (hW : Below w.heap.size w W) => isSet_any A2 c2 w.heap.size its[k].2 p W hW.size (i2.below hW (Nat.le_refl _)) (by omega))
          clear e0 e1 i1 i2 hba he hblk
          generalize its[k].1.length = n1 at d0 HBA HK HX cs1 Hi m1
          generalize its[k].2.length = n2 at d1 HBA HK HX cs2 m2
          by_cases h6 : 6 < n1
          · have Hz := Lib.hid (show itE p k its[k] = 4 by rw [Hi.out, if_pos h6])
            clear cs1 cs2
            go_wp2_with fail
            go_ret
            exact ⟨by rw [Hr.out, He.out, Hz.out]; rfl, HBA.out⟩
          · have H6 := Lib.hid h6
            have Hz := Lib.hid (show itE p k its[k] = if isS its[k].1 k && isS its[k].2 p then 0 else 1 by rw [Hi.out, if_neg h6])
            generalize isS its[k].1 k = s at cs1 Hz
            generalize isS its[k].2 p = t at cs2 Hz
            have tok := Lib.hid (Nat.le_refl 0)
            cases s
            · clear cs2
              go_wp2_with (go_at_call 59; refine (cs1.out _ HBA.out).mono ?_; rintro e w2 ⟨rfl, hd⟩; have hb2 := HBA.out.trans (hd.mono HBA.out.size))
              go_ret
              exact ⟨by rw [Hr.out, He.out, Hz.out]; rfl, hb2⟩
            · have hsz := Lib.hid (show (wr.alloc (.cells #[.slice A1 n1 c1, .slice A2 n2 c2] 84)).heap.size = wr.heap.size + 1 by simp)
              cases t
              all_goals
                go_wp2_with (first
                  | (go_at_call 59; have tk := tok; clear tok; refine (cs1.out _ HBA.out).mono ?_; rintro e w2 ⟨rfl, hd⟩; have hb2 := HBA.out.trans (hd.mono HBA.out.size); have HK2 := HK.out.below hd HK.out.lt; have HX2 := HX.out.below hd HX.out.lt; have z1 := HK2.cell 1; have z2 := HX2.cell 0; have z3 := HX2.cell 2; have tok2 := tk)
                  | (go_at_call 59; have tk := tok2; clear tok2; refine (cs2.out _ hb2).mono ?_; rintro e w3 ⟨rfl, hd3⟩; have hb3 := hb2.trans (hd3.mono hb2.size); have HX3 := HX2.below hd3 HX2.lt))
              · go_ret
                exact ⟨by rw [Hr.out, He.out, Hz.out]; rfl, hb3⟩
              · go_roundw
                case rel => exact ⟨k + 1, by omega, by go_num, by rw [He.out, Hz.out]; rfl, hb3, HX3⟩
                case measure => simp [intOf]; omega
        · obtain rfl : k = its.length := by omega
          rw [List.drop_length] at he
          have He := Lib.hid (show itsE p 0 its = 0 from he)
          obtain ⟨y0, y1, y2, _⟩ := blk3 hblk
          clear he
          go_wp2_with fail
          go_loopw [56] (fun i wr => ∃ k : Nat, k ≤ rus.length ∧ i = .int .i64 k ∧ (∀ j (hj : j < rus.length), j < k → ruOk p rus[j] = true) ∧ Below w.heap.size w wr ∧ Blk wr w.heap.size 25 #[.int .i64 p, .slice AI its.length cI, .slice AR rus.length cR]) (fun i _ => rus.length - (intOf i).toNat)
          case atStart => exact ⟨0, Nat.zero_le _, rfl, fun j hj hk => by omega, hb, hblk⟩
          case round =>
            obtain ⟨k, hk, rfl, hn, hb2, hblk2⟩ := hrel
            by_cases hlt2 : k < rus.length
            · obtain ⟨bb, off, A1, c1, rfl, hbB, e0, e1, i1⟩ := H'.out k hlt2
              have m1 := s4 rus[k] (List.getElem_mem hlt2)
              have d0 := (hb2.cell (p := ⟨bb, off + k * 2, none⟩) hbB).trans e0
              have d1 := (hb2.cell (p := ⟨bb, off + k * 2 + 1, none⟩) hbB).trans e1
              have hba := hb2.alloc hb2.size (.cells #[.slice A1 rus[k].1.length c1, .int .i64 rus[k].2] 42)
              have HBA := Lib.hid hba
              have HX := Lib.hid (hblk2.alloc (.cells #[.slice A1 rus[k].1.length c1, .int .i64 rus[k].2] 42))
              have w0 := HX.out.cell 0
              have cs := Lib.hid (isRule_any A1 c1 w.heap.size rus[k] p _ HBA.out.size (i1.below HBA.out (Nat.le_refl _)) (by omega))
              have Hn := Lib.hid hn
              obtain ⟨y0, y1, y2, _⟩ := blk3 hblk2
              clear e0 e1 i1 hba hn
              cases hr : ruOk p rus[k] with
              | false =>
                have Ha := Lib.hid (show rus.all (ruOk p) = false by
                  rw [List.all_eq_false]; exact ⟨rus[k], List.getElem_mem hlt2, by rw [hr]; simp⟩)
                rw [hr] at cs
                clear hr
                go_wp2_with (go_at_call 60; refine cs.out.mono ?_; rintro e w3 ⟨rfl, hd⟩)
                go_ret
                exact ⟨by rw [Hr.out, He.out, Ha.out]; rfl, HBA.out.trans (hd.mono HBA.out.size)⟩
              | true =>
                rw [hr] at cs
                have Hru := Lib.hid hr
                clear hr
                go_wp2_with (go_at_call 60; refine cs.out.mono ?_; rintro e w3 ⟨rfl, hd⟩)
                go_roundw
                case rel =>
                  refine ⟨k + 1, by omega, by go_num, fun j hj hjk => ?_, HBA.out.trans (hd.mono HBA.out.size), HX.out.below hd HX.out.lt⟩
                  by_cases e : j = k
                  · subst e; exact Hru.out
                  · exact Hn.out j hj (by omega)
                case measure => simp [intOf]; omega
            · obtain rfl : k = rus.length := by omega
              have Ha := Lib.hid (show rus.all (ruOk p) = true by
                rw [List.all_eq_true]
                intro x hx
                obtain ⟨i, hi, rfl⟩ := List.getElem_of_mem hx
                exact hn i hi hi)
              clear hn
              go_wp2_with fail
              go_ret
              exact ⟨by rw [Hr.out, He.out, Ha.out]; rfl, hb2⟩
end Go.Proofs.YtgoojcjfhghmgaaDoor

/- mask, contained, base. -/
namespace Go.Proofs.YtgoojcjfhghmgaaDoor
open Go.RowKit

/-- A set as a number. -/
def mkTo (l : List Nat) (k : Nat) : Nat := (l.take k).foldl (fun m x => m ||| 2 ^ x) 0
def mk (l : List Nat) : Nat := l.foldl (fun m x => m ||| 2 ^ x) 0
theorem mkTo_succ {l : List Nat} {k : Nat} (hk : k < l.length) : mkTo l (k + 1) = mkTo l k ||| 2 ^ l[k] := by
  unfold mkTo
  rw [List.take_succ_eq_append_getElem hk, List.foldl_append]; rfl
theorem mkTo_all (l : List Nat) : mkTo l l.length = mk l := by simp [mkTo, mk]
theorem mkTo_lt {l : List Nat} {n : Nat} (h : ∀ x ∈ l, x < n) : ∀ k, mkTo l k < 2 ^ n := by
  intro k
  unfold mkTo
  have key : ∀ (r : List Nat) (m : Nat), m < 2 ^ n → (∀ x ∈ r, x < n) → r.foldl (fun m x => m ||| 2 ^ x) m < 2 ^ n := by
    intro r
    induction r with
    | nil => intro m hm _; exact hm
    | cons x r ih =>
      intro m hm hr
      rw [List.foldl_cons]
      exact ih _ (Nat.or_lt_two_pow hm (Nat.pow_lt_pow_right (by decide) (hr x (by simp)))) fun y hy => hr y (by simp [hy])
  exact key _ 0 (Nat.two_pow_pos n) fun x hx => h x (List.mem_of_mem_take hx)
theorem mk_lt {l : List Nat} {n : Nat} (h : ∀ x ∈ l, x < n) : mk l < 2 ^ n := by rw [← mkTo_all]; exact mkTo_lt h _
theorem mk_bit (l : List Nat) (i : Nat) : (mk l).testBit i = l.contains i := by
  unfold mk
  have key : ∀ (r : List Nat) (m : Nat), (r.foldl (fun m x => m ||| 2 ^ x) m).testBit i = (m.testBit i || r.contains i) := by
    intro r
    induction r with
    | nil => intro m; simp
    | cons x r ih =>
      intro m
      rw [List.foldl_cons, ih, Nat.testBit_or, Nat.testBit_two_pow, List.contains_cons, Bool.or_assoc]
      congr 2
      rw [Bool.eq_iff_iff, decide_eq_true_eq, beq_iff_eq]; exact eq_comm
  rw [key]; simp
theorem or_pow {m x : Nat} (hm : m < 2 ^ 60) (hx : x < 60) : bits BinOp.or IntKind.i64 (m : Int) (wrap64 ((2 : Int) ^ x)) = ((m ||| 2 ^ x : Nat) : Int) := by
  have h1 : wrap64 ((2 : Int) ^ x) = ((2 ^ x : Nat) : Int) := by rw [pow_wrap (by omega)]; simp
  have h2 : 2 ^ x < 2 ^ 60 := Nat.pow_lt_pow_right (by decide) hx
  rw [h1]
  exact or_nat m (2 ^ x) (by omega) (by omega)

set_option maxRecDepth 100000 in
set_option maxHeartbeats 1000000 in
theorem mask_any (A : Option Addr) (c B : Nat) (l : List Nat) (w : World) (h : IntsAt B w A (intL l)) (hm : l.length ≤ 1000) (hl : ∀ x ∈ l, x < 60) :
    Calls Tryd.prog 76 #[.slice A l.length c] w fun e w' => e = .returned (.int .i64 (mk l)) ∧ w = w' := by
  have hll : (intL l).length = l.length := by simp [intL]
  go_enter Tryd.func76, Tryd.ntmps76
  go_wp2_with fail
  go_loop [3, 8] (fun x i => ∃ k : Nat, k ≤ l.length ∧ i = .int .i64 k ∧ x = .int .i64 (mkTo l k)) (fun _ i => l.length - (intOf i).toNat)
  case atStart => exact ⟨0, Nat.zero_le _, rfl, rfl⟩
  case round =>
    obtain ⟨k, hk, rfl, rfl⟩ := hrel
    by_cases hlt : k < l.length
    · obtain ⟨b, off, rfl, hbB, c0⟩ := h.at (k := k) (by omega)
      have e1 : (intL l)[k]'(by omega) = ((l[k] : Nat) : Int) := by simp [intL]
      rw [e1] at c0
      have hx := hl l[k] (List.getElem_mem hlt)
      have key := or_pow (mkTo_lt hl k) hx
      have Hs := Lib.hid (mkTo_succ hlt)
      generalize l[k] = x at c0 key hx Hs
      clear e1
      go_wp2_with fail
      go_round
      case rel => exact ⟨k + 1, by omega, by go_num, by rw [Hs.out]⟩
      case measure => simp [intOf]; omega
    · obtain rfl : k = l.length := by omega
      have Ha := Lib.hid (mkTo_all l)
      go_wp2_with fail
      go_ret
      exact ⟨by rw [← Ha.out]; rfl, rfl⟩
end Go.Proofs.YtgoojcjfhghmgaaDoor

/- Valid books; contained, base. -/
namespace Go.Proofs.YtgoojcjfhghmgaaDoor
open Go.RowKit

def natL (l : List Int) : List Nat := l.map Int.toNat
theorem int_nat {l : List Int} (h : ∀ x ∈ l, 0 ≤ x) : intL (natL l) = l := by
  unfold intL natL
  rw [List.map_map]
  conv => rhs; rw [← List.map_id l]
  refine List.map_congr_left fun x hx => ?_
  have := h x hx
  simp only [Function.comp, id]; omega
theorem natL_length (l : List Int) : (natL l).length = l.length := by simp [natL]
theorem isS_mem {l : List Int} {n : Int} (h : isS l n = true) : ∀ x ∈ l, 0 ≤ x ∧ x < n := by
  intro x hx
  simp only [isS, Bool.and_eq_true, List.all_eq_true, decide_eq_true_eq] at h
  exact h.2 x hx
theorem natL_lt {l : List Int} {n : Nat} (h : ∀ x ∈ l, 0 ≤ x ∧ x < (n : Int)) : ∀ x ∈ natL l, x < n := by
  intro x hx
  simp only [natL, List.mem_map] at hx
  obtain ⟨y, hy, rfl⟩ := hx
  have := h y hy
  omega
theorem itsE_zero {p : Int} : ∀ (l : List It) (i : Nat), itsE p i l = 0 → ∀ k (hk : k < l.length), l[k].1.length ≤ 6 ∧ isS l[k].1 ((i + k : Nat) : Int) = true ∧ isS l[k].2 p = true
  | x :: l, i, h, k, hk => by
    unfold itsE at h
    split at h
    · rename_i h0
      cases k with
      | zero =>
        unfold itE at h0
        split at h0
        · omega
        · split at h0
          · rename_i h2
            simp only [Bool.and_eq_true] at h2
            exact ⟨by simp; omega, by simpa using h2.1, by simpa using h2.2⟩
          · omega
      | succ k =>
        have := itsE_zero l (i + 1) h k (by simpa using hk)
        rw [show i + 1 + k = i + (k + 1) by omega] at this
        simpa using this
    · rename_i h0; exact absurd h h0
/-- What holds of a valid book. -/
structure VBk (b : Bk) : Prop where
  p0 : 0 ≤ b.p
  p1 : b.p ≤ 10
  ni : b.its.length ≤ 20
  nr : b.rus.length ≤ 16
  parts : ∀ k (hk : k < b.its.length), b.its[k].1.length ≤ 6 ∧ isS b.its[k].1 (k : Int) = true ∧ isS b.its[k].2 b.p = true
  rules : ∀ x ∈ b.rus, ruOk b.p x = true
theorem vl_zero {b : Bk} (h : vlR b = 0) : VBk b := by
  unfold vlR at h
  split at h
  · omega
  · split at h
    · omega
    · split at h
      · rename_i h1 h2 h3
        split at h
        · rename_i h4
          refine ⟨by omega, by omega, by omega, by omega, fun k hk => ?_, fun x hx => ?_⟩
          · have := itsE_zero b.its 0 h3 k hk
            simpa using this
          · exact List.all_eq_true.1 h4 x hx
        · omega
      · rename_i h3; exact absurd h h3
/-- The parts of an item, what it has, as numbers. -/
def prt (b : Bk) (k : Nat) : List Nat := natL ((b.its[k]?.getD ([], [])).1)
def hasL (b : Bk) (k : Nat) : List Nat := natL ((b.its[k]?.getD ([], [])).2)
/-- What is contained, looked at from an item on downwards. -/
def cnF (b : Bk) : Nat → Nat → Nat
  | 0, m => m
  | i + 1, m => cnF b i (if m.testBit i then m ||| mk (prt b i) else m)
def cnS (b : Bk) (item : Nat) : Nat := cnF b (item + 1) (2 ^ item)
theorem prt_lt {b : Bk} (h : VBk b) {k : Nat} (hk : k < b.its.length) : ∀ x ∈ prt b k, x < k := by
  unfold prt
  simp only [hk, List.getElem?_eq_getElem, Option.getD_some]
  exact natL_lt (isS_mem (h.parts k hk).2.1)
theorem bit_test {m i : Nat} (hm : m < 2 ^ 60) : bits BinOp.and IntKind.i64 ((m : Int) / (2 : Int) ^ i) 1 = if m.testBit i then 1 else 0 := by
  have e1 : (m : Int) / (2 : Int) ^ i = ((m / 2 ^ i : Nat) : Int) := by simp
  have h1 : m / 2 ^ i ≤ m := Nat.div_le_self _ _
  have h2 := and_nat (m / 2 ^ i) 1 (by omega) (by omega)
  rw [e1]
  have h3 : bits BinOp.and IntKind.i64 ((m / 2 ^ i : Nat) : Int) 1 = ((m / 2 ^ i &&& 1 : Nat) : Int) := h2
  rw [h3, Nat.and_one_is_mod, Nat.testBit_eq_decide_div_mod_eq]
  by_cases h4 : m / 2 ^ i % 2 = 1
  · simp [h4]
  · have : m / 2 ^ i % 2 = 0 := by omega
    simp [this]

set_option maxRecDepth 100000 in
set_option maxHeartbeats 2000000 in
theorem contained_any (AI AR : Option Addr) (cI cR B : Nat) (b : Bk) (item : Nat) (w : World) (hB : B ≤ w.heap.size) (h : ItsAt B w AI b.its) (hv : VBk b) (hi : item < b.its.length) :
    Calls Tryd.prog 68 #[.agg #[.int .i64 b.p, .slice AI b.its.length cI, .slice AR b.rus.length cR], .int .i64 item] w fun e w' => e = .returned (.int .i64 (cnS b item)) ∧ cnS b item < 2 ^ 20 ∧ Below w.heap.size w w' := by
  have hw0 : Below w.heap.size w (w.alloc (.cells #[.int .i64 b.p, .slice AI b.its.length cI, .slice AR b.rus.length cR] 25)) := (Below.refl _ _).alloc (Nat.le_refl _) _
  have hb0 := Blk.new w 25 #[.int .i64 b.p, .slice AI b.its.length cI, .slice AR b.rus.length cR]
  have ni := hv.ni
  have hp : wrap64 ((2 : Int) ^ item) = ((2 ^ item : Nat) : Int) := by rw [pow_wrap (by omega)]; simp
  have h220 : 2 ^ item < 2 ^ 20 := Nat.pow_lt_pow_right (by decide) (by omega)
  have H := Lib.hid ((h.below (Below.refl _ _) hB).below hw0 (Nat.le_refl _))
  have hx1 := hb0.cell 1
  have Hw := Lib.hid hw0
  have hbs : w.heap.size < (w.alloc (.cells #[.int .i64 b.p, .slice AI b.its.length cI, .slice AR b.rus.length cR] 25)).heap.size := hb0.lt
  have hcn : cnF b (item + 1) (2 ^ item) = cnS b item := rfl
  generalize 2 ^ item = P at hp h220 hcn
  have Hcn := Lib.hid hcn
  clear h hw0 hb0 hcn
  go_enter Tryd.func68, Tryd.ntmps68
  go_wp2_with fail
  try rw [hp]
  clear hp
  go_loop [5, 6] (fun x i => ∃ k m : Nat, k ≤ item + 1 ∧ i = .int .i64 ((k : Int) - 1) ∧ x = .int .i64 m ∧ m < 2 ^ 20 ∧ cnF b k m = cnS b item) (fun _ i => (intOf i + 1).toNat)
  case atStart => exact ⟨item + 1, P, Nat.le_refl _, by go_num, rfl, h220, Hcn.out⟩
  case round =>
    obtain ⟨k, m, hk, rfl, rfl, hm, hc⟩ := hrel
    cases k with
    | succ i =>
      have e1 : ((i + 1 : Nat) : Int) - 1 = (i : Int) := by omega
      rw [e1]
      have kt := bit_test (m := m) (i := i) (by omega)
      have Hc := Lib.hid (show (if m.testBit i then cnF b i (m ||| mk (prt b i)) else cnF b i m) = cnS b item by
        rw [← hc, cnF]; split <;> rfl)
      clear e1 hc
      cases hb : m.testBit i with
      | false =>
        rw [hb] at kt Hc
        clear hb
        simp only [Bool.false_eq_true, if_false] at kt
        go_wp2_with fail
        go_round
        case rel => exact ⟨i, m, by omega, by go_num, rfl, hm, by simpa using Hc.out⟩
        case measure => simp [intOf]
      | true =>
        rw [hb] at kt Hc
        clear hb
        simp only [if_true] at kt
        have hil : i < b.its.length := by omega
        obtain ⟨bb, off, A1, c1, A2, c2, rfl, hbB, e0, _, i1, _⟩ := H.out i hil
        have hpr : prt b i = natL b.its[i].1 := by simp [prt, hil]
        have hpl := prt_lt hv hil
        have hin : intL (prt b i) = b.its[i].1 := by rw [hpr]; exact int_nat fun x hx => (isS_mem (hv.parts i hil).2.1 x hx).1
        rw [← hin] at i1
        have hlen : b.its[i].1.length = (prt b i).length := by rw [hpr, natL_length]
        have h6 := (hv.parts i hil).1
        rw [hlen] at e0 h6
        have cm := Lib.hid (mask_any A1 c1 _ (prt b i) _ i1 (by omega) (fun x hx => by have := hpl x hx; omega))
        have hlt2 : mk (prt b i) < 2 ^ 20 := Nat.lt_of_lt_of_le (mk_lt hpl) (Nat.pow_le_pow_right (by decide) (by omega))
        have key := or_nat m (mk (prt b i)) (by omega) (by omega)
        have hmm : m ||| mk (prt b i) < 2 ^ 20 := Nat.or_lt_two_pow hm hlt2
        clear hpr hpl hin hlen i1 hlt2
        generalize mk (prt b i) = z at cm key Hc hmm
        generalize (prt b i).length = n1 at e0 cm
        generalize m ||| z = r at key Hc hmm
        go_wp2_with (go_at_call 76; refine cm.out.mono ?_; rintro e w2 ⟨rfl, rfl⟩)
        go_round
        case rel => exact ⟨i, r, by omega, by go_num, rfl, hmm, by simpa using Hc.out⟩
        case measure => simp [intOf]
    | zero =>
      have Hc := Lib.hid (show m = cnS b item from hc)
      clear hc
      go_wp2_with fail
      go_ret
      exact ⟨by rw [← Hc.out]; rfl, by rw [← Hc.out]; exact hm, Hw.out⟩
end Go.Proofs.YtgoojcjfhghmgaaDoor

/- base. -/
namespace Go.Proofs.YtgoojcjfhghmgaaDoor
open Go.RowKit

theorem cnF_lt {b : Bk} (hv : VBk b) {n : Nat} : ∀ (k m : Nat), k ≤ b.its.length → k ≤ n → m < 2 ^ n → cnF b k m < 2 ^ n
  | 0, m, _, _, hm => hm
  | k + 1, m, hk, hn, hm => by
    simp only [cnF]
    refine cnF_lt hv k _ (by omega) (by omega) ?_
    split
    · exact Nat.or_lt_two_pow hm (Nat.lt_of_lt_of_le (mk_lt (prt_lt hv (by omega))) (Nat.pow_le_pow_right (by decide) (by omega)))
    · exact hm
theorem cnS_lt {b : Bk} (hv : VBk b) {item : Nat} (hi : item < b.its.length) : cnS b item < 2 ^ (item + 1) :=
  cnF_lt hv (item + 1) _ (by omega) (Nat.le_refl _) (Nat.pow_lt_pow_right (by decide) (by omega))
/-- What the items have that an item contains. -/
def bsTo (b : Bk) (L : List Nat) (k : Nat) : Nat := (L.take k).foldl (fun m i => m ||| mk (hasL b i)) 0
def bsS (b : Bk) (item : Nat) : Nat := (bl (cnS b item)).foldl (fun m i => m ||| mk (hasL b i)) 0
theorem bsTo_succ (b : Bk) {L : List Nat} {k : Nat} (hk : k < L.length) : bsTo b L (k + 1) = bsTo b L k ||| mk (hasL b L[k]) := by
  unfold bsTo
  rw [List.take_succ_eq_append_getElem hk, List.foldl_append]; rfl
theorem hasL_lt {b : Bk} (h : VBk b) {k : Nat} (hk : k < b.its.length) : ∀ x ∈ hasL b k, x < b.p.toNat := by
  unfold hasL
  simp only [hk, List.getElem?_eq_getElem, Option.getD_some]
  refine natL_lt fun x hx => ?_
  have := isS_mem (h.parts k hk).2.2 x hx
  have := h.p0
  omega
theorem bsTo_lt {b : Bk} (h : VBk b) {L : List Nat} (hL : ∀ i ∈ L, i < b.its.length) : ∀ k, k ≤ L.length → bsTo b L k < 2 ^ b.p.toNat
  | 0, _ => by simp [bsTo]; exact Nat.two_pow_pos _
  | k + 1, hk => by
    rw [bsTo_succ b (by omega)]
    exact Nat.or_lt_two_pow (bsTo_lt h hL k (by omega)) (mk_lt (hasL_lt h (hL _ (List.getElem_mem (by omega)))))
theorem bsS_lt {b : Bk} (h : VBk b) {item : Nat} (hi : item < b.its.length) : bsS b item < 2 ^ b.p.toNat := by
  have hL : ∀ i ∈ bl (cnS b item), i < b.its.length := fun i hi2 => by
    have := bl_lt (cnS_lt h hi) (by have := h.ni; omega) hi2
    omega
  have := bsTo_lt h hL _ (Nat.le_refl _)
  simpa [bsTo, bsS] using this

set_option maxRecDepth 100000 in
set_option maxHeartbeats 2000000 in
theorem base_any (AI AR : Option Addr) (cI cR B : Nat) (b : Bk) (item : Nat) (w : World) (hB : B ≤ w.heap.size) (h : ItsAt B w AI b.its) (hs : Short b) (hv : VBk b) (hi : item < b.its.length) (hT : Tab w) :
    Calls Tryd.prog 98 #[.agg #[.int .i64 b.p, .slice AI b.its.length cI, .slice AR b.rus.length cR], .int .i64 item] w fun e w' => e = .returned (.int .i64 (bsS b item)) ∧ Below w.heap.size w w' := by
  have hw0 : Below w.heap.size w (w.alloc (.cells #[.int .i64 b.p, .slice AI b.its.length cI, .slice AR b.rus.length cR] 25)) := (Below.refl _ _).alloc (Nat.le_refl _) _
  have hb0 := Blk.new w 25 #[.int .i64 b.p, .slice AI b.its.length cI, .slice AR b.rus.length cR]
  have ni := hv.ni
  have np := hv.p1
  have H := Lib.hid (h.below (Below.refl _ _) hB)
  have cc := Lib.hid (contained_any AI AR cI cR w.heap.size b item _ hw0.size (H.out.below hw0 (Nat.le_refl _)) hv hi)
  have hcl := cnS_lt hv hi
  have hc60 : cnS b item < 1152921504606846976 := Nat.lt_of_lt_of_le hcl (Nat.le_trans (Nat.pow_le_pow_right (by decide) (show item + 1 ≤ 60 by omega)) (by decide))
  have hbl : (bl (cnS b item)).length ≤ 20 := by have := bl_length hcl (by omega); omega
  have hbi : ∀ i ∈ bl (cnS b item), i < b.its.length := fun i hi2 => by have := bl_lt hcl (by omega) hi2; omega
  have cl := Lib.hid (fun W (hW : Below w.heap.size w W) => list_any (cnS b item) hc60 W (hT.below hW hT.2) (by omega))
  have HB0 := Lib.hid hb0
  have Hw := Lib.hid hw0
  have Hbs := Lib.hid (show bsTo b (bl (cnS b item)) (bl (cnS b item)).length = bsS b item by simp [bsTo, bsS])
  have hbd := bsTo_lt hv hbi
  have hbi2 := Lib.hid hbi
  have Hbd := Lib.hid hbd
  have hbs : w.heap.size < (w.alloc (.cells #[.int .i64 b.p, .slice AI b.its.length cI, .slice AR b.rus.length cR] 25)).heap.size := hb0.lt
  clear h hw0 hb0 hT hcl hc60 hbi hbd hi
  generalize cnS b item = C at cc cl Hbs hbl hbi2 Hbd
  generalize bl C = L at cl Hbs hbl hbi2 Hbd
  go_enter Tryd.func98, Tryd.ntmps98
  go_wp2_with (first
    | (go_at_call 68; refine cc.out.mono ?_; rintro e w1 ⟨rfl, _, hd⟩; have hb1 := Hw.out.trans (hd.mono Hw.out.size); have HX1 := HB0.out.below hd hbs)
    | (go_at_call 65; refine (cl.out _ hb1).mono ?_; rintro e w2 ⟨v2, rfl, hown2, hd2⟩; have hb2 := hb1.trans (hd2.mono hb1.size); have HX2 := HX1.below hd2 HX1.lt; obtain ⟨A5, c5, rfl⟩ := own_form hown2))
  have x1 := HX2.cell 1
  have HO := Lib.hid hown2
  clear hown2
  go_loop [5, 13] (fun x i => ∃ k : Nat, k ≤ L.length ∧ i = .int .i64 k ∧ x = .int .i64 (bsTo b L k)) (fun _ i => L.length - (intOf i).toNat)
  case atStart => exact ⟨0, Nat.zero_le _, rfl, rfl⟩
  case round =>
    obtain ⟨k, hk, rfl, rfl⟩ := hrel
    by_cases hlt : k < L.length
    · obtain ⟨g5, rfl, hg5, _, hcell⟩ := own_cell HO.out hlt (natV_get hlt)
      have hil := hbi2.out L[k] (List.getElem_mem hlt)
      obtain ⟨bb, off, A1, c1, A2, c2, rfl, hbB, _, e1, _, i2⟩ := H.out L[k] hil
      have d1 := (hb2.cell (p := ⟨bb, off + L[k] * 2 + 1, none⟩) hbB).trans e1
      have hpr : hasL b L[k] = natL b.its[L[k]].2 := by simp [hasL, hil]
      have hin : intL (hasL b L[k]) = b.its[L[k]].2 := by rw [hpr]; exact int_nat fun x hx => (isS_mem (hv.parts _ hil).2.2 x hx).1
      have i3 := i2.below hb2 (Nat.le_refl _)
      rw [← hin] at i3
      have hlen : b.its[L[k]].2.length = (hasL b L[k]).length := by rw [hpr, natL_length]
      have h40 := (hs.2.2.1 b.its[L[k]] (List.getElem_mem hil)).2
      rw [hlen] at d1 h40
      have hhl := hasL_lt hv hil
      have cm := Lib.hid (mask_any A2 c2 _ (hasL b L[k]) _ i3 (by omega) (fun x hx => by have := hhl x hx; omega))
      have hz : mk (hasL b L[k]) < 2 ^ 60 := Nat.lt_of_lt_of_le (mk_lt hhl) (Nat.pow_le_pow_right (by decide) (by omega))
      have hm : bsTo b L k < 2 ^ 60 := Nat.lt_of_lt_of_le (Hbd.out k hk) (Nat.pow_le_pow_right (by decide) (by omega))
      have key := or_nat (bsTo b L k) (mk (hasL b L[k])) (by omega) (by omega)
      have Hs := Lib.hid (bsTo_succ b hlt)
      have Hlt := Lib.hid hlt
      clear e1 i2 hpr hin hlen i3 hhl
      generalize mk (hasL b L[k]) = z at cm key Hs hz
      generalize (hasL b L[k]).length = n1 at d1 cm h40
      generalize bsTo b L k = m at key Hs hm ⊢
      generalize L[k] = y at hcell hil d1 Hs
      generalize m ||| z = r at key Hs
      go_wp2_with (go_at_call 76; refine cm.out.mono ?_; rintro e w3 ⟨rfl, rfl⟩)
      go_round
      case rel => exact ⟨k + 1, Hlt.out, by go_num, by rw [Hs.out]⟩
      case measure => have := Hlt.out; simp [intOf]; omega
    · obtain rfl : k = L.length := by omega
      go_wp2_with fail
      go_ret
      exact ⟨by rw [← Hbs.out]; rfl, hb2⟩
end Go.Proofs.YtgoojcjfhghmgaaDoor

/- The closure of a set. -/
namespace Go.Proofs.YtgoojcjfhghmgaaDoor
open Go.RowKit

def allB (x : Nat) (l : List Nat) : Bool := l.all fun q => x.testBit q
def Shut (l : List Ru) (wb : Nat → Bool) (x : Nat) : Prop := ∀ r ∈ l, allB x (natL r.1) = true → wb r.2.toNat = true → x.testBit r.2.toNat = true
def Sub (x y : Nat) : Prop := ∀ q, x.testBit q = true → y.testBit q = true
/-- On the way to the closure. -/
def Way (l : List Ru) (m : Nat) (wb : Nat → Bool) (x : Nat) : Prop := Sub m x ∧ ∀ y, Sub m y → Shut l wb y → Sub x y
/-- The closure of a set within a set. -/
def Cl (l : List Ru) (m : Nat) (wb : Nat → Bool) (x : Nat) : Prop := Way l m wb x ∧ Shut l wb x
theorem Way.start (l : List Ru) (m : Nat) (wb : Nat → Bool) : Way l m wb m := ⟨fun _ h => h, fun _ h _ => h⟩
theorem allB_sub {x y : Nat} (h : Sub x y) {l : List Nat} (ha : allB x l = true) : allB y l = true := by
  simp only [allB, List.all_eq_true] at ha ⊢
  exact fun q hq => h q (ha q hq)
theorem Way.step {l : List Ru} {m : Nat} {wb : Nat → Bool} {x : Nat} (h : Way l m wb x) {r : Ru} (hr : r ∈ l) (ha : allB x (natL r.1) = true) (hw : wb r.2.toNat = true) : Way l m wb (x ||| 2 ^ r.2.toNat) := by
  refine ⟨fun q hq => by rw [Nat.testBit_or, h.1 q hq]; rfl, fun y hy hs q hq => ?_⟩
  have hxy := h.2 y hy hs
  rw [Nat.testBit_or, Bool.or_eq_true] at hq
  rcases hq with hq | hq
  · exact hxy q hq
  · rw [Nat.testBit_two_pow, decide_eq_true_eq] at hq
    subst hq
    exact hs r hr (allB_sub hxy ha) hw
theorem or_more {x t : Nat} (h : x.testBit t = false) : x < x ||| 2 ^ t := by
  refine Nat.lt_of_le_of_ne Nat.left_le_or fun e => ?_
  have : (x ||| 2 ^ t).testBit t = true := by simp [Nat.testBit_or]
  rw [← e, h] at this
  exact absurd this (by decide)
theorem ruOk_mem {p : Int} {x : Ru} (h : ruOk p x = true) : isS x.1 p = true ∧ 0 ≤ x.2 ∧ x.2 < p := by
  simp only [ruOk, Bool.and_eq_true, decide_eq_true_eq] at h
  exact ⟨h.1.1, h.1.2, h.2⟩
/-- The rule with number k does not apply. -/
def Off (l : List Ru) (wb : Nat → Bool) (x k : Nat) : Prop := ∀ j (hj : j < l.length), j < k → allB x (natL l[j].1) = true → wb l[j].2.toNat = true → x.testBit l[j].2.toNat = true
theorem Off.all {l : List Ru} {wb : Nat → Bool} {x : Nat} (h : Off l wb x l.length) : Shut l wb x := fun r hr => by
  obtain ⟨j, hj, rfl⟩ := List.mem_iff_getElem.1 hr
  exact h j hj hj
theorem Off.succ {l : List Ru} {wb : Nat → Bool} {x k : Nat} (h : Off l wb x k) (hk : ∀ h : k < l.length, allB x (natL l[k].1) = true → wb l[k].2.toNat = true → x.testBit l[k].2.toNat = true) : Off l wb x (k + 1) := fun j hj hjk => by
  by_cases e : j = k
  · subst e; exact hk hj
  · exact h j hj (by omega)

set_option maxRecDepth 100000 in
set_option maxHeartbeats 4000000 in
theorem closure_any (A : Option Addr) (c B : Nat) (l : List Ru) (p m : Nat) (wi : Int) (wb : Nat → Bool) (w : World) (hB : B ≤ w.heap.size) (h : RusAt B w A l) (hs : l.length ≤ 60) (hl : ∀ x ∈ l, x.1.length ≤ 40) (hr : ∀ x ∈ l, ruOk p x = true) (hp : p ≤ 10) (hm : m < 2 ^ p)
    (hwb : ∀ q, q < 10 → bits BinOp.and IntKind.i64 (wi / (2 : Int) ^ q) 1 = if wb q then 1 else 0) :
    Calls Tryd.prog 75 #[.slice A l.length c, .int .i64 m, .int .i64 wi] w fun e w' => ∃ x : Nat, e = .returned (.int .i64 x) ∧ Cl l m wb x ∧ x < 2 ^ p ∧ Below w.heap.size w w' := by
  have H := Lib.hid (h.below (Below.refl _ _) hB)
  have Hr := Lib.hid hr
  have Hl := Lib.hid hl
  have Hwb := Lib.hid hwb
  have hp10 : 2 ^ p ≤ 1024 := Nat.pow_le_pow_right (by decide) hp
  have Hm := Lib.hid hm
  clear h hr hl hwb hm
  go_enter Tryd.func75, Tryd.ntmps75
  go_wp2_with fail
  go_step3
  go_wp2_with fail
  go_step3
  go_wp2_with fail
  go_loopg [1] (2 ^ p - m) (fun g s1 wx => ∃ x : Nat, x + g = 2 ^ p ∧ 0 < g ∧ s1 = .int .i64 x ∧ Aside (Way l m wb x) ∧ Below w.heap.size w wx)
  case atStart => exact ⟨m, by have := Hm.out; omega, by have := Hm.out; omega, rfl, Way.start l m wb, Below.refl _ _⟩
  case round =>
    obtain ⟨x, hxg, hg0, rfl, HW, hbx⟩ := hrel
    have hx : x < 2 ^ p := by omega
    have hx60 : x < 2 ^ 60 := Nat.lt_of_lt_of_le hx (Nat.le_trans hp10 (by decide))
    go_wp2_with fail
    go_loopg [1, 13] l.length (fun g s1 s13 wy => ∃ k : Nat, k + g = l.length ∧ s1 = .int .i64 x ∧ s13 = .int .i64 k ∧ Aside (Off l wb x k) ∧ Below w.heap.size w wy)
    case atStart => exact ⟨0, by omega, rfl, rfl, fun j _ hj => by omega, hbx⟩
    case round =>
      clear hbx
      obtain ⟨k, hkg, rfl, rfl, HK, hby⟩ := hrel
      cases gk with
      | zero =>
        obtain rfl : k = l.length := by omega
        have HX := Lib.hid (show Cl l m wb x from ⟨HW.out, HK.out.all⟩)
        go_wp2_with fail
        try rw [Exit.noGoto_ret]
        go_ret
        exact ⟨x, rfl, HX.out, hx, hby⟩
      | succ g2 =>
        have hkl : k < l.length := by omega
        obtain ⟨bb, off, A1, c1, rfl, hbB, e0, e1, i1⟩ := H.out k hkl
        have d0 := (hby.cell (p := ⟨bb, off + k * 2, none⟩) hbB).trans e0
        have d1 := (hby.cell (p := ⟨bb, off + k * 2 + 1, none⟩) hbB).trans e1
        have hrk := ruOk_mem (Hr.out l[k] (List.getElem_mem hkl))
        obtain ⟨hset, ht0, htp⟩ := hrk
        obtain ⟨t, ht⟩ := Int.eq_ofNat_of_zero_le ht0
        have hin : intL (natL l[k].1) = l[k].1 := int_nat fun x hx => (isS_mem hset x hx).1
        have hq10 : ∀ q ∈ natL l[k].1, q < 10 := fun q hq => by have := natL_lt (isS_mem hset) q hq; omega
        have hlen : l[k].1.length = (natL l[k].1).length := by rw [natL_length]
        have hl40 := Hl.out l[k] (List.getElem_mem hkl)
        have HOf := Lib.hid (fun (h : allB x (natL l[k].1) = true → wb l[k].2.toNat = true → x.testBit l[k].2.toNat = true) => HK.out.succ fun _ => h)
        have HSt := Lib.hid (fun (h1 : allB x (natL l[k].1) = true) (h2 : wb l[k].2.toNat = true) => HW.out.step (List.getElem_mem hkl) h1 h2)
        have htn : l[k].2.toNat = t := by rw [ht]; rfl
        rw [htn] at HOf HSt
        rw [← hin] at i1
        rw [hlen] at d0 hl40
        rw [ht] at d1 htp
        have ht10 : t < p := by omega
        clear e0 e1 hset ht0 hin hlen htn ht
        generalize natL l[k].1 = L at i1 hq10 d0 hl40 HOf HSt
        have Hwt := Lib.hid (Hwb.out t (by omega))
        obtain ⟨W1, hW1⟩ : ∃ W1, W1 = wr := ⟨_, rfl⟩
        subst hW1
        have hbz := hby.alloc hby.size (.cells #[.slice A1 L.length c1, .int .i64 t] 42)
        have HB := Blk.new W1 42 #[.slice A1 L.length c1, .int .i64 t]
        have HZ := Lib.hid hbz
        have HBB := Lib.hid HB
        have ha : w.heap.size ≤ W1.heap.size := hby.size
        clear hbz HB hby
        go_wp2_with fail
        go_loopg [20] L.length (fun g s20 wz => ∃ j : Nat, j + g = L.length ∧ s20 = .int .i64 j ∧ Aside (∀ i (h : i < L.length), i < j → x.testBit L[i] = true) ∧ Blk wz W1.heap.size 42 #[.slice A1 L.length c1, .int .i64 t] ∧ Below w.heap.size w wz)
        case atStart => exact ⟨0, by omega, rfl, fun i _ hi => by omega, HBB.out, HZ.out⟩
        case round =>
          obtain ⟨j, hjg, rfl, HJ, hblk, hbz⟩ := hrel
          have hblt := hblk.lt
          cases gk with
          | zero =>
            obtain rfl : j = L.length := by omega
            have ha1 : allB x L = true := by
              simp only [allB, List.all_eq_true]
              intro q hq
              obtain ⟨i, hi, rfl⟩ := List.mem_iff_getElem.1 hq
              exact HJ.out i hi hi
            have ⟨_, z1, _, f1⟩ := blk2 hblk
            have kt := bit_test hx60 (i := t)
            have wt := Hwt.out
            have HZZ := Lib.hid hbz
            have HO2 := Lib.hid HOf.out
            have HS2 := Lib.hid (HSt.out ha1)
            clear hblk hbz
            cases hxt : x.testBit t with
            | true =>
              rw [hxt] at kt HO2
              simp only [if_true] at kt
              clear hxt
              go_wp2_with fail
              go_roundg g2
              case measure => omega
              case rel => exact ⟨k + 1, by omega, rfl, by go_num, HO2.out (by simp), HZZ.out⟩
            | false =>
              have hmore := or_more hxt
              rw [hxt] at kt
              simp only [Bool.false_eq_true, if_false] at kt
              clear hxt
              cases hwt : wb t with
              | false =>
                rw [hwt] at wt HO2
                simp only [Bool.false_eq_true, if_false] at wt
                clear hwt
                go_wp2_with fail
                go_roundg g2
                case measure => omega
                case rel => exact ⟨k + 1, by omega, rfl, by go_num, HO2.out (fun _ h => absurd h (by decide)), HZZ.out⟩
              | true =>
                rw [hwt] at wt HS2
                simp only [if_true] at wt
                have key := or_pow hx60 (show t < 60 by omega)
                have hlt : x ||| 2 ^ t < 2 ^ p := Nat.or_lt_two_pow hx (Nat.pow_lt_pow_right (by decide) ht10)
                have HSS := Lib.hid (HS2.out rfl)
                clear hwt HS2
                generalize x ||| 2 ^ t = y at hmore key hlt HSS
                go_wp2_with fail
                go_roundg (2 ^ p - y)
                case measure => omega
                case rel => exact ⟨y, by omega, by omega, rfl, HSS.out, HZZ.out⟩
          | succ g3 =>
            have hjl : j < L.length := by omega
            obtain ⟨b3, o3, rfl, hb3, c3⟩ := i1.at (k := j) (by simp [intL]; omega)
            have e3 : (intL L)[j]'(by simp [intL]; omega) = ((L[j] : Nat) : Int) := by simp [intL]
            rw [e3] at c3
            have c3' := (hbz.cell (p := ⟨b3, o3 + j, none⟩) hb3).trans c3
            have kt := bit_test hx60 (i := L[j])
            have hq := hq10 L[j] (List.getElem_mem hjl)
            have HZZ := Lib.hid hbz
            have HBL := Lib.hid hblk
            cases hbit : x.testBit L[j] with
            | true =>
              rw [hbit] at kt
              simp only [if_true] at kt
              have HJ1 := Lib.hid (show ∀ i (h : i < L.length), i < j + 1 → x.testBit L[i] = true from fun i hi hij => by
                by_cases e : i = j
                · subst e; exact hbit
                · exact HJ.out i hi (by omega))
              generalize L[j] = q at c3' kt hq
              clear hblk hbz c3 e3 hbit
              go_wp2_with fail
              go_roundg g3
              case measure => omega
              case rel => exact ⟨j + 1, by omega, by go_num, HJ1.out, HBL.out, HZZ.out⟩
            | false =>
              rw [hbit] at kt
              simp only [Bool.false_eq_true, if_false] at kt
              have HO1 := Lib.hid (HOf.out fun ha => absurd (List.all_eq_true.1 ha L[j] (List.getElem_mem hjl)) (by rw [hbit]; decide))
              have ⟨_, z1, _, f1⟩ := blk2 hblk
              have hsz := hbz.size
              generalize L[j] = q at c3' kt hq
              clear hblk hbz c3 e3 hbit
              go_wp2_with fail
              go_roundg g2
              case measure => omega
              case rel => exact ⟨k + 1, by omega, rfl, by go_num, HO1.out, HZZ.out.setCell ha _⟩
end Go.Proofs.YtgoojcjfhghmgaaDoor

/- label, named, Label. -/
namespace Go.Proofs.YtgoojcjfhghmgaaDoor
open Go.RowKit

def allW : Nat → Bool := fun _ => true
theorem minus_one : ∀ q, q < 10 → bits BinOp.and IntKind.i64 ((-1 : Int) / (2 : Int) ^ q) 1 = if allW q then 1 else 0 := by decide +kernel
theorem keepB {w0 W : World} {n : Nat} {c0 c1 c2 : Value} (hlt : n < w0.heap.size) (h : w0.cell? ⟨n, 0, none⟩ = some c0 ∧ w0.cell? ⟨n, 1, none⟩ = some c1 ∧ w0.cell? ⟨n, 2, none⟩ = some c2) (hb : Below w0.heap.size w0 W) :
    W.cell? ⟨n, 0, none⟩ = some c0 ∧ W.cell? ⟨n, 1, none⟩ = some c1 ∧ W.cell? ⟨n, 2, none⟩ = some c2 ∧ Below w0.heap.size w0 W :=
  ⟨(hb.cell (p := ⟨n, 0, none⟩) hlt).trans h.1, (hb.cell (p := ⟨n, 1, none⟩) hlt).trans h.2.1, (hb.cell (p := ⟨n, 2, none⟩) hlt).trans h.2.2, hb⟩

/-- The label of an item. -/
def Lbl (b : Bk) (item x : Nat) : Prop := Cl b.rus (bsS b item) allW x ∧ x < 2 ^ b.p.toNat

set_option maxRecDepth 100000 in
set_option maxHeartbeats 2000000 in
theorem label_any (AI AR : Option Addr) (cI cR B : Nat) (b : Bk) (item : Nat) (w : World) (hB : B ≤ w.heap.size) (h : ItsAt B w AI b.its) (h' : RusAt B w AR b.rus) (hs : Short b) (hv : VBk b) (hi : item < b.its.length) (hT : Tab w) :
    Calls Tryd.prog 72 #[.agg #[.int .i64 b.p, .slice AI b.its.length cI, .slice AR b.rus.length cR], .int .i64 item] w fun e w' => ∃ x : Nat, e = .returned (.int .i64 x) ∧ Lbl b item x ∧ Below w.heap.size w w' := by
  have hb0 := Blk.new w 25 #[.int .i64 b.p, .slice AI b.its.length cI, .slice AR b.rus.length cR]
  have hw0 : Below w.heap.size w (w.alloc (.cells #[.int .i64 b.p, .slice AI b.its.length cI, .slice AR b.rus.length cR] 25)) := (Below.refl _ _).alloc (Nat.le_refl _) _
  obtain ⟨W0, hW0⟩ : ∃ W0, W0 = w.alloc (.cells #[.int .i64 b.p, .slice AI b.its.length cI, .slice AR b.rus.length cR] 25) := ⟨_, rfl⟩
  rw [← hW0] at hb0 hw0
  have hlt : w.heap.size < W0.heap.size := hb0.lt
  have hI := (h.below (Below.refl _ _) hB).below hw0 (Nat.le_of_lt hlt)
  have hR := (h'.below (Below.refl _ _) hB).below hw0 (Nat.le_of_lt hlt)
  have hT0 := hT.below hw0 hT.2
  have cb := Lib.hid (fun W (hW : Below W0.heap.size W0 W) => base_any AI AR cI cR W0.heap.size b item W hW.size (hI.below hW (Nat.le_refl _)) hs hv hi (hT0.below hW hT0.2))
  have cc := Lib.hid (fun W (hW : Below W0.heap.size W0 W) => closure_any AR cR W0.heap.size b.rus b.p.toNat (bsS b item) (-1) allW W hW.size (hR.below hW (Nat.le_refl _)) hs.2.1 hs.2.2.2 (fun x hx => by have := hv.rules x hx; rwa [Int.toNat_of_nonneg hv.p0]) (by have := hv.p1; omega) (bsS_lt hv hi) minus_one)
  have HZ := Lib.hid (And.intro (hb0.cell 0) (And.intro (hb0.cell 1) (hb0.cell 2)))
  have Hw := Lib.hid hw0
  have hL : ∀ x, Cl b.rus (bsS b item) allW x → x < 2 ^ b.p.toNat → Lbl b item x := fun x h1 h2 => ⟨h1, h2⟩
  have HL := Lib.hid hL
  clear hb0 hw0 hI hR hT0 h h' hs hv hi hT hL
  generalize bsS b item = m at cb cc HL
  go_enter Tryd.func72, Tryd.ntmps72
  go_wp2_with fail
  rw [← hW0]
  clear hW0
  have tok := Lib.hid (Nat.le_refl 0)
  go_region_held3 (fun W => W.cell? ⟨w.heap.size, 0, none⟩ = some (.int .i64 b.p) ∧ W.cell? ⟨w.heap.size, 1, none⟩ = some (.slice AI b.its.length cI) ∧ W.cell? ⟨w.heap.size, 2, none⟩ = some (.slice AR b.rus.length cR) ∧ Below W0.heap.size W0 W)
    ((refine keepB hlt HZ.out ?_; repeat (first | exact Below.refl _ _ | assumption | refine Below.drew ?_)))
    (first
      | (go_at_call 98; have tk := tok; clear tok; refine (cb.out _ (by repeat (first | exact Below.refl _ _ | assumption | refine Below.drew ?_))).mono ?_; rintro e w5 ⟨rfl, hd⟩; have tok2 := tk; have hb5 : Below W0.heap.size W0 w5 := Below.trans (by repeat (first | exact Below.refl _ _ | assumption | refine Below.drew ?_)) (hd.mono (Below.size (w := W0) (B := W0.heap.size) (by repeat (first | exact Below.refl _ _ | assumption | refine Below.drew ?_)))))
      | (go_at_call 75; have tk2 := tok2; clear tok2; refine (cc.out _ (by repeat (first | exact Below.refl _ _ | assumption | refine Below.drew ?_))).mono ?_; rintro e w6 ⟨x, rfl, hcl, hxl, hd6⟩; have hb6 : Below W0.heap.size W0 w6 := Below.trans (by repeat (first | exact Below.refl _ _ | assumption | refine Below.drew ?_)) (hd6.mono (Below.size (w := W0) (B := W0.heap.size) (by repeat (first | exact Below.refl _ _ | assumption | refine Below.drew ?_))))))
  all_goals
    have HLB := Lib.hid (HL.out x hcl hxl)
    have HB6 := Lib.hid (Hw.out.trans (hb6.mono Hw.out.size))
    clear hcl hxl hb6
    go_wp2_with fail
    go_ret
    exact ⟨x, rfl, HLB.out, HB6.out⟩

/-- The error of a book and an item. -/
def nmR (b : Bk) (item : Int) : Int := if vlR b = 0 then (if item < 0 ∨ (b.its.length : Int) ≤ item then 5 else 0) else vlR b
set_option maxRecDepth 100000 in
set_option maxHeartbeats 2000000 in
theorem named_any (AI AR : Option Addr) (cI cR B : Nat) (b : Bk) (item : Int) (w : World) (hB : B ≤ w.heap.size) (h : ItsAt B w AI b.its) (h' : RusAt B w AR b.rus) (hs : Short b) :
    Calls Tryd.prog 67 #[.agg #[.int .i64 b.p, .slice AI b.its.length cI, .slice AR b.rus.length cR], .int .i64 item] w fun e w' => e = .returned (.int .i64 (nmR b item)) ∧ Below w.heap.size w w' := by
  have hb0 := Blk.new w 25 #[.int .i64 b.p, .slice AI b.its.length cI, .slice AR b.rus.length cR]
  have hw0 : Below w.heap.size w (w.alloc (.cells #[.int .i64 b.p, .slice AI b.its.length cI, .slice AR b.rus.length cR] 25)) := (Below.refl _ _).alloc (Nat.le_refl _) _
  have hlt : w.heap.size < (w.alloc (.cells #[.int .i64 b.p, .slice AI b.its.length cI, .slice AR b.rus.length cR] 25)).heap.size := hb0.lt
  have hI := (h.below (Below.refl _ _) hB).below hw0 (Nat.le_of_lt hlt)
  have hR := (h'.below (Below.refl _ _) hB).below hw0 (Nat.le_of_lt hlt)
  have cv := Lib.hid (Validate_any AI AR cI cR _ b _ (Nat.le_refl _) hI hR hs)
  have Hn := Lib.hid (show nmR b item = if vlR b = 0 then (if item < 0 ∨ (b.its.length : Int) ≤ item then 5 else 0) else vlR b from rfl)
  have h60 := hs.1
  have HB := Lib.hid hb0
  have Hw := Lib.hid hw0
  generalize vlR b = e0 at cv Hn
  clear h h' hs hI hR hb0 hw0
  by_cases he : e0 = 0
  · subst he
    have Hn2 := Lib.hid (show nmR b item = if item < 0 ∨ (b.its.length : Int) ≤ item then 5 else 0 by rw [Hn.out, if_pos rfl])
    by_cases h1 : item < 0
    · have Hr := Lib.hid (show nmR b item = 5 by rw [Hn2.out, if_pos (.inl h1)])
      go_enter Tryd.func67, Tryd.ntmps67
      go_wp2_with (go_at_call 20; refine cv.out.mono ?_; rintro e w1 ⟨rfl, hd⟩; have hx1 := HB.out.below hd hlt; have z1 := hx1.cell 1)
      go_ret
      exact ⟨by rw [Hr.out]; rfl, Hw.out.trans (hd.mono Hw.out.size)⟩
    · have h1d : decide (item < 0) = false := by simpa using h1
      by_cases h2 : (b.its.length : Int) ≤ item
      · have Hr := Lib.hid (show nmR b item = 5 by rw [Hn2.out, if_pos (.inr h2)])
        have h2d : decide ((b.its.length : Int) ≤ item) = true := by simpa using h2
        go_enter Tryd.func67, Tryd.ntmps67
        go_wp2_with (go_at_call 20; refine cv.out.mono ?_; rintro e w1 ⟨rfl, hd⟩; have hx1 := HB.out.below hd hlt; have z1 := hx1.cell 1)
        go_ret
        exact ⟨by rw [Hr.out]; rfl, Hw.out.trans (hd.mono Hw.out.size)⟩
      · have Hr := Lib.hid (show nmR b item = 0 by rw [Hn2.out, if_neg (by omega)])
        have h2d : decide ((b.its.length : Int) ≤ item) = false := by simpa using h2
        go_enter Tryd.func67, Tryd.ntmps67
        go_wp2_with (go_at_call 20; refine cv.out.mono ?_; rintro e w1 ⟨rfl, hd⟩; have hx1 := HB.out.below hd hlt; have z1 := hx1.cell 1)
        go_ret
        exact ⟨by rw [Hr.out]; rfl, Hw.out.trans (hd.mono Hw.out.size)⟩
  · have Hr := Lib.hid (show nmR b item = e0 by rw [Hn.out, if_neg he])
    have he1 : (e0 == 0) = false := by simpa using he
    have he2 : (e0 != 0) = true := by simpa using he
    go_enter Tryd.func67, Tryd.ntmps67
    go_wp2_with (go_at_call 20; refine cv.out.mono ?_; rintro e w1 ⟨rfl, hd⟩; have hx1 := HB.out.below hd hlt; have z1 := hx1.cell 1)
    go_ret
    exact ⟨by rw [Hr.out]; rfl, Hw.out.trans (hd.mono Hw.out.size)⟩
end Go.Proofs.YtgoojcjfhghmgaaDoor
