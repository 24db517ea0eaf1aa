/- isSet. -/
import Derived.Test.YtgoojcjfhghmgaaDoorDisG
namespace Go.Proofs.YtgoojcjfhghmgaaDoor
open Go.RowKit

/-- Ascending numbers from 0, below n. -/
def isS (l : List Int) (n : Int) : Bool := decide (l.Pairwise (· < ·)) && l.all fun x => decide (0 ≤ x ∧ x < n)
theorem compactUpTo_mem (d : Array Int) : ∀ (m : Nat), m ≤ d.size → ∀ x ∈ Lib.compactUpTo d m, ∃ j, ∃ h : j < d.size, j < m ∧ x = d[j]
  | 0, _, x, hx => by simp [Lib.compactUpTo] at hx
  | m + 1, hm, x, hx => by
    rw [Lib.compactUpTo_succ] at hx
    rcases List.mem_append.1 hx with hx | hx
    · obtain ⟨j, h, h1, h2⟩ := compactUpTo_mem d m (by omega) x hx
      exact ⟨j, h, by omega, h2⟩
    · split at hx
      · obtain rfl : x = d[m]! := by simpa using hx
        exact ⟨m, by omega, by omega, by simp [getElem!_pos d m (by omega)]⟩
      · simp at hx
theorem compactUpTo_asc (d : Array Int) (hs : ∀ i j (_ : i ≤ j) (hj : j < d.size), d[i]'(by omega) ≤ d[j]) : ∀ (m : Nat), m ≤ d.size → (Lib.compactUpTo d m).Pairwise (· < ·)
  | 0, _ => by simp [Lib.compactUpTo]
  | m + 1, hm => by
    rw [Lib.compactUpTo_succ]
    split
    · rename_i hk
      rw [List.pairwise_append]
      refine ⟨compactUpTo_asc d hs m (by omega), by simp, fun x hx y hy => ?_⟩
      obtain rfl : y = d[m]! := by simpa using hy
      obtain ⟨j, h, h1, rfl⟩ := compactUpTo_mem d m (by omega) x hx
      rw [getElem!_pos d m (by omega)]
      have hne : d[m]'(by omega) ≠ d[m - 1]'(by omega) := by
        intro e
        have := Lib.keeps_neg (d := d) (m := m) (by omega) (by rw [getElem!_pos d m (by omega), getElem!_pos d (m - 1) (by omega)]; exact e)
        rw [this] at hk; cases hk
      have h2 := hs j (m - 1) (by omega) (by omega)
      have h3 := hs (m - 1) m (by omega) (by omega)
      omega
    · rw [List.append_nil]; exact compactUpTo_asc d hs m (by omega)
theorem srt_asc (l : List Int) : (srt l).Pairwise (· < ·) := by
  unfold srt Lib.compact
  have hp : (l.mergeSort fun x y => decide (x ≤ y)).Pairwise (fun a b => decide (a ≤ b) = true) := List.pairwise_mergeSort (fun a b c h1 h2 => by simp at *; omega) (fun a b => by simp; omega) l
  generalize l.mergeSort (fun x y => decide (x ≤ y)) = s at hp
  refine compactUpTo_asc s.toArray (fun i j hij hj => ?_) _ (by simp)
  simp only [List.size_toArray] at hj
  rcases Nat.eq_or_lt_of_le hij with rfl | hlt
  · exact Int.le_refl _
  · have := List.pairwise_iff_getElem.1 hp i j (by omega) hj hlt
    simpa using this
theorem srt_self {l : List Int} (h : l.Pairwise (· < ·)) : srt l = l := by
  have e : (l.mergeSort fun x y => decide (x ≤ y)) = l := by
    apply List.mergeSort_of_pairwise
    exact h.imp fun hab => by simp; omega
  unfold srt
  rw [e]
  refine Lib.compact_all l fun j hj => ?_
  by_cases h0 : j = 0
  · subst h0; exact Lib.keeps_lt_one _ 0 (by omega)
  · refine Lib.keeps_pos ?_
    have := List.pairwise_iff_getElem.1 h (j - 1) j (by omega) hj (by omega)
    rw [getElem!_pos l.toArray j (by simpa using hj), getElem!_pos l.toArray (j - 1) (by simp; omega)]
    simp only [List.getElem_toArray]
    omega
theorem srt_iff (l : List Int) : decide (l = srt l) = decide (l.Pairwise (· < ·)) := by
  rw [decide_eq_decide]
  exact ⟨fun h => by rw [h]; exact srt_asc l, fun h => (srt_self h).symm⟩
theorem asc_le {l : List Int} (h : l.Pairwise (· < ·)) {i j : Nat} (hij : i ≤ j) (hj : j < l.length) : l[i]'(by omega) ≤ l[j] := by
  rcases Nat.eq_or_lt_of_le hij with rfl | hlt
  · exact Int.le_refl _
  · have := List.pairwise_iff_getElem.1 h i j (by omega) hj hlt; omega
/-- By its first and last number. -/
theorem isS_ends {l : List Int} (h : l.Pairwise (· < ·)) (h0 : 0 < l.length) (n : Int) : isS l n = (decide ((0 : Int) ≤ l[0]) && decide (l[l.length - 1] < n)) := by
  unfold isS
  rw [decide_eq_true h, Bool.true_and, Bool.eq_iff_iff, List.all_eq_true]
  simp only [decide_eq_true_eq, Bool.and_eq_true]
  constructor
  · intro ha
    exact ⟨(ha _ (List.getElem_mem h0)).1, (ha _ (List.getElem_mem (by omega))).2⟩
  · rintro ⟨h1, h2⟩ x hx
    obtain ⟨i, hi, rfl⟩ := List.getElem_of_mem hx
    have h3 := asc_le h (i := 0) (j := i) (by omega) hi
    have h4 := asc_le h (i := i) (j := l.length - 1) (by omega) (by omega)
    omega

set_option maxRecDepth 100000 in
set_option maxHeartbeats 1000000 in
theorem isSet_any (A : Option Addr) (c B : Nat) (l : List Int) (n : Int) (w : World) (hB : B ≤ w.heap.size) (h : IntsAt B w A l) (hm : l.length ≤ 1000) :
    Calls Tryd.prog 59 #[.slice A l.length c, .int .i64 n] w fun e w' => e = .returned (.bool (isS l n)) ∧ Below w.heap.size w w' := by
  have hI := h.below (Below.refl _ _) hB
  have cs := Lib.hid (sorted_any A c B l w (by omega) h)
  have ce := Lib.hid (fun A' c' W (hW : Below w.heap.size w W) (hI' : IntsAt (World.heap W).size W A' (srt l)) => equal_any A A' c c' (World.heap W).size l (srt l) W (by omega) (by have := srt_length l; omega) (hI.below hW hW.size) hI')
  rw [srt_iff] at ce
  cases hp : decide (l.Pairwise (· < ·)) with
  | false =>
    rw [hp] at ce
    have Hr := Lib.hid (show isS l n = false by rw [isS, hp]; rfl)
    clear h hI hp
    go_enter Tryd.func59, Tryd.ntmps59
    go_wp2_with (first
      | (go_at_call 105; refine cs.out.mono ?_; rintro e w1 ⟨A1, c1, rfl, hI1, hb1⟩)
      | (go_at_call 104; refine (ce.out _ _ _ hb1 hI1).mono ?_; rintro e w2 ⟨rfl, hd⟩; have hb2 := hb1.trans (hd.mono hb1.size)))
    go_ret
    exact ⟨by rw [Hr.out]; rfl, hb2⟩
  | true =>
    rw [hp] at ce
    have hpp : l.Pairwise (· < ·) := by simpa using hp
    by_cases h0 : l.length = 0
    · have Hr := Lib.hid (show isS l n = true by rw [isS, hp, List.eq_nil_of_length_eq_zero h0]; rfl)
      have e0 : ((l.length : Int) == 0) = true := by rw [beq_iff_eq]; omega
      have H0 := Lib.hid h0
      clear h hI hp hpp h0
      go_enter Tryd.func59, Tryd.ntmps59
      go_wp2_with (first
        | (go_at_call 105; refine cs.out.mono ?_; rintro e w1 ⟨A1, c1, rfl, hI1, hb1⟩)
        | (go_at_call 104; refine (ce.out _ _ _ hb1 hI1).mono ?_; rintro e w2 ⟨rfl, hd⟩; have hb2 := hb1.trans (hd.mono hb1.size)))
      go_ret
      exact ⟨by rw [Hr.out]; rfl, hb2⟩
    · have hpos : 0 < l.length := by omega
      have Hr := Lib.hid (isS_ends hpp hpos n)
      have e0 : ((l.length : Int) == 0) = false := by rw [beq_eq_false_iff_ne]; omega
      obtain ⟨b, off, rfl, hbB, c0⟩ := hI.at hpos
      obtain ⟨b', off', e', _, c1⟩ := hI.at (k := l.length - 1) (by omega)
      obtain ⟨rfl, rfl⟩ : b = b' ∧ off = off' := by injection e' with e'; injection e' with e1 e2; exact ⟨e1, e2⟩
      simp only [Nat.add_zero] at c0
      generalize l[0] = x0 at c0 Hr
      generalize l[l.length - 1] = x1 at c1 Hr
      have hx : (0 ≤ x0 ∧ decide (0 ≤ x0) = true) ∨ (x0 < 0 ∧ decide (0 ≤ x0) = false) := by
        rcases Int.lt_or_le x0 0 with h1 | h1
        · exact .inr ⟨h1, by simp; omega⟩
        · exact .inl ⟨h1, by simpa using h1⟩
      clear h hI hp hpp h0
      rcases hx with ⟨h1, g1⟩ | ⟨h1, g1⟩
      all_goals
        go_enter Tryd.func59, Tryd.ntmps59
        go_wp2_with (first
          | (go_at_call 105; refine cs.out.mono ?_; rintro e w1 ⟨A1, c1', rfl, hI1, hb1⟩)
          | (go_at_call 104; refine (ce.out _ _ _ hb1 hI1).mono ?_; rintro e w2 ⟨rfl, hd⟩; have hb2 := hb1.trans (hd.mono hb1.size); have z0 := (hb2.cell (p := ⟨b, off, none⟩) hbB).trans c0; have z1 := (hb2.cell (p := ⟨b, off + (l.length - 1), none⟩) hbB).trans c1))
        go_ret
        exact ⟨by rw [Hr.out]; simp [g1], hb2⟩
end Go.Proofs.YtgoojcjfhghmgaaDoor
