/- Validate, examine, ordered: the errors of batches and orders. -/
import Derived.Test.YtoegemlpboeodaaHeat
import Derived.Test.YtoegemlpboeodaaSlices
namespace Go.Proofs.Ytoegemlpboeodaa
open Go.RowKit

def AllOk (l : List Bt) (k : Nat) : Prop := (l.take k).all okB = true
theorem AllOk.succ {l : List Bt} {k : Nat} (h : AllOk l k) (hk : k < l.length) (ho : okB l[k] = true) : AllOk l (k + 1) := by
  unfold AllOk at h ⊢
  rw [List.take_succ_eq_append_getElem hk, List.all_append, h]; simp [ho]
theorem AllOk.all {l : List Bt} (h : AllOk l l.length) : l.all okB = true := by simpa [AllOk] using h
theorem valB_bad {l : List Bt} {k : Nat} (h7 : ¬ l.length > 7) (hk : k < l.length) (ho : okB l[k] = false) : valB l = 1 := by
  unfold valB
  rw [if_neg h7, if_neg]
  intro h
  have := List.all_eq_true.1 h l[k] (List.getElem_mem hk)
  rw [ho] at this; cases this

set_option maxHeartbeats 400000 in
theorem validate_any (A : Option Addr) (c B : Nat) (l : List Bt) (w : World) (hB : B ≤ w.heap.size) (h : PairsAt B w A l) (hm : l.length ≤ 1000) :
    Calls Try.prog 42 #[.slice A l.length c] w fun e w' => e = .returned (.int .i64 (valB l)) ∧ Below w.heap.size w w' := by
  by_cases h7 : l.length > 7
  · go_enter Try.func42, Try.ntmps42
    go_wp2
    go_ret
    exact ⟨by simp [valB, h7], Below.refl _ _⟩
  · go_enter Try.func42, Try.ntmps42
    go_wp2
    go_loopw [10] (fun i wr => ∃ k : Nat, k ≤ l.length ∧ i = .int .i64 k ∧ AllOk l k ∧ Below w.heap.size w wr) (fun i _ => l.length - (intOf i).toNat)
    case atStart => exact ⟨0, Nat.zero_le _, rfl, rfl, Below.refl _ _⟩
    case round =>
      obtain ⟨k, hk, rfl, hall, hb⟩ := hrel
      by_cases hlt : k < l.length
      · obtain ⟨b, off, rfl, hbB, hc1, hc2⟩ := h.at hlt
        have hc1' := (hb.cell (p := ⟨b, off + k * 2, none⟩) (by simp; omega)).trans hc1
        have hc2' := (hb.cell (p := ⟨b, off + k * 2 + 1, none⟩) (by simp; omega)).trans hc2
        clear hc1 hc2
        go_wp2_with (go_at_call 67; refine (within_any _ _ _ _).mono ?_; rintro e w' ⟨rfl, rfl⟩)
        · go_ret
          exact ⟨by rw [valB_bad h7 hlt (by simp_all [okB])]; rfl, hb.alloc hb.size _⟩
        · go_roundw
          case rel => exact ⟨k + 1, by omega, by go_num, hall.succ hlt (by simp_all [okB]), hb.alloc hb.size _⟩
          case measure => simp [intOf]; omega
        · go_ret
          exact ⟨by rw [valB_bad h7 hlt (by simp_all [okB])]; rfl, hb.alloc hb.size _⟩
      · obtain rfl : k = l.length := by omega
        go_wp2_with fail
        go_ret
        exact ⟨by rw [valB, if_neg h7, if_pos hall.all]; rfl, hb⟩

set_option maxHeartbeats 400000 in
theorem validate_ref (A : Option Addr) (c B : Nat) (l : List Bt) (w : World) (h : PairsAt B w A l) (hm : l.length ≤ 1000) :
    Calls Try.prog 43 #[.slice A l.length c] w fun e w' => e = .returned (.int .i64 (valB l)) ∧ w = w' := by
  by_cases h7 : l.length > 7
  · go_enter Try.func43, Try.ntmps43
    go_wp2
    go_ret
    exact ⟨by simp [valB, h7], rfl⟩
  · go_enter Try.func43, Try.ntmps43
    go_wp2
    go_loop [3] (fun i => ∃ k : Nat, k ≤ l.length ∧ i = .int .i64 k ∧ AllOk l k) (fun i => l.length - (intOf i).toNat)
    case atStart => exact ⟨0, Nat.zero_le _, rfl, rfl⟩
    case round =>
      obtain ⟨k, hk, rfl, hall⟩ := hrel
      by_cases hlt : k < l.length
      · obtain ⟨b, off, rfl, hbB, hc1, hc2⟩ := h.at hlt
        go_wp2_with (go_at_call 61; refine (within_ref _ _ _ _).mono ?_; rintro e w' ⟨rfl, rfl⟩)
        · go_ret
          exact ⟨by rw [valB_bad h7 hlt (by simp_all [okB])]; rfl, rfl⟩
        · go_round
          case rel => exact ⟨k + 1, by omega, by go_num, hall.succ hlt (by simp_all [okB])⟩
          case measure => simp [intOf]; omega
        · go_ret
          exact ⟨by rw [valB_bad h7 hlt (by simp_all [okB])]; rfl, rfl⟩
      · obtain rfl : k = l.length := by omega
        go_wp2_with fail
        go_ret
        exact ⟨by rw [valB, if_neg h7, if_pos hall.all]; rfl, rfl⟩

def Fits (s : List Int) (k : Nat) : Prop := ∀ i, i < k → s[i]?.getD 0 = (i : Int)
theorem Fits.succ {s : List Int} {k : Nat} (h : Fits s k) (hk : k < s.length) (e : s[k] = (k : Int)) : Fits s (k + 1) := fun i hi => by
  rcases Nat.lt_succ_iff_lt_or_eq.1 hi with h1 | rfl
  · exact h i h1
  · rw [List.getElem?_eq_getElem hk]; exact e
theorem sortS_perm (o : List Int) : (sortS o).Perm o := List.mergeSort_perm _ _
theorem sortS_pairwise (o : List Int) : (sortS o).Pairwise (· ≤ ·) :=
  (List.pairwise_mergeSort (le := fun x y : Int => decide (x ≤ y)) (fun a b c h1 h2 => by simp at *; omega) (fun a b => by simp; omega) o).imp fun h => by simpa using h
theorem exB_sort {l : List Bt} {o s : List Int} (hv : valB l = 0) (hs : sortS o = s) : exB l o = if (decide (∀ i, (h : i < s.length) → s[i] = (i : Int)) && decide (o.length = l.length)) then 0 else 1 := by
  subst hs
  rw [exB, if_pos hv, isOrd_sort _ _ _ (sortS_perm o) (sortS_pairwise o)]
theorem exB_bad {l : List Bt} {o s : List Int} {k : Nat} (hv : valB l = 0) (hs : sortS o = s) (hk : k < s.length) (hn : ¬ s[k] = (k : Int)) : exB l o = 1 := by
  rw [exB_sort hv hs, if_neg]
  simp only [Bool.and_eq_true, decide_eq_true_eq]
  rintro ⟨h, _⟩; exact hn (h k hk)
theorem exB_len {l : List Bt} {o : List Int} (hv : valB l = 0) (hn : ¬ o.length = l.length) : exB l o = 1 := by
  rw [exB_sort hv rfl, if_neg]
  simp only [Bool.and_eq_true, decide_eq_true_eq]
  rintro ⟨_, h⟩; exact hn h
theorem exB_good {l : List Bt} {o s : List Int} (hv : valB l = 0) (hs : sortS o = s) (hf : Fits s s.length) (hn : o.length = l.length) : exB l o = 0 := by
  rw [exB_sort hv hs, if_pos]
  simp only [Bool.and_eq_true, decide_eq_true_eq]
  exact ⟨fun i hi => by have := hf i hi; rwa [List.getElem?_eq_getElem hi] at this, hn⟩

set_option maxHeartbeats 400000 in
theorem examine_any (A A' : Option Addr) (c c' B : Nat) (l : List Bt) (o : List Int) (w : World) (hB : B ≤ w.heap.size) (h : PairsAt B w A l) (h' : IntsAt B w A' o) (hm : l.length ≤ 1000) (hm' : o.length ≤ 1000) :
    Calls Try.prog 57 #[.slice A l.length c, .slice A' o.length c'] w fun e w' => e = .returned (.int .i64 (exB l o)) ∧ Below w.heap.size w w' := by
  have cv := Lib.hid (validate_any A c B l w hB h hm)
  clear h
  by_cases hv : valB l = 0
  · have hv' := Lib.hid hv
    rw [hv] at cv
    clear hv
    have cs : ∀ (W : World), Below w.heap.size w W → Calls Try.prog 72 #[.func (.func 81) #[] #[.pointer (some ⟨W.heap.size, 0, none⟩)]] (W.alloc (.cells #[.slice A' o.length c'] 34)) fun e W' => ∃ v, e = .returned v ∧ W'.ownsRow (W.heap.size + 1) 3 1 v (sortS o).length ((sortS o).map (Value.int .i64)) ∧ Below (W.heap.size + 1) (W.alloc (.cells #[.slice A' o.length c'] 34)) W' := fun W hW => by
      have := sorted_any W.heap.size c' w.heap.size A' o (by omega) (W.alloc (.cells #[.slice A' o.length c'] 34)) (by simp) (by have := hW.size; simp; omega) (by simp) ((h'.below (Below.refl _ _) hB).below (hW.trans ((Below.refl _ _).alloc hW.size _)) (Nat.le_refl _))
      simpa using this
    have Cs := Lib.hid cs
    clear cs h'
    have hlen : (sortS o).length = o.length := sortS_length o
    generalize hs : sortS o = s at Cs hlen
    have Hs := Lib.hid hs
    clear hs
    go_enter Try.func57, Try.ntmps57
    go_wp2_with (first | (go_at_call 42; refine cv.out.mono ?_; rintro e w1 ⟨rfl, hb1⟩) | (go_at_call 73; refine (values_any _ _ _ _ _ rfl).mono ?_; rintro e w2 ⟨rfl, rfl⟩) | (go_at_call 72; refine (Cs.out _ hb1).mono ?_; rintro e w3 ⟨v, rfl, hrow, hb3⟩; obtain ⟨C, d, hv⟩ := own_form hrow; subst hv))
    have hI := IntsAt.of_own hrow
    have B3 : Below w.heap.size w w3 := (hb1.trans ((Below.refl _ _).alloc hb1.size _)).trans (hb3.mono (by have := hb1.size; omega))
    clear hb3 hrow Cs cv
    go_loop [19] (fun i => ∃ k : Nat, k ≤ s.length ∧ i = .int .i64 k ∧ Fits s k) (fun i => s.length - (intOf i).toNat)
    case atStart => exact ⟨0, Nat.zero_le _, rfl, fun i hi => by omega⟩
    case round =>
      obtain ⟨k, hk, rfl, hf⟩ := hrel
      by_cases hlt : k < s.length
      · obtain ⟨b, off, rfl, hbB, hc⟩ := hI.at hlt
        have hko : k < o.length := by omega
        by_cases hn : s[k] = (k : Int)
        · have hn1 : ((k : Int) != s[k]) = false := by simp [hn]
          have Hn := Lib.hid hn
          clear hn
          go_wp2_with fail
          go_round
          case rel => exact ⟨k + 1, by omega, by go_num, hf.succ hlt Hn.out⟩
          case measure => simp [intOf]; omega
        · have hn1 : ((k : Int) != s[k]) = true := by simp; omega
          have Hx := Lib.hid (exB_bad hv'.out Hs.out hlt hn)
          clear hn
          go_wp2_with fail
          go_ret
          exact ⟨by rw [Hx.out]; rfl, B3⟩
      · obtain rfl : k = s.length := by omega
        by_cases hn : o.length = l.length
        · have hn1 : ((o.length : Int) != (l.length : Int)) = false := by simp [hn]
          have Hx := Lib.hid (exB_good hv'.out Hs.out hf hn)
          clear hn
          go_wp2_with fail
          go_ret
          exact ⟨by rw [Hx.out]; rfl, B3⟩
        · have hn1 : ((o.length : Int) != (l.length : Int)) = true := by simp; omega
          have Hx := Lib.hid (exB_len hv'.out hn)
          clear hn
          go_wp2_with fail
          go_ret
          exact ⟨by rw [Hx.out]; rfl, B3⟩
  · have hx : exB l o = valB l := by rw [exB, if_neg hv]
    have Hx := Lib.hid hx
    clear hx
    have hne : (valB l == 0) = false := by simpa using hv
    generalize valB l = e0 at cv hv hne Hx
    clear hv
    go_enter Try.func57, Try.ntmps57
    go_wp2_with (first | (go_at_call 42; refine cv.out.mono ?_; rintro e w1 ⟨rfl, hb1⟩))
    go_ret
    exact ⟨by rw [Hx.out]; rfl, hb1⟩
end Go.Proofs.Ytoegemlpboeodaa
