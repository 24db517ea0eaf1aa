/- KitchenBounds, KitchenLate: the calls return true. -/
import Derived.Test.YtoegemlpboeodaaKitG
namespace Go.Proofs.Ytoegemlpboeodaa
open Go.RowKit

def longB (n m : Nat) : Bool := decide (100 < n ∨ 100 < m)
theorem long_any (A A' : Option Addr) (c c' n m : Nat) (w : World) (hn : n ≤ maxLen) (hm : m ≤ maxLen) : Calls Try.prog 24 #[.slice A n c, .slice A' m c'] w fun e w' => e = .returned (.bool (longB n m)) ∧ w = w' := by
  unfold maxLen at hn hm
  by_cases h1 : 100 < n
  · have Hx := Lib.hid (show longB n m = true by simp [longB, h1])
    go_enter Try.func24, Try.ntmps24
    go_wp2
    go_ret
    exact ⟨by rw [Hx.out]; rfl, rfl⟩
  · by_cases h2 : 100 < m
    · have Hx := Lib.hid (show longB n m = true by simp [longB, h2])
      go_enter Try.func24, Try.ntmps24
      go_wp2
      go_ret
      refine ⟨?_, rfl⟩
      rw [Hx.out]; simp; omega
    · have Hx := Lib.hid (show longB n m = false by simp [longB]; omega)
      go_enter Try.func24, Try.ntmps24
      go_wp2
      go_ret
      refine ⟨?_, rfl⟩
      rw [Hx.out]; simp; omega

theorem bnd_time {l : List Bt} {o : List Int} (hx : exB l o = 0) : bndR l ≤ timeR l o := by
  obtain ⟨hv, hp⟩ := exB_zero hx
  rw [bndR, if_pos hv, timeR, if_pos hx]
  exact bnd_le (bts_perm hp) (valB_zero hv).2

set_option maxRecDepth 100000 in
set_option maxHeartbeats 1000000 in
theorem bounds_law (A A' : Option Addr) (c c' : Nat) (l : List Bt) (o : List Int) (w : World) (h : PairsAt w.heap.size w A l) (h' : IntsAt w.heap.size w A' o) (hm : l.length ≤ maxLen) (hm' : o.length ≤ maxLen) :
    Calls Try.prog 6 #[.slice A l.length c, .slice A' o.length c'] w fun e w' => e = .returned (.bool true) ∧ Below w.heap.size w w' := by
  have cl := Lib.hid (long_any A A' c c' l.length o.length w hm hm')
  unfold maxLen at hm hm'
  by_cases hlong : longB l.length o.length = true
  · rw [hlong] at cl
    clear h h' hlong
    go_enter Try.func6, Try.ntmps6
    go_wp2_with (first | (go_at_call 24; refine cl.out.mono ?_; rintro e w1 ⟨rfl, rfl⟩) | (go_at_call 18; refine (known_any _).mono ?_; rintro e w5 ⟨rfl, hb5⟩))
    go_ret
    exact ⟨rfl, hb5⟩
  · have hl1 : longB l.length o.length = false := by simpa using hlong
    rw [hl1] at cl
    have hs : l.length ≤ 100 ∧ o.length ≤ 100 := by simp [longB] at hl1; omega
    have hs1 := hs.1
    have hs2 := hs.2
    clear hm hm'
    have c25 := Lib.hid (fun W hW => Bound_any A c w.heap.size l W (Below.size hW) (h.below (B' := w.heap.size) hW (Nat.le_refl _)) (by omega))
    have c26 := Lib.hid (fun W hW => Bound_ref A c w.heap.size l W (h.below (w' := W) (B' := w.heap.size) hW (Nat.le_refl _)) (by omega))
    have c27 := Lib.hid (fun W hW => Time_any A A' c c' w.heap.size l o W (Below.size hW) (h.below (B' := w.heap.size) hW (Nat.le_refl _)) (h'.below (B' := w.heap.size) hW (Nat.le_refl _)) (by omega) (by omega))
    have hcase : (exB l o = 0 ∧ bndR l ≤ timeR l o) ∨ ¬ exB l o = 0 := by
      by_cases hx : exB l o = 0
      · exact .inl ⟨hx, bnd_time hx⟩
      · exact .inr hx
    generalize bndR l = bn at c25 c26 hcase
    generalize timeR l o = tn at c27 hcase
    generalize valB l = vn at c25 c26
    generalize exB l o = en at c27 hcase
    clear h h' hlong hl1 hs
    rcases hcase with ⟨hx, hle⟩ | hx
    · subst hx
      have hle1 : decide (bn ≤ tn) = true := by simpa using hle
      go_enter Try.func6, Try.ntmps6
      go_wp2_with (first
        | (go_at_call 24; refine cl.out.mono ?_; rintro e w1 ⟨rfl, rfl⟩)
        | (go_at_call 25; refine (c25.out _ (Below.refl _ _)).mono ?_; rintro e w1 ⟨rfl, hb1⟩)
        | (go_at_call 26; refine (c26.out _ hb1).mono ?_; rintro e w2 ⟨rfl, hd⟩; have hb2 := hb1.trans (Drew.below hd w.heap.size); clear hd)
        | (go_at_call 27; refine (c27.out _ hb2).mono ?_; rintro e w3 ⟨rfl, hb3⟩)
        | (go_at_call 18; refine (known_any _).mono ?_; rintro e w5 ⟨rfl, hb5⟩))
      go_ret
      exact ⟨rfl, (hb2.trans (hb3.mono hb2.size)).trans (hb5.mono (Nat.le_trans hb2.size hb3.size))⟩
    · have hne : (en == 0) = false := by simpa using hx
      have hne2 : (en != 0) = true := by simpa using hx
      go_enter Try.func6, Try.ntmps6
      go_wp2_with (first
        | (go_at_call 24; refine cl.out.mono ?_; rintro e w1 ⟨rfl, rfl⟩)
        | (go_at_call 25; refine (c25.out _ (Below.refl _ _)).mono ?_; rintro e w1 ⟨rfl, hb1⟩)
        | (go_at_call 26; refine (c26.out _ hb1).mono ?_; rintro e w2 ⟨rfl, hd⟩; have hb2 := hb1.trans (Drew.below hd w.heap.size); clear hd)
        | (go_at_call 27; refine (c27.out _ hb2).mono ?_; rintro e w3 ⟨rfl, hb3⟩)
        | (go_at_call 18; refine (known_any _).mono ?_; rintro e w5 ⟨rfl, hb5⟩))
      go_ret
      exact ⟨rfl, (hb2.trans (hb3.mono hb2.size)).trans (hb5.mono (Nat.le_trans hb2.size hb3.size))⟩

set_option maxRecDepth 100000 in
set_option maxHeartbeats 1000000 in
theorem late_law (A A' D : Option Addr) (c c' c'' : Nat) (l : List Bt) (o d : List Int) (w : World) (h : PairsAt w.heap.size w A l) (h' : IntsAt w.heap.size w A' o) (h'' : IntsAt w.heap.size w D d) (hm : l.length ≤ maxLen) (hm' : o.length ≤ maxLen) (hm'' : d.length ≤ 9223372036854775807) :
    Calls Try.prog 10 #[.slice A l.length c, .slice A' o.length c', .slice D d.length c''] w fun e w' => e = .returned (.bool true) ∧ Below w.heap.size w w' := by
  have cl := Lib.hid (long_any A A' c c' l.length o.length w hm hm')
  unfold maxLen at hm hm'
  by_cases hlong : longB l.length o.length = true
  · rw [hlong] at cl
    clear h h' h'' hlong
    go_enter Try.func10, Try.ntmps10
    go_wp2_with (first | (go_at_call 24; refine cl.out.mono ?_; rintro e w1 ⟨rfl, rfl⟩) | (go_at_call 18; refine (known_any _).mono ?_; rintro e w5 ⟨rfl, hb5⟩))
    go_ret
    exact ⟨rfl, hb5⟩
  · have hl1 : longB l.length o.length = false := by simpa using hlong
    rw [hl1] at cl
    have hs : l.length ≤ 100 ∧ o.length ≤ 100 := by simp [longB] at hl1; omega
    obtain ⟨hs1, hs2⟩ := hs
    clear hm hm'
    by_cases hdl : 100 < d.length
    · clear h h' h'' hlong hl1
      go_enter Try.func10, Try.ntmps10
      go_wp2_with (first | (go_at_call 24; refine cl.out.mono ?_; rintro e w1 ⟨rfl, rfl⟩) | (go_at_call 18; refine (known_any _).mono ?_; rintro e w5 ⟨rfl, hb5⟩))
      go_ret
      exact ⟨rfl, hb5⟩
    · by_cases hx : lateE l o d = 0
      · have he : exB l o = 0 ∧ d.length = l.length := by
          unfold lateE at hx
          split at hx
          · split at hx
            · exact ⟨‹_›, ‹_›⟩
            · omega
          · exact absurd hx ‹_›
        obtain ⟨hv, hp⟩ := exB_zero he.1
        have hq : (sortS (lateP l o d o.length)) = lateQ l o d l.length := late_eq hp d
        have h7 := (valB_zero hv).1
        have hol := ord_length hp
        have hql : (lateQ l o d l.length).length ≤ 100 := by
          rw [← hq, sortS_length]
          have := lateP_length l o d o.length
          omega
        have c34 := Lib.hid (Late_good A A' D c c' c'' w.heap.size l o d w (Nat.le_refl _) h h' h'' (by omega) (by omega) he.1 he.2)
        rw [hq] at c34
        have c35 := Lib.hid (fun W hW => Late_ref_good A A' D c c' c'' w.heap.size l o d W (Below.size hW) (h.below (B' := w.heap.size) hW (Nat.le_refl _)) (h'.below (B' := w.heap.size) hW (Nat.le_refl _)) (h''.below (B' := w.heap.size) hW (Nat.le_refl _)) (by omega) (by omega) he.1 he.2)
        generalize lateQ l o d l.length = z at c34 c35 hql
        clear h h' h'' hlong hl1 hx he hq hv hp hol
        have tt := decide_eq_true (Eq.refl z)
        go_enter Try.func10, Try.ntmps10
        go_wp2_with (first
          | (go_at_call 24; refine cl.out.mono ?_; rintro e w1 ⟨rfl, rfl⟩)
          | (go_at_call 34; refine c34.out.mono ?_; rintro e w1 ⟨C1, q1, rfl, hI1, hb1⟩)
          | (go_at_call 35; refine (c35.out _ hb1).mono ?_; rintro e w2 ⟨C2, q2, rfl, hI2, hb2⟩)
          | (go_at_call 36; refine (sameInts_ref C1 C2 q1 q2 w2.heap.size z z w2 (hI1.below hb2 hb2.size) hI2 (by omega)).mono ?_; rintro e w3 ⟨rfl, hd⟩; have hb3 := Drew.below hd w2.heap.size; clear hd)
          | (go_at_call 18; refine (known_any _).mono ?_; rintro e w5 ⟨rfl, hb5⟩))
        go_ret
        exact ⟨rfl, ((hb1.trans (hb2.mono hb1.size)).trans (hb3.mono (Nat.le_trans hb1.size hb2.size))).trans (hb5.mono (Nat.le_trans hb1.size (Nat.le_trans hb2.size hb3.size)))⟩
      · have c34 := Lib.hid (Late_bad A A' D c c' c'' w.heap.size l o d w (Nat.le_refl _) h h' (by omega) (by omega) hx)
        have c35 := Lib.hid (fun W hW => Late_ref_bad A A' D c c' c'' w.heap.size l o d W (h.below (w' := W) (B' := w.heap.size) hW (Nat.le_refl _)) (h'.below (B' := w.heap.size) hW (Nat.le_refl _)) (by omega) (by omega) hx)
        generalize lateE l o d = z at c34 c35
        clear h h' h'' hlong hl1 hx
        go_enter Try.func10, Try.ntmps10
        go_wp2_with (first
          | (go_at_call 24; refine cl.out.mono ?_; rintro e w1 ⟨rfl, rfl⟩)
          | (go_at_call 34; refine c34.out.mono ?_; rintro e w1 ⟨rfl, hb1⟩)
          | (go_at_call 35; refine (c35.out _ hb1).mono ?_; rintro e w2 ⟨rfl, rfl⟩)
          | (go_at_call 36; refine (sameInts_ref none none 0 0 0 [] [] _ (IntsAt.nil _ _ _) (IntsAt.nil _ _ _) (by simp)).mono ?_; rintro e w3 ⟨rfl, hd⟩; have hb3 := Drew.below hd w.heap.size; clear hd)
          | (go_at_call 18; refine (known_any _).mono ?_; rintro e w5 ⟨rfl, hb5⟩))
        go_ret
        exact ⟨rfl, (hb1.trans hb3).trans (hb5.mono (Nat.le_trans hb1.size hb3.size))⟩
end Go.Proofs.Ytoegemlpboeodaa
