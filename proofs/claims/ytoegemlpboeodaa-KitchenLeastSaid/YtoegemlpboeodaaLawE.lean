/- KitchenSorted: the call returns true. -/
import Derived.Test.YtoegemlpboeodaaKitI
import Derived.Test.YtoegemlpboeodaaKitL
import Derived.Test.YtoegemlpboeodaaPlain7
import Derived.Test.YtoegemlpboeodaaLawC
namespace Go.Proofs.Ytoegemlpboeodaa
open Go.RowKit

theorem swap_le {a b : Bt} (h : befB a b = true) (s : Int × Int) : leS (stp (stp s a) b) (stp (stp s b) a) := by
  simp only [befB, decide_eq_true_eq] at h
  constructor <;> simp only [stp] <;> omega
theorem front_le {x : Bt} : ∀ (A : List Bt), (∀ a ∈ A, befB x a = true) → ∀ s, leS ((x :: A).foldl stp s) ((A ++ [x]).foldl stp s)
  | [], _, s => leS.refl _
  | a :: A, h, s => by
    have h1 := front_le A (fun y hy => h y (by simp [hy])) (stp s a)
    refine leS.trans ?_ h1
    exact leS.fold (swap_le (h a (by simp)) s) A
theorem sorted_le : ∀ (S T : List Bt), Srt S → T.Perm S → ∀ s, leS (S.foldl stp s) (T.foldl stp s)
  | [], T, _, hp, s => by rw [hp.eq_nil]; exact leS.refl _
  | x :: S, T, hs, hp, s => by
    unfold Srt at hs
    rw [List.pairwise_cons] at hs
    obtain ⟨A, B, rfl⟩ := List.append_of_mem (hp.mem_iff.2 (List.mem_cons_self ..))
    have hp2 : (A ++ B).Perm S := by
      have h1 : (A ++ x :: B).Perm (x :: (A ++ B)) := List.perm_middle
      exact (List.perm_cons x).1 (h1.symm.trans hp)
    have h1 := front_le A (fun a ha => hs.1 a (hp2.mem_iff.1 (by simp [ha]))) s
    have h2 := leS.fold h1 B
    rw [← List.foldl_append, ← List.foldl_append] at h2
    have h3 := sorted_le S (A ++ B) hs.2 hp2 (stp s x)
    rw [List.foldl_cons]
    refine leS.trans h3 ?_
    simpa using h2
theorem srt_best {l : List Bt} {o : List Int} (h : srtR l o = true) : leastR l = timeR l o ∧ valB l = 0 ∧ exB l o = 0 := by
  simp only [srtR, decide_eq_true_eq] at h
  obtain ⟨hx, hs⟩ := h
  obtain ⟨hv, hp⟩ := exB_zero hx
  refine ⟨?_, hv, hx⟩
  rw [leastR, if_pos hv, timeR, if_pos hx]
  refine best_eq hv ⟨o, hp, rfl⟩ fun o' ho' => ?_
  have hpp : (bts l o').Perm (bts l o) := (ho'.trans hp.symm).map _
  exact (sorted_le _ _ hs hpp (0, 0)).2

set_option maxRecDepth 100000 in
set_option maxHeartbeats 1000000 in
theorem sorted_law (A A' : Option Addr) (c c' : Nat) (l : List Bt) (o : List Int) (w : World) (h : PairsAt w.heap.size w A l) (h' : IntsAt w.heap.size w A' o) (hm : l.length ≤ maxLen) (hm' : o.length ≤ maxLen) (hcap : o.length ≤ c') (hcap2 : c' ≤ maxLen) :
    Calls Try.prog 15 #[.slice A l.length c, .slice A' o.length c'] w fun e w' => e = .returned (.bool true) ∧ Below w.heap.size w w' := by
  have cl := Lib.hid (long_any A A' c c' l.length o.length w hm hm')
  unfold maxLen at hm hm' hcap2
  by_cases hlong : longB l.length o.length = true
  · rw [hlong] at cl
    clear h h' hlong
    go_enter Try.func15, Try.ntmps15
    go_wp2_with (first | (go_at_call 24; refine cl.out.mono ?_; rintro e w1 ⟨rfl, rfl⟩) | (go_at_call 18; refine (known_any _).mono ?_; rintro e w5 ⟨rfl, hb5⟩))
    go_ret
    exact ⟨rfl, hb5⟩
  · have hl1 : longB l.length o.length = false := by simpa using hlong
    rw [hl1] at cl
    have hs : l.length ≤ 100 ∧ o.length ≤ 100 := by simp [longB] at hl1; omega
    have hs1 := hs.1
    have hs2 := hs.2
    clear hm hm'
    have c50 := Lib.hid (Sorted_any A A' c c' w.heap.size l o w (Nat.le_refl _) h h' (by omega) (by omega) hcap hcap2)
    have c51 := Lib.hid (fun W hW => Sorted_ref A A' c c' w.heap.size l o W (Below.size hW) (h.below (B' := w.heap.size) hW (Nat.le_refl _)) (h'.below (B' := w.heap.size) hW (Nat.le_refl _)) (by omega) (by omega))
    have c44 := Lib.hid (fun W hW => Least_any A c w.heap.size l W (Below.size hW) (h.below (B' := w.heap.size) hW (Nat.le_refl _)) (by omega))
    have c27 := Lib.hid (fun W hW => Time_any A A' c c' w.heap.size l o W (Below.size hW) (h.below (B' := w.heap.size) hW (Nat.le_refl _)) (h'.below (B' := w.heap.size) hW (Nat.le_refl _)) (by omega) (by omega))
    have hcase : (srtR l o = true ∧ leastR l = timeR l o ∧ valB l = 0 ∧ exB l o = 0) ∨ srtR l o = false := by
      cases hx : srtR l o
      · exact .inr rfl
      · exact .inl ⟨rfl, srt_best hx⟩
    clear hcap2 hcap
    generalize leastR l = ln at c44 hcase
    generalize timeR l o = tn at c27 hcase
    generalize valB l = vn at c44 hcase
    generalize exB l o = en at c27 c50 c51 hcase
    generalize srtR l o = sn at c50 c51 hcase
    clear h h' hlong hl1 hs
    rcases hcase with ⟨hx, hle, hv, he⟩ | hx
    · subst hx hle hv he
      go_enter Try.func15, Try.ntmps15
      go_wp2_with (first
        | (go_at_call 24; refine cl.out.mono ?_; rintro e w1 ⟨rfl, rfl⟩)
        | (go_at_call 50; refine c50.out.mono ?_; rintro e w1 ⟨rfl, hb1⟩)
        | (go_at_call 51; refine (c51.out _ hb1).mono ?_; rintro e w2 ⟨rfl, hd⟩; have hb2 := hb1.trans (hd.mono hb1.size); clear hd)
        | (go_at_call 44; refine (c44.out _ hb2).mono ?_; rintro e w3 ⟨rfl, hd⟩; have hb3 := hb2.trans (hd.mono hb2.size); clear hd)
        | (go_at_call 27; refine (c27.out _ hb3).mono ?_; rintro e w4 ⟨rfl, hd⟩; have hb4 := hb3.trans (hd.mono hb3.size); clear hd)
        | (go_at_call 18; refine (known_any _).mono ?_; rintro e w5 ⟨rfl, hb5⟩))
      go_ret
      exact ⟨rfl, hb4.trans (hb5.mono hb4.size)⟩
    · subst hx
      go_enter Try.func15, Try.ntmps15
      go_wp2_with (first
        | (go_at_call 24; refine cl.out.mono ?_; rintro e w1 ⟨rfl, rfl⟩)
        | (go_at_call 50; refine c50.out.mono ?_; rintro e w1 ⟨rfl, hb1⟩)
        | (go_at_call 51; refine (c51.out _ hb1).mono ?_; rintro e w2 ⟨rfl, hd⟩; have hb2 := hb1.trans (hd.mono hb1.size); clear hd)
        | (go_at_call 18; refine (known_any _).mono ?_; rintro e w5 ⟨rfl, hb5⟩))
      go_ret
      exact ⟨rfl, hb2.trans (hb5.mono hb2.size)⟩
end Go.Proofs.Ytoegemlpboeodaa
