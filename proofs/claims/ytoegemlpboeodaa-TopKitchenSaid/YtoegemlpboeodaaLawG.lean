/- TopKitchen: the call returns true where the lists are long, or the batches are not valid. -/
import Derived.Test.YtoegemlpboeodaaPlain9
namespace Go.Proofs.Ytoegemlpboeodaa
open Go.RowKit

theorem least_23 : leastR [(2, 3)] = 5 ∧ valB [(2, 3)] = 0 := by decide +kernel
theorem k44_any (w : World) : Calls Try.prog 44 #[.slice (some ⟨w.heap.size, 0, none⟩) 1 1] (w.alloc (.cells #[.int .i64 2, .int .i64 3] 30)) fun e w' => e = .returned (.tuple #[.int .i64 5, .int .i64 0]) ∧ Below w.heap.size w w' := by
  have hp : PairsAt (w.heap.size + 1) (w.alloc (.cells #[.int .i64 2, .int .i64 3] 30)) (some ⟨w.heap.size, 0, none⟩) [(2, 3)] := by
    intro k hk
    obtain rfl : k = 0 := by simpa using hk
    refine ⟨w.heap.size, 0, rfl, by omega, fun j hj => ?_⟩
    have hb := Blk.new w 30 #[.int .i64 2, .int .i64 3]
    rw [hb.cell]
    match j, hj with
    | 0, _ => rfl
    | 1, _ => rfl
  have h := Least_any (some ⟨w.heap.size, 0, none⟩) 1 (w.heap.size + 1) [(2, 3)] _ (by simp) hp (by simp)
  rw [least_23.1, least_23.2] at h
  refine h.mono ?_
  rintro e w' ⟨rfl, hb⟩
  exact ⟨rfl, ((Below.refl _ _).alloc (Nat.le_refl _) _).trans (hb.mono (by simp))⟩

set_option maxRecDepth 100000 in
set_option maxHeartbeats 1000000 in
theorem top_long1 (A A' : Option Addr) (c c' n m : Nat) (w : World) (hm : n ≤ maxLen) (h1 : 100 < n) :
    Calls Try.prog 16 #[.slice A n c, .slice A' m c'] w fun e w' => e = .returned (.bool true) ∧ Below w.heap.size w w' := by
  have k44 := Lib.hid (k44_any w)
  unfold maxLen at hm
  go_enter Try.func16, Try.ntmps16
  go_wp2_with (go_at_call 44; refine k44.out.mono ?_; rintro e w1 ⟨rfl, hb1⟩)
  go_ret
  exact ⟨rfl, hb1⟩

set_option maxRecDepth 100000 in
set_option maxHeartbeats 1000000 in
theorem top_long2 (A A' : Option Addr) (c c' n m : Nat) (w : World) (hm : n ≤ maxLen) (hm' : m ≤ maxLen) (h0 : ¬ 100 < n) (h1 : 100 < m) :
    Calls Try.prog 16 #[.slice A n c, .slice A' m c'] w fun e w' => e = .returned (.bool true) ∧ Below w.heap.size w w' := by
  have k44 := Lib.hid (k44_any w)
  unfold maxLen at hm hm'
  go_enter Try.func16, Try.ntmps16
  go_wp2_with (go_at_call 44; refine k44.out.mono ?_; rintro e w1 ⟨rfl, hb1⟩)
  go_ret
  exact ⟨rfl, hb1⟩

set_option maxRecDepth 100000 in
set_option maxHeartbeats 1000000 in
theorem top_bad (A A' : Option Addr) (c c' : Nat) (l : List Bt) (o : List Int) (w : World) (h : PairsAt w.heap.size w A l) (h' : IntsAt w.heap.size w A' o) (hm : l.length ≤ 100) (hm' : o.length ≤ 100) (hv : ¬ valB l = 0) :
    Calls Try.prog 16 #[.slice A l.length c, .slice A' o.length c'] w fun e w' => e = .returned (.bool true) ∧ Below w.heap.size w w' := by
  have k44 := Lib.hid (k44_any w)
  have c44 := Lib.hid (fun W hW => Least_any A c w.heap.size l W (Below.size hW) (h.below (B' := w.heap.size) hW (Nat.le_refl _)) (by omega))
  have c46 := Lib.hid (fun W hW => Best_any A c w.heap.size l W (Below.size hW) (h.below (B' := w.heap.size) hW (Nat.le_refl _)) (by omega))
  have c25 := Lib.hid (fun W hW => Bound_any A c w.heap.size l W (Below.size hW) (h.below (B' := w.heap.size) hW (Nat.le_refl _)) (by omega))
  have hx : exB l o = valB l := if_neg hv
  have c27 := Lib.hid (fun W hW => Time_any A A' c c' w.heap.size l o W (Below.size hW) (h.below (B' := w.heap.size) hW (Nat.le_refl _)) (h'.below (B' := w.heap.size) hW (Nat.le_refl _)) (by omega) (by omega))
  rw [hx] at c27
  have hne : (valB l == 0) = false := by simpa using hv
  have hne2 : (valB l != 0) = true := by simpa using hv
  have heq : (valB l == valB l) = true := by simp
  have heq2 : (valB l != valB l) = false := by simp
  generalize valB l = v at c44 c46 c25 c27 hne hne2 hv heq heq2
  generalize leastR l = ln at c44
  generalize bndR l = bn at c25
  generalize timeR l o = tn at c27
  clear h h' hx
  go_enter Try.func16, Try.ntmps16
  have tok := Lib.hid (Nat.le_refl 0)
  go_wp2_with (first
    | (go_at_call 44; have tk := tok; clear tok; refine k44.out.mono ?_; rintro e w1 ⟨rfl, hb1⟩)
    | (go_at_call 44; refine (c44.out _ hb1).mono ?_; rintro e w2 ⟨rfl, hd⟩; have hb2 := hb1.trans (hd.mono hb1.size); clear hd)
    | (go_at_call 46; refine (c46.out _ hb2).mono ?_; rintro e w3 ⟨v3, rfl, _, hd⟩; have hb3 := hb2.trans (hd.mono hb2.size); clear hd)
    | (go_at_call 25; refine (c25.out _ hb3).mono ?_; rintro e w4 ⟨rfl, hd⟩; have hb4 := hb3.trans (hd.mono hb3.size); clear hd)
    | (go_at_call 27; refine (c27.out _ hb4).mono ?_; rintro e w5 ⟨rfl, hd⟩; have hb5 := hb4.trans (hd.mono hb4.size); clear hd))
  go_ret
  exact ⟨rfl, hb5⟩
end Go.Proofs.Ytoegemlpboeodaa
