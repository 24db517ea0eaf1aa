/- Reverse, and whether two lists of batches are the same. -/
import Derived.Test.YtoegemlpboeodaaApp2
import Derived.Test.YtoegemlpboeodaaPlain10
import Derived.Test.YtoegemlpboeodaaLawF
namespace Go.Proofs.Ytoegemlpboeodaa
open Go.RowKit

theorem keepP {w1 : World} {p q : Addr} {x y : Value} (hp : p.block < w1.heap.size) (z0 : w1.cell? p = some x) (hq : q.block < w1.heap.size) (z1 : w1.cell? q = some y) {W : World} (h : Below w1.heap.size w1 W) :
    W.cell? p = some x ∧ W.cell? q = some y ∧ Below w1.heap.size w1 W := ⟨(h.cell hp).trans z0, (h.cell hq).trans z1, h⟩
theorem rvB_succ {l : List Bt} {k : Nat} (hk : k < l.length) : flat2 (rvB (l.take (k + 1))) = flat2 (rvB (l.take k)) ++ [.int .i64 l[k].2, .int .i64 l[k].1] := by
  rw [List.take_succ_eq_append_getElem hk, rvB, List.map_append, flat2_append]; rfl

set_option maxRecDepth 100000 in
set_option maxHeartbeats 1000000 in
theorem Reverse_any (A : Option Addr) (c B : Nat) (l : List Bt) (w : World) (hB : B ≤ w.heap.size) (h : PairsAt B w A l) (hv : valB l = 0) :
    Calls Try.prog 47 #[.slice A l.length c] w fun e w' => ∃ C d, e = .returned (.tuple #[.slice C l.length d, .int .i64 0]) ∧ PairsAt w'.heap.size w' C (rvB l) ∧ Below w.heap.size w w' := by
  have h7 := (valB_zero hv).1
  have ce := Lib.hid (validate_any A c B l w hB h (by omega))
  rw [hv] at ce
  obtain ⟨i0, hi, hz0, hz1, hz2⟩ := info_parts info30
  clear hv
  go_enter Try.func47, Try.ntmps47
  go_wp2_with (go_at_call 42; refine ce.out.mono ?_; rintro e w1 ⟨rfl, hb1⟩)
  go_loopw [5, 15] (fun out i wr => ∃ k : Nat, k ≤ l.length ∧ i = .int .i64 k ∧ wr.ownsRow w.heap.size 30 2 out k (flat2 (rvB (l.take k))) ∧ Below w.heap.size w wr) (fun _ i _ => l.length - (intOf i).toNat)
  case atStart => exact ⟨0, Nat.zero_le _, rfl, World.ownsRow_nil _ _ _ _, hb1⟩
  case round =>
    obtain ⟨k, hk, rfl, hown, hb⟩ := hrel
    by_cases hlt : k < l.length
    · obtain ⟨b, off, rfl, hbB, c1, c2⟩ := h.at hlt
      have d1 := (hb.cell (p := ⟨b, off + k * 2, none⟩) (by simp; omega)).trans c1
      have d2 := (hb.cell (p := ⟨b, off + k * 2 + 1, none⟩) (by simp; omega)).trans c2
      have hru := Lib.hid (rvB_succ hlt)
      clear c1 c2
      have hb1 := hb.alloc hb.size (.cells #[.int .i64 l[k].1, .int .i64 l[k].2] 30)
      have hb2 := hb1.alloc hb1.size (.cells #[.int .i64 l[k].2, .int .i64 l[k].1] 30)
      have HB := Lib.hid hb2
      have HO := Lib.hid ((hown.alloc (.cells #[.int .i64 l[k].1, .int .i64 l[k].2] 30)).alloc (.cells #[.int .i64 l[k].2, .int .i64 l[k].1] 30))
      clear hb1 hb2
      go_wp2_with (at_builtin; refine wpList_append_own _ rfl _ _ 33 rfl w.heap.size 30 i0 _ 2 16 Try.underlying33 hi hz0 hz1 hz2 rfl (by decide) _ _ _ rfl HO.out ⟨wr.heap.size + 1, 0, none⟩ 1 1 _ rfl rfl (cells_new' _ _ (by simp) _ _) (by simp [Value.oneCell']) (by simp only [maxLen]; omega) (by omega) HB.out.size ?_; intro v' w4 hown4 hg4 _)
      have b4 : Below w.heap.size w w4 := HB.out.grown hg4 HB.out.size (fun j hj => (HO.out.lt j hj).1)
      go_roundw
      case rel => exact ⟨k + 1, by omega, by go_num, by rw [hru.out]; exact hown4, b4⟩
      case measure => simp [intOf]; omega
    · obtain rfl : k = l.length := by omega
      go_wp2_with fail
      go_ret2
      rw [List.take_length, ← rvB_length l] at hown
      obtain ⟨C, d, rfl⟩ := own_form hown
      exact ⟨C, d, by rw [rvB_length]; rfl, PairsAt.of_own hown, hb⟩
theorem Reverse_bad (A : Option Addr) (c B : Nat) (l : List Bt) (w : World) (hB : B ≤ w.heap.size) (h : PairsAt B w A l) (hm : l.length ≤ 1000) (hv : ¬ valB l = 0) :
    Calls Try.prog 47 #[.slice A l.length c] w fun e w' => e = .returned (.tuple #[.slice none 0 0, .int .i64 (valB l)]) ∧ Below w.heap.size w w' := by
  have ce := Lib.hid (validate_any A c B l w hB h hm)
  have hne : (valB l == 0) = false := by simpa using hv
  generalize valB l = e0 at ce hv hne ⊢
  clear hv h
  go_enter Try.func47, Try.ntmps47
  go_wp2_with (go_at_call 42; refine ce.out.mono ?_; rintro e w1 ⟨rfl, hb1⟩)
  go_ret2
  exact ⟨rfl, hb1⟩

set_option maxRecDepth 100000 in
set_option maxHeartbeats 1000000 in
theorem Reverse_ref (A : Option Addr) (c B : Nat) (l : List Bt) (w : World) (hB : B ≤ w.heap.size) (h : PairsAt B w A l) (hv : valB l = 0) :
    Calls Try.prog 48 #[.slice A l.length c] w fun e w' => ∃ C d, e = .returned (.tuple #[.slice C l.length d, .int .i64 0]) ∧ PairsAt w'.heap.size w' C (rvB l) ∧ Below w.heap.size w w' := by
  have h7 := (valB_zero hv).1
  have ce := Lib.hid (validate_ref A c B l w h (by omega))
  rw [hv] at ce
  obtain ⟨i0, hi, hz0, hz1, hz2⟩ := info_parts info30
  clear hv
  go_enter Try.func48, Try.ntmps48
  go_wp2_with (go_at_call 43; refine ce.out.mono ?_; rintro e w1 ⟨rfl, rfl⟩)
  go_loopw [5, 6] (fun out i wr => ∃ k : Nat, k ≤ l.length ∧ i = .int .i64 k ∧ wr.ownsRow w.heap.size 30 2 out k (flat2 (rvB (l.take k))) ∧ Below w.heap.size w wr) (fun _ i _ => l.length - (intOf i).toNat)
  case atStart => exact ⟨0, Nat.zero_le _, rfl, World.ownsRow_nil _ _ _ _, Below.refl _ _⟩
  case round =>
    obtain ⟨k, hk, rfl, hown, hb⟩ := hrel
    by_cases hlt : k < l.length
    · obtain ⟨b, off, rfl, hbB, c1, c2⟩ := h.at hlt
      have d1 := (hb.cell (p := ⟨b, off + k * 2, none⟩) (by simp; omega)).trans c1
      have d2 := (hb.cell (p := ⟨b, off + k * 2 + 1, none⟩) (by simp; omega)).trans c2
      have hru := Lib.hid (rvB_succ hlt)
      have HO := Lib.hid hown
      have hbw : b < w.heap.size := by omega
      have HZ := Lib.hid (And.intro c1 c2)
      clear c1 c2 hown
      go_wp2_with fail
      go_region_held3 (fun W => W.cell? ⟨b, off + k * 2, none⟩ = some (.int .i64 l[k].1) ∧ W.cell? ⟨b, off + k * 2 + 1, none⟩ = some (.int .i64 l[k].2) ∧ Below w.heap.size w W)
        ((refine keepP hbw HZ.out.1 hbw HZ.out.2 ?_; repeat (first | assumption | refine Below.drew ?_ | refine balloc ?_ _)))
        ((refine step_app' _ (by rfl) (.tmp 18) (.tmp 30) 33 (by rfl) w.heap.size 30 i0 _ 2 16 Try.underlying33 hi hz0 hz1 hz2 (by rfl) (by decide) _ k (flat2 (rvB (l.take k))) (by rfl)
            (by repeat (first | exact HO.out | refine World.ownsRow.drew ?_ | refine World.ownsRow.alloc ?_ _))
            _ 1 1 [.int .i64 l[k].2, .int .i64 l[k].1] (by rfl) (by rfl) (by simp)
            (news_blk (t := 30) (cs := #[.int .i64 l[k].2, .int .i64 l[k].1]) (by repeat (first | with_reducible exact blk_new' (by simp) | with_reducible refine Blk.drew ?_ | with_reducible refine Blk.alloc ?_ _)))
            (by simp [Value.oneCell']) (by omega) (by decide) (Below.size (w := w) (B := w.heap.size) (by repeat (first | assumption | refine Below.drew ?_ | refine balloc ?_ _))) (k + 1) (by omega) (flat2 (rvB (l.take (k + 1)))) hru.out.symm ?_; intro A4 c4 w4 hown4 hg4 hlow4; have hb4 : Below w.heap.size w w4 := bgrown (by repeat (first | assumption | refine Below.drew ?_ | refine balloc ?_ _)) hg4 hlow4))
      all_goals
        go_wp2_with fail
        go_roundw
        case rel => exact ⟨k + 1, by omega, by go_num, hown4, hb4⟩
        case measure => simp [intOf]; omega
    · obtain rfl : k = l.length := by omega
      go_wp2_with fail
      go_ret2
      rw [List.take_length, ← rvB_length l] at hown
      obtain ⟨C, d, rfl⟩ := own_form hown
      exact ⟨C, d, by rw [rvB_length]; rfl, PairsAt.of_own hown, hb⟩

theorem Reverse_ref_bad (A : Option Addr) (c B : Nat) (l : List Bt) (w : World) (h : PairsAt B w A l) (hm : l.length ≤ 1000) (hv : ¬ valB l = 0) :
    Calls Try.prog 48 #[.slice A l.length c] w fun e w' => e = .returned (.tuple #[.slice none 0 0, .int .i64 (valB l)]) ∧ w = w' := by
  have ce := Lib.hid (validate_ref A c B l w h hm)
  have hne : (valB l == 0) = false := by simpa using hv
  generalize valB l = e0 at ce hv hne ⊢
  clear hv h
  go_enter Try.func48, Try.ntmps48
  go_wp2_with (go_at_call 43; refine ce.out.mono ?_; rintro e w1 ⟨rfl, rfl⟩)
  go_ret2
  exact ⟨rfl, rfl⟩

set_option maxRecDepth 100000 in
set_option maxHeartbeats 1000000 in
theorem same_eq (A A' : Option Addr) (c c' B : Nat) (l : List Bt) (w : World) (h : PairsAt B w A l) (h' : PairsAt B w A' l) (hm : l.length ≤ 1000) :
    Calls Try.prog 49 #[.slice A l.length c, .slice A' l.length c'] w fun e w' => e = .returned (.bool true) ∧ Below w.heap.size w w' := by
  go_enter Try.func49, Try.ntmps49
  go_wp2_with fail
  go_loopw [5] (fun i wr => ∃ k : Nat, k ≤ l.length ∧ i = .int .i64 k ∧ Drew w wr) (fun i _ => l.length - (intOf i).toNat)
  case atStart => exact ⟨0, Nat.zero_le _, rfl, 0, rfl⟩
  case round =>
    obtain ⟨k, hk, rfl, hb⟩ := hrel
    by_cases hlt : k < l.length
    · obtain ⟨b, off, rfl, hbB, r0, r1⟩ := h.at hlt
      obtain ⟨b', off', rfl, hbB', t0, t1⟩ := h'.at hlt
      have d0 := (hb.cell _).trans r0
      have d1 := (hb.cell _).trans r1
      have e0 := (hb.cell _).trans t0
      have e1 := (hb.cell _).trans t1
      have Hb := Lib.hid hb
      generalize l[k].1 = x0 at d0 e0
      generalize l[k].2 = x1 at d1 e1
      clear hb r0 r1 t0 t1
      go_wp2_with fail
      go_quiet (fail)
      go_wp2_with fail
      go_roundw
      case rel => exact ⟨k + 1, by omega, by go_num, Hb.out.drewN _⟩
      case measure => simp [intOf]; omega
    · obtain rfl : k = l.length := by omega
      go_wp2_with fail
      go_ret
      exact ⟨rfl, hb.below _⟩

end Go.Proofs.Ytoegemlpboeodaa
