/- The closure that searches. -/
import Derived.Test.YtoegemlpboeodaaKitJ
import Derived.Test.YtoegemlpboeodaaSlices
namespace Go.Proofs.Ytoegemlpboeodaa
open Go.RowKit

theorem Srch.cells {w0 W : World} {lv : Value} {n : Nat} {p F : List Int} {L : Int} (h : Srch w0 lv n p L F W) :
    W.cell? ⟨w0.heap.size, 0, none⟩ = some lv ∧ W.cell? ⟨w0.heap.size + 2, 0, none⟩ = some (.int .i64 L) ∧ W.cell? ⟨w0.heap.size + 4, 0, none⟩ = some (.slice (some ⟨w0.heap.size + 3, 0, none⟩) p.length n) ∧ W.cell? ⟨w0.heap.size + 5, 0, none⟩ = some (srchF w0.heap.size) :=
  ⟨h.bl.cell 0, h.bm.cell 0, h.bo.cell 0, h.bt.cell 0⟩
theorem Srch.free {w0 W : World} {lv : Value} {n : Nat} {p F : List Int} {L : Int} (h : Srch w0 lv n p L F W) :
    W.frozen? ⟨w0.heap.size + 1, 0, none⟩ = false ∧ W.frozen? ⟨w0.heap.size + 2, 0, none⟩ = false ∧ W.frozen? ⟨w0.heap.size + 4, 0, none⟩ = false :=
  ⟨let ⟨_, hv, _⟩ := h.bf; hv.frozen 0, h.bm.frozen 0, h.bo.frozen 0⟩
theorem Srch.fcell {w0 W : World} {lv : Value} {n : Nat} {p F : List Int} {L : Int} (h : Srch w0 lv n p L F W) : ∃ v, W.cell? ⟨w0.heap.size + 1, 0, none⟩ = some v :=
  let ⟨v, hv, _⟩ := h.bf; ⟨v, hv.cell 0⟩

set_option maxRecDepth 100000 in
set_option maxHeartbeats 2000000 in
theorem try_any (w0 : World) (A : Option Addr) (c : Nat) (l : List Bt) (hv : valB l = 0) (hA : PairsAt w0.heap.size w0 A l) : ∀ (m : Nat) (p : List Int) (cook en L : Int) (F : List Int) (W : World), p.length + m = l.length → 0 ≤ cook → cook ≤ 1000 * p.length → 0 ≤ en → en ≤ 2000 * p.length →
    Srch w0 (.slice A l.length c) l.length p L F W →
    Calls Try.prog 77 #[.int .i64 cook, .int .i64 en, .pointer (some ⟨w0.heap.size + 2, 0, none⟩), .pointer (some ⟨w0.heap.size + 4, 0, none⟩), .pointer (some ⟨w0.heap.size, 0, none⟩), .pointer (some ⟨w0.heap.size + 1, 0, none⟩), .pointer (some ⟨w0.heap.size + 5, 0, none⟩)] W
      fun e w' => e = .returned (.tuple #[]) ∧ Srch w0 (.slice A l.length c) l.length p (tryS l m p cook en (L, F)).1 (tryS l m p cook en (L, F)).2 w' := by
  have h7 := (valB_zero hv).1
  intro m
  induction m with
  | zero =>
    intro p cook en L F W hl c0 c1 e0 e1 hS
    obtain ⟨k0, k1, k2, k3⟩ := hS.cells
    obtain ⟨f0, f1, f2⟩ := hS.free
    obtain ⟨v0, k4⟩ := hS.fcell
    have HS := Lib.hid hS
    have ci := Lib.hid (clone_any _ l.length W.heap.size p W (by omega) (IntsAt.of_own hS.row))
    have hpl : ((p.length : Int) == (l.length : Int)) = true := by simp; omega
    have hp7 : p.length ≤ 7 := by omega
    have hs := hS.size
    clear hl
    clear hS c0 c1
    have ht : (0 ≤ L ∧ L ≤ en) ∨ ¬ (0 ≤ L ∧ L ≤ en) := Classical.em _
    rcases ht with ht | ht
    · have hr := Lib.hid (show tryS l 0 p cook en (L, F) = (L, F) by rw [tryS]; exact if_pos ht)
      obtain ⟨t0, t1⟩ := ht
      have t2 : decide (0 ≤ L) = true := by simpa using t0
      have t3 : decide (L ≤ en) = true := by simpa using t1
      go_enter Try.func77, Try.ntmps77
      go_wp2_with fail
      refine bodyPost_ret (results_none rfl _ _ _) rfl ?_
      exact ⟨rfl, by rw [hr.out]; exact HS.out⟩
    · have hr := Lib.hid (show tryS l 0 p cook en (L, F) = (en, p) by rw [tryS]; exact if_neg ht)
      have t0 : (0 ≤ L ∧ decide (0 ≤ L) = true ∧ decide (L ≤ en) = false) ∨ (L < 0 ∧ decide (0 ≤ L) = false ∧ L < 0) := by
        rcases Int.lt_or_le L 0 with h | h
        · exact .inr ⟨h, by simpa using h, h⟩
        · exact .inl ⟨h, by simpa using h, by simp; omega⟩
      clear ht
      rcases t0 with ⟨t1, t2, t3⟩ | ⟨t1, t2, t3⟩
      all_goals
        go_enter Try.func77, Try.ntmps77
        go_wp2_with (go_at_call 78; refine ci.out.mono ?_; rintro e W1 ⟨v, rfl, hrow, hb⟩; obtain ⟨A9, c9, rfl⟩ := own_form hrow; have g0 := (hb.cell (p := ⟨w0.heap.size + 1, 0, none⟩) (by simp; omega)).trans k4; have g1 := (hb.cell (p := ⟨w0.heap.size + 2, 0, none⟩) (by simp; omega)).trans k1; have g2 := (hb.frozen (p := ⟨w0.heap.size + 1, 0, none⟩) (by simp; omega)).trans f0; have g3 := (hb.frozen (p := ⟨w0.heap.size + 2, 0, none⟩) (by simp; omega)).trans f1)
        refine bodyPost_ret (results_none rfl _ _ _) rfl ?_
        exact ⟨rfl, by rw [hr.out]; exact HS.out.found hb hrow⟩
  | succ m ih =>
    intro p cook en L F W hl c0 c1 e0 e1 hS
    obtain ⟨k0, k1, k2, k3⟩ := hS.cells
    have HS := Lib.hid hS
    have hpl : ((p.length : Int) == (l.length : Int)) = false := by rw [beq_eq_false_iff_ne]; omega
    have hp7 : p.length ≤ 7 := by omega
    have hs := hS.size
    have ht : (0 ≤ L ∧ L ≤ en) ∨ ¬ (0 ≤ L ∧ L ≤ en) := Classical.em _
    have IH := Lib.hid ih
    clear ih
    rcases ht with ht | ht
    · have hr := Lib.hid (show tryS l (m + 1) p cook en (L, F) = (L, F) by rw [tryS]; exact if_pos ht)
      obtain ⟨t0, t1⟩ := ht
      have t2 : decide (0 ≤ L) = true := by simpa using t0
      have t3 : decide (L ≤ en) = true := by simpa using t1
      clear hS
      go_enter Try.func77, Try.ntmps77
      go_wp2_with fail
      refine bodyPost_ret (results_none rfl _ _ _) rfl ?_
      exact ⟨rfl, by rw [hr.out]; exact HS.out⟩
    · have hr := Lib.hid (tryTo_all l m p cook en (L, F) ht)
      have t0 : (0 ≤ L ∧ decide (0 ≤ L) = true ∧ decide (L ≤ en) = false) ∨ (L < 0 ∧ decide (0 ≤ L) = false ∧ L < 0) := by
        rcases Int.lt_or_le L 0 with h | h
        · exact .inr ⟨h, by simpa using h, h⟩
        · exact .inl ⟨h, by simpa using h, by simp; omega⟩
      clear ht hS
      rcases t0 with ⟨t1, t2, t3⟩ | ⟨t1, t2, t3⟩
      all_goals
        go_enter Try.func77, Try.ntmps77
        go_wp2_with fail
        clear t1 t2 t3 k0 k1 k2 k3
        go_loopw [28] (fun i wr => ∃ k : Nat, k ≤ l.length ∧ i = .int .i64 k ∧ Srch w0 (.slice A l.length c) l.length p (tryTo l m p cook en (L, F) k).1 (tryTo l m p cook en (L, F) k).2 wr) (fun i _ => l.length - (intOf i).toNat)
        case atStart => exact ⟨0, Nat.zero_le _, rfl, HS.out⟩
        case round =>
          obtain ⟨k, hk, rfl, hS⟩ := hrel
          by_cases hlt : k < l.length
          · have hs := hS.size
            obtain ⟨b, off, rfl, hb, c0', c1'⟩ := hA.at hlt
            have g0 := (hS.old.cell (p := ⟨b, off + k * 2, none⟩) hb).trans c0'
            have g1 := (hS.old.cell (p := ⟨b, off + k * 2 + 1, none⟩) hb).trans c1'
            obtain ⟨k0, k1, k2, k3⟩ := hS.cells
            have HSk := Lib.hid hS
            have Hst := Lib.hid (show tryTo l m p cook en (L, F) (k + 1) = if p.contains (k : Int) then tryTo l m p cook en (L, F) k else tryS l m (p ++ [(k : Int)]) (cook + (bt l (k : Int)).1) (max (cook + (bt l (k : Int)).1) en + (bt l (k : Int)).2) (tryTo l m p cook en (L, F) k) from tryTo_succ l m p cook en (L, F) hlt)
            have hbx := (valB_zero hv).2 l[k] (List.getElem_mem hlt)
            rw [show bt l (k : Int) = l[k] by rw [bt_get (by omega) (by omega)]; rfl] at Hst
            generalize tryTo l m p cook en (L, F) k = sk at *
            generalize l[k] = x at *
            clear hS c0' c1'
            have q0 : w0.heap.size < wr.heap.size := by omega
            have q4 : w0.heap.size + 4 < wr.heap.size := by omega
            have q5 : w0.heap.size + 5 < wr.heap.size := by omega
            have hwb : Below wr.heap.size wr (wr.alloc (.cells #[.int .i64 x.1, .int .i64 x.2] 30)) := (Below.refl _ _).alloc (Nat.le_refl _) _
            have ci := contains_any (some ⟨w0.heap.size + 3, 0, none⟩) l.length wr.heap.size p (k : Int) (wr.alloc (.cells #[.int .i64 x.1, .int .i64 x.2] 30)) (by omega) ((IntsAt.of_own HSk.out.row).below hwb (Nat.le_refl _))
            cases hct : p.contains (k : Int)
            · rw [hct] at ci Hst
              have Ci := Lib.hid ci
              have hpush : ∀ w4 : World, w4.ownsRow (w0.heap.size + 3) 3 1 (.slice (some ⟨w0.heap.size + 3, 0, none⟩) (p.length + 1) l.length) (p.length + 1) (p.map (Value.int .i64) ++ [.int .i64 (k : Int)]) →
                    ((wr.alloc (.cells #[.int .i64 x.1, .int .i64 x.2] 30)).alloc (.cells #[.int .i64 (k : Int)] 3)).grownBy w4 (some (w0.heap.size + 3)) →
                    Srch w0 (.slice (some ⟨b, off, none⟩) l.length c) l.length (p ++ [(k : Int)]) sk.1 sk.2 (w4.setCell ⟨w0.heap.size + 4, 0, none⟩ (.slice (some ⟨w0.heap.size + 3, 0, none⟩) (p.length + 1) l.length)) ∧
                    w4.frozen? ⟨w0.heap.size + 4, 0, none⟩ = false ∧ w4.cell? ⟨w0.heap.size + 5, 0, none⟩ = some (srchF w0.heap.size) ∧ w4.cell? ⟨wr.heap.size, 0, none⟩ = some (.int .i64 x.1) ∧ w4.cell? ⟨wr.heap.size, 1, none⟩ = some (.int .i64 x.2) ∧ w4.cell? ⟨w0.heap.size + 4, 0, none⟩ = some (.slice (some ⟨w0.heap.size + 3, 0, none⟩) p.length l.length) := by
                intro w4 hr hg
                have hb2 : Below wr.heap.size wr ((wr.alloc (.cells #[.int .i64 x.1, .int .i64 x.2] 30)).alloc (.cells #[.int .i64 (k : Int)] 3)) := ((Below.refl _ _).alloc (Nat.le_refl _) _).alloc (by simp) _
                have h2 := HSk.out.below hb2
                have ne : ∀ {k : Nat}, k ≠ w0.heap.size + 3 → some k ≠ some (w0.heap.size + 3) := fun hk e => hk (by injection e)
                have hB := (((Blk.new wr 30 #[.int .i64 x.1, .int .i64 x.2]).alloc (.cells #[.int .i64 (k : Int)] 3)).grown hg (ne (by omega)))
                exact ⟨h2.push hr hg, (h2.bo.grown hg (ne (by omega))).frozen 0, (h2.bt.grown hg (ne (by omega))).cell 0, hB.cell 0, hB.cell 1, (h2.bo.grown hg (ne (by omega))).cell 0⟩
              have HP := Lib.hid hpush
              have HR := Lib.hid HSk.out.row
              clear hpush ci hwb hct
              have ne4 : ¬ w0.heap.size + 4 = wr.heap.size := by omega
              have ne4' : ¬ wr.heap.size = w0.heap.size + 4 := by omega
              obtain ⟨i0, hi, hz0, hz1, hz2⟩ := info_parts info3
              have r2 := hp7
              go_wp2_with (first
                | (go_at_call 79; refine Ci.out.mono ?_; rintro e W1 ⟨rfl, rfl⟩)
                | (at_builtin; refine wpList_append_fits _ rfl _ _ 34 rfl (w0.heap.size + 3) 3 i0 1 Try.underlying34 hi hz1 (w0.heap.size + 3) p.length l.length (p.map (Value.int .i64)) rfl ((HR.out.alloc _).alloc _) ⟨wr.heap.size + 1, 0, none⟩ 1 1 [.int .i64 (k : Int)] rfl rfl (cells_new' _ _ (by simp) _ _) (by simp [Value.oneCell']) (by omega) ?_; intro w4 hown4 hg4; obtain ⟨hS4, z1, z2, z3, z4, z5⟩ := HP.out w4 hown4 hg4; have HS4 := Lib.hid hS4; clear hS4; simp only [srchF] at z2)
                | (go_at_call 77; refine (IH.out (p ++ [(k : Int)]) (cook + x.1) (max (cook + x.1) en + x.2) sk.1 sk.2 _ (by simp; omega) (by omega) (by simp; omega) (by omega) (by simp; omega) HS4.out).mono ?_; rintro e W5 ⟨rfl, hS5⟩; obtain ⟨y0, y1, y2, y3⟩ := hS5.cells; obtain ⟨y4, y5, y6⟩ := hS5.free; have HS5 := Lib.hid hS5; clear hS5; simp only [List.length_append, List.length_singleton] at y2))
              go_roundw
              case rel => exact ⟨k + 1, by omega, by go_num, by rw [Hst.out.trans (if_neg Bool.false_ne_true)]; exact HS5.out.pop⟩
              case measure => simp [intOf]; omega
            · rw [hct] at ci Hst
              have Ci := Lib.hid ci
              have Hb := Lib.hid hwb
              clear ci hwb hct
              go_wp2_with (go_at_call 79; refine Ci.out.mono ?_; rintro e W1 ⟨rfl, rfl⟩)
              go_roundw
              case rel => exact ⟨k + 1, by omega, by go_num, by rw [Hst.out.trans (if_pos trivial)]; exact HSk.out.below Hb.out⟩
              case measure => simp [intOf]; omega
          · obtain rfl : k = l.length := by omega
            rw [hr.out] at hS
            have HS2 := Lib.hid hS
            clear hS
            go_wp2_with fail
            first
              | go_end0; exact ⟨rfl, HS2.out⟩
              | (refine bodyPost_ret (results_none rfl _ _ _) rfl ?_; exact ⟨rfl, HS2.out⟩)
end Go.Proofs.Ytoegemlpboeodaa
