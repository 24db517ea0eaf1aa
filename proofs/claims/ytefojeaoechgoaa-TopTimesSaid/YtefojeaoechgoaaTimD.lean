/- reason, asked, Known. -/
import Derived.Test.YtefojeaoechgoaaTimC
import Derived.Laws.Rows
namespace Go.Proofs.Ytefojeaoechgoaa
open Go.RowKit

set_option maxRecDepth 100000 in
set_option maxHeartbeats 1000000 in
theorem reason_any (A : Option Addr) (c B : Nat) (l : List Fc) (at_ ch d : Int) (w : World) (hB : B ≤ w.heap.size) (h : FactsAt B w A l) (hok : Ok l) (hc : l.length ≤ c) (hc2 : c ≤ maxLen) :
    Calls Try.prog 16 #[.slice A l.length c, .int .i64 at_, .int .i64 ch, .int .i64 d] w fun e w' => ∃ x0 x1 x2 x3 z, e = .returned (.agg #[x0, x1, x2, x3, .int .i64 (mealOf (unt l at_) ch d), z]) ∧ Below w.heap.size w w' := by
  have h60 := hok.1
  have hI := RecAt.below h (Below.refl _ _) hB
  have cu := Lib.hid (fun W (hW : Below w.heap.size w W) => until_any A c w.heap.size l at_ W hW.size (RecAt.below hI hW (Nat.le_refl _)) hok hc hc2)
  have hn := cnt_le l at_
  have hU := unt_at hI at_
  have hul := unt_length l at_
  generalize cnt l at_ = n at cu hn hul
  generalize unt l at_ = u at hU hul ⊢
  subst hul
  clear h hI
  have hw0 : ∀ cs, Below w.heap.size w (w.alloc (.cells cs 46)) := fun cs => (Below.refl _ _).alloc (Nat.le_refl _) _
  go_enter Try.func16, Try.ntmps16
  have HB0 := Lib.hid (Blk.new w 46 #[.int .i64 0, .int .i64 0, .int .i64 0, .int .i64 0, .int .i64 0, .int .i64 0])
  go_wp2_with (go_at_call 19; refine (cu.out _ (hw0 _)).mono ?_; rintro e w1 ⟨rfl, hd⟩; have hb1 := (hw0 #[.int .i64 0, .int .i64 0, .int .i64 0, .int .i64 0, .int .i64 0, .int .i64 0]).trans (hd.mono (hw0 _).size); have HB1 := HB0.out.below hd (by simp))
  clear cu hw0
  go_loopw [10] (fun i wr => ∃ k : Nat, k ≤ u.length ∧ i = .int .i64 ((k : Int) - 1) ∧ (∀ j (hj : j < u.length), k ≤ j → cov u[j] ch d = false) ∧ Below w.heap.size w wr ∧ Blk wr w.heap.size 46 #[.int .i64 0, .int .i64 0, .int .i64 0, .int .i64 0, .int .i64 0, .int .i64 0]) (fun i _ => (intOf i + 1).toNat)
  case atStart => exact ⟨u.length, Nat.le_refl _, rfl, fun j hj hk => by omega, hb1, HB1⟩
  case round =>
    obtain ⟨k, hk, rfl, hnc, hb, hblk⟩ := hrel
    cases k with
    | succ m =>
      have hlt : m < u.length := by omega
      obtain ⟨b, off, rfl, hbB, c0, c1, c2, c3, c4⟩ := hU.at hlt
      have d0 := (hb.cell (p := ⟨b, off + m * 5, none⟩) (by simp; omega)).trans c0
      have d1 := (hb.cell (p := ⟨b, off + m * 5 + 1, none⟩) (by simp; omega)).trans c1
      have d2 := (hb.cell (p := ⟨b, off + m * 5 + 2, none⟩) (by simp; omega)).trans c2
      have d3 := (hb.cell (p := ⟨b, off + m * 5 + 3, none⟩) (by simp; omega)).trans c3
      have d4 := (hb.cell (p := ⟨b, off + m * 5 + 4, none⟩) (by simp; omega)).trans c4
      have e1 : ((m + 1 : Nat) : Int) - 1 = (m : Int) := by omega
      rw [e1]
      have hbw : b < wr.heap.size := by have := hb.size; omega
      have Hnc := Lib.hid hnc
      have HBk := Lib.hid hblk
      have cc := Lib.hid (covers_any u[m] ch d wr)
      clear c0 c1 c2 c3 c4 e1 hnc
      cases hcv : cov u[m] ch d with
      | false =>
        rw [hcv] at cc
        have Hcv := Lib.hid hcv
        clear hcv
        go_wp2_with (go_at_call 24; refine cc.out.mono ?_; rintro e w2 ⟨rfl, hb2⟩)
        go_roundw
        case rel =>
          refine ⟨m, by omega, by go_num, fun j hj hkj => ?_, hb.trans (hb2.mono hb.size), HBk.out.below hb2 HBk.out.lt⟩
          by_cases hjm : j = m
          · subst hjm; exact Hcv.out
          · exact Hnc.out j hj (by omega)
        case measure => simp [intOf]
      | true =>
        rw [hcv] at cc
        have Hm := Lib.hid (mealOf_last hlt hcv (fun i hi hki => Hnc.out i hi (by omega)))
        clear hcv
        go_wp2_with (go_at_call 24; refine cc.out.mono ?_; rintro e w2 ⟨rfl, hb2⟩; have HB2 := HBk.out.below hb2 HBk.out.lt; obtain ⟨z0, z1, z2, z3, z4, z5, f0, f1, f2, f3, f4, f5⟩ := blk6 HB2; have g0 := (hb2.cell (p := ⟨b, off + m * 5, none⟩) hbw).trans d0; have g1 := (hb2.cell (p := ⟨b, off + m * 5 + 1, none⟩) hbw).trans d1; have g2 := (hb2.cell (p := ⟨b, off + m * 5 + 2, none⟩) hbw).trans d2; have g3 := (hb2.cell (p := ⟨b, off + m * 5 + 3, none⟩) hbw).trans d3; have g4 := (hb2.cell (p := ⟨b, off + m * 5 + 4, none⟩) hbw).trans d4)
        have hb3 := hb.trans (hb2.mono hb.size)
        have on3 : Only w.heap.size w2 ((((((w2.setCell ⟨w.heap.size, 0, none⟩ (.int .i64 u[m].a)).setCell ⟨w.heap.size, 1, none⟩ (.int .i64 u[m].c)).setCell ⟨w.heap.size, 2, none⟩ (.int .i64 u[m].f)).setCell ⟨w.heap.size, 3, none⟩ (.int .i64 u[m].t)).setCell ⟨w.heap.size, 4, none⟩ (.int .i64 u[m].m)).setCell ⟨w.heap.size, 5, none⟩ (.int .i64 (m : Int))) := ((((((Only.refl _ _).put 0 _).put 1 _).put 2 _).put 3 _).put 4 _).put 5 _
        have HB3 : Blk ((((((w2.setCell ⟨w.heap.size, 0, none⟩ (.int .i64 u[m].a)).setCell ⟨w.heap.size, 1, none⟩ (.int .i64 u[m].c)).setCell ⟨w.heap.size, 2, none⟩ (.int .i64 u[m].f)).setCell ⟨w.heap.size, 3, none⟩ (.int .i64 u[m].t)).setCell ⟨w.heap.size, 4, none⟩ (.int .i64 u[m].m)).setCell ⟨w.heap.size, 5, none⟩ (.int .i64 (m : Int))) w.heap.size 46 #[.int .i64 u[m].a, .int .i64 u[m].c, .int .i64 u[m].f, .int .i64 u[m].t, .int .i64 u[m].m, .int .i64 (m : Int)] := by
          simpa using (((((HB2.put 0 (.int .i64 u[m].a)).put 1 (.int .i64 u[m].c)).put 2 (.int .i64 u[m].f)).put 3 (.int .i64 u[m].t)).put 4 (.int .i64 u[m].m)).put 5 (.int .i64 (m : Int))
        refine bodyPost_ret (results_cell_row rfl _ _ w.heap.size 46 _ (0, 0) _ rfl HB3 Try.underlying46 rfl (by kernel_rfl)) rfl ?_
        exact ⟨_, _, _, _, _, by rw [Hm.out], hb3.trans (on3.below (Nat.le_refl _) hb3.size)⟩
    | zero =>
      have H0 := Lib.hid (mealOf_none (l := u) (ch := ch) (d := d) fun x hx => by
        obtain ⟨i, hi, rfl⟩ := List.getElem_of_mem hx
        exact hnc i hi (Nat.zero_le _))
      have HB2 := hblk
      obtain ⟨z0, z1, z2, z3, z4, z5, f0, f1, f2, f3, f4, f5⟩ := blk6 hblk
      clear hnc
      go_wp2_with fail
      have on3 : Only w.heap.size wr ((((((wr.setCell ⟨w.heap.size, 0, none⟩ (.int .i64 0)).setCell ⟨w.heap.size, 1, none⟩ (.int .i64 0)).setCell ⟨w.heap.size, 2, none⟩ (.int .i64 0)).setCell ⟨w.heap.size, 3, none⟩ (.int .i64 0)).setCell ⟨w.heap.size, 4, none⟩ (.int .i64 0)).setCell ⟨w.heap.size, 5, none⟩ (.int .i64 (-1))) := ((((((Only.refl _ _).put 0 _).put 1 _).put 2 _).put 3 _).put 4 _).put 5 _
      have HB3 : Blk ((((((wr.setCell ⟨w.heap.size, 0, none⟩ (.int .i64 0)).setCell ⟨w.heap.size, 1, none⟩ (.int .i64 0)).setCell ⟨w.heap.size, 2, none⟩ (.int .i64 0)).setCell ⟨w.heap.size, 3, none⟩ (.int .i64 0)).setCell ⟨w.heap.size, 4, none⟩ (.int .i64 0)).setCell ⟨w.heap.size, 5, none⟩ (.int .i64 (-1))) w.heap.size 46 #[.int .i64 0, .int .i64 0, .int .i64 0, .int .i64 0, .int .i64 0, .int .i64 (-1)] := by
        simpa using (((((HB2.put 0 (.int .i64 0)).put 1 (.int .i64 0)).put 2 (.int .i64 0)).put 3 (.int .i64 0)).put 4 (.int .i64 0)).put 5 (.int .i64 (-1))
      refine bodyPost_ret (results_cell_row rfl _ _ w.heap.size 46 _ (0, 0) _ rfl HB3 Try.underlying46 rfl (by kernel_rfl)) rfl ?_
      exact ⟨_, _, _, _, _, by rw [H0.out], hb.trans (on3.below (Nat.le_refl _) hb.size)⟩

set_option maxHeartbeats 1000000 in
theorem asked_ok (A : Option Addr) (c B : Nat) (l : List Fc) (b : Bool) (w : World) (hB : B ≤ w.heap.size) (h : FactsAt B w A l) (hok : Ok l) :
    Calls Try.prog 13 #[.slice A l.length c, .bool b] w fun e w' => e = .returned (.int .i64 (if b then 0 else 1)) ∧ Below w.heap.size w w' := by
  have h60 := hok.1
  have cv := Lib.hid (Validate_ok A c B l w hB h (by omega) hok)
  clear h
  cases b
  · go_enter Try.func13, Try.ntmps13
    go_wp2_with (go_at_call 17; refine cv.out.mono ?_; rintro e w1 ⟨rfl, hb1⟩)
    go_ret
    exact ⟨rfl, hb1⟩
  · go_enter Try.func13, Try.ntmps13
    go_wp2_with (go_at_call 17; refine cv.out.mono ?_; rintro e w1 ⟨rfl, hb1⟩)
    go_ret
    exact ⟨rfl, hb1⟩

theorem fld46 (x0 x1 x2 x3 x4 x5 : Value) (W : World) : Sem.run Try.prog (Instr.field 46 (.agg #[x0, x1, x2, x3, x4, x5]) 0) W = .ok (.agg #[x0, x1, x2, x3, x4]) W := by kernel_rfl
theorem fld24 (x0 x1 x2 x3 : Value) (x4 : Int) (W : World) : Sem.run Try.prog (Instr.field 24 (.agg #[x0, x1, x2, x3, .int .i64 x4]) 4) W = .ok (.int .i64 x4) W := by kernel_rfl
/-- What Known returns. -/
def knE (ch d : Int) : Int := if isCh ch && isDy d then 0 else 1
def knR (l : List Fc) (at_ ch d : Int) : Int := if isCh ch && isDy d then mealOf (unt l at_) ch d else 0
set_option maxRecDepth 100000 in
set_option maxHeartbeats 1000000 in
theorem Known_any (A : Option Addr) (c B : Nat) (l : List Fc) (at_ ch d : Int) (w : World) (hB : B ≤ w.heap.size) (h : FactsAt B w A l) (hok : Ok l) (hc : l.length ≤ c) (hc2 : c ≤ maxLen) :
    Calls Try.prog 4 #[.slice A l.length c, .int .i64 at_, .int .i64 ch, .int .i64 d] w fun e w' => e = .returned (.tuple #[.int .i64 (knR l at_ ch d), .int .i64 (knE ch d)]) ∧ Below w.heap.size w w' := by
  have hI := RecAt.below h (Below.refl _ _) hB
  have ca := Lib.hid (asked_ok A c B l (isCh ch && isDy d) w hB h hok)
  have cr := Lib.hid (fun W (hW : Below w.heap.size w W) => reason_any A c w.heap.size l at_ ch d W hW.size (RecAt.below hI hW (Nat.le_refl _)) hok hc hc2)
  have c14 := Lib.hid (isChild_any ch)
  have c15 := Lib.hid (isDay_any d)
  have Hr := Lib.hid (show knR l at_ ch d = (if isCh ch && isDy d then mealOf (unt l at_) ch d else 0) ∧ knE ch d = (if isCh ch && isDy d then 0 else 1) from ⟨rfl, rfl⟩)
  rw [Hr.out.1, Hr.out.2]
  generalize mealOf (unt l at_) ch d = ml at cr ⊢
  generalize isCh ch = b1 at ca c14 ⊢
  generalize isDy d = b2 at ca c15 ⊢
  clear h hI Hr hc hc2
  have q46 := fld46
  have q24 := fld24
  cases b1 <;> cases b2
  all_goals
    simp only [Bool.and_true, Bool.and_false, Bool.false_eq_true, if_true, if_false] at ca ⊢
    go_enter Try.func4, Try.ntmps4
    go_wp2_with (first
      | (go_at_call 14; refine (c14.out _).mono ?_; rintro e w1 ⟨rfl, rfl⟩)
      | (go_at_call 15; refine (c15.out _).mono ?_; rintro e w1 ⟨rfl, rfl⟩)
      | (go_at_call 13; refine ca.out.mono ?_; rintro e w1 ⟨rfl, hb1⟩)
      | (go_at_call 16; refine (cr.out _ hb1).mono ?_; rintro e w2 ⟨x0, x1, x2, x3, z, rfl, hd⟩; have hb2 := hb1.trans (hd.mono hb1.size)))
    go_ret2
    first
      | exact ⟨rfl, hb2⟩
      | exact ⟨rfl, hb1⟩
end Go.Proofs.Ytefojeaoechgoaa
