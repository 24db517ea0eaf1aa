/- The shifts of an order: the program's run and the reference's. -/
import Derived.Test.YtoegemlpboeodaaKitB
import Derived.Test.YtoegemlpboeodaaBase2
import Derived.Test.YtoegemlpboeodaaPlain2
import Derived.StillTailTactics
namespace Go.Proofs.Ytoegemlpboeodaa
open Go.RowKit

theorem info54 : (Try.prog.info? 54).map (fun i => (i.zero, i.size, i.bytes)) = some (some (.agg #[.int .i64 0, .int .i64 0, .int .i64 0, .int .i64 0, .int .i64 0]), 5, 40) := by kernel_rfl

set_option maxRecDepth 100000 in
set_option maxHeartbeats 1000000 in
theorem run_any (A A' : Option Addr) (c c' B : Nat) (l : List Bt) (o : List Int) (w : World) (hB : B ≤ w.heap.size) (h : PairsAt B w A l) (h' : IntsAt B w A' o) (hv : valB l = 0) (hp : o.Perm (iota l.length)) :
    Calls Try.prog 64 #[.slice A l.length c, .slice A' o.length c'] w fun e w' => ∃ v, e = .returned v ∧ w'.ownsRow w.heap.size 54 5 v (runS l o).length ((runS l o).flatMap fun r => r.map (Value.int .i64)) ∧ Below w.heap.size w w' := by
  have h7 := (valB_zero hv).1
  have ho := ord_length hp
  have ho7 : o.length ≤ 7 := by omega
  clear ho
  obtain ⟨i0, hi, hz0, hz1, hz2⟩ := info_parts info54
  go_enter Try.func64, Try.ntmps64
  go_wp2
  go_loopw [5, 11] (fun out i wr => ∃ k : Nat, k ≤ o.length ∧ i = .int .i64 k ∧ wr.ownsRow (w.heap.size + 1) 54 5 out (runAt l o k).length ((runAt l o k).flatMap fun r => r.map (Value.int .i64)) ∧ Below w.heap.size w wr ∧ w.heap.size + 1 ≤ wr.heap.size ∧
      ∃ x0 x1 x3, Blk wr w.heap.size 54 #[.int .i64 x0, .int .i64 x1, .int .i64 (stAt l o k).1, .int .i64 x3, .int .i64 (stAt l o k).2]) (fun _ i _ => o.length - (intOf i).toNat)
  case atStart => exact ⟨0, Nat.zero_le _, rfl, World.ownsRow_nil _ _ _ _, (Below.refl _ _).alloc (Nat.le_refl _) _, by simp, 0, 0, 0, Blk.new _ _ _⟩
  case round =>
    obtain ⟨k, hk, rfl, hown, hb, hsz, x0, x1, x3, hblk⟩ := hrel
    have hbd := stAt_bd hv hk
    by_cases hlt : k < o.length
    · obtain ⟨m, b, off, b', off', hm, hml, rfl, rfl, hbB, hbB', c0, c1, c2⟩ := ord_cells h h' hp hlt
      have d0 := (hb.cell (p := ⟨b', off' + k, none⟩) (by simp; omega)).trans c0
      have d1 := (hb.cell (p := ⟨b, off + m * 2, none⟩) (by simp; omega)).trans c1
      have d2 := (hb.cell (p := ⟨b, off + m * 2 + 1, none⟩) (by simp; omega)).trans c2
      obtain ⟨f0, f1, f2, f3, f4, z0, z1, z2, z3, z4⟩ := blk5 hblk
      have hbt := bt_bd hv o[k]
      have hs := Lib.hid (stAt_succ l o hlt)
      have hru := Lib.hid (runAt_succ l o hlt)
      have Hm := Lib.hid hm
      clear hm c0 c1 c2
      go_wp2_with fail
      obtain ⟨W1, hW1⟩ : ∃ W1, ((((wr.setCell ⟨w.heap.size, 0, none⟩ (.int .i64 (m : Int))).setCell ⟨w.heap.size, 1, none⟩ (.int .i64 (stAt l o k).1)).setCell ⟨w.heap.size, 2, none⟩ (.int .i64 0)).setCell ⟨w.heap.size, 3, none⟩ (.int .i64 0)).setCell ⟨w.heap.size, 4, none⟩ (.int .i64 (stAt l o k).2) = W1 := ⟨_, rfl⟩
      rw [hW1]
      have on1 : Only w.heap.size wr W1 := by rw [← hW1]; exact (((((Only.refl _ _).put 0 _).put 1 _).put 2 _).put 3 _).put 4 _
      have hblk1 : Blk W1 w.heap.size 54 #[.int .i64 (m : Int), .int .i64 (stAt l o k).1, .int .i64 0, .int .i64 0, .int .i64 (stAt l o k).2] := by
        rw [← hW1]; simpa using ((((hblk.put 0 _).put 1 _).put 2 _).put 3 _).put 4 _
      have e1 := (on1.cell (p := ⟨b, off + m * 2, none⟩) (by have := hb.size; simp; omega) (by simp; omega)).trans d1
      have e2 := (on1.cell (p := ⟨b, off + m * 2 + 1, none⟩) (by have := hb.size; simp; omega) (by simp; omega)).trans d2
      clear hW1 f0 f1 f2 f3 f4 z0 z1 z2 z3 z4 d0 d1 d2
      obtain ⟨f0, f1, f2, f3, f4, z0, z1, z2, z3, z4⟩ := blk5 hblk1
      go_region
      go_wp2_with fail
      obtain ⟨W2, hW2⟩ : ∃ W2, ((W1.setCell ⟨w.heap.size, 2, none⟩ (.int .i64 ((stAt l o k).1 + (bt l o[k]).1))).setCell ⟨w.heap.size, 3, none⟩ (.int .i64 (max ((stAt l o k).1 + (bt l o[k]).1) (stAt l o k).2))).drew = W2 := ⟨_, rfl⟩
      rw [hW2]
      have on2 : Only w.heap.size wr W2 := by rw [← hW2]; exact ((on1.put 2 _).put 3 _).drew
      have hblk2 : Blk W2 w.heap.size 54 #[.int .i64 (m : Int), .int .i64 (stAt l o k).1, .int .i64 ((stAt l o k).1 + (bt l o[k]).1), .int .i64 (max ((stAt l o k).1 + (bt l o[k]).1) (stAt l o k).2), .int .i64 (stAt l o k).2] := by
        rw [← hW2]; simpa using ((hblk1.put 2 _).put 3 _).drew
      have g2 := (on2.cell (p := ⟨b, off + m * 2 + 1, none⟩) (by have := hb.size; simp; omega) (by simp; omega)).trans ((on1.cell (p := ⟨b, off + m * 2 + 1, none⟩) (by have := hb.size; simp; omega) (by simp; omega)).symm.trans e2)
      clear hW2 hblk1 on1 f0 f1 f2 f3 f4 z0 z1 z2 z3 z4 e1 e2
      obtain ⟨f0, f1, f2, f3, f4, z0, z1, z2, z3, z4⟩ := blk5 hblk2
      go_region
      obtain ⟨W3, hW3⟩ : ∃ W3, (W2.setCell ⟨w.heap.size, 4, none⟩ (.int .i64 (max ((stAt l o k).1 + (bt l o[k]).1) (stAt l o k).2 + (bt l o[k]).2))).drew = W3 := ⟨_, rfl⟩
      rw [hW3]
      have on3 : Only w.heap.size wr W3 := by rw [← hW3]; exact (on2.put 4 _).drew
      have hblk3 : Blk W3 w.heap.size 54 #[.int .i64 (m : Int), .int .i64 (stAt l o k).1, .int .i64 ((stAt l o k).1 + (bt l o[k]).1), .int .i64 (max ((stAt l o k).1 + (bt l o[k]).1) (stAt l o k).2), .int .i64 (max ((stAt l o k).1 + (bt l o[k]).1) (stAt l o k).2 + (bt l o[k]).2)] := by
        rw [← hW3]; simpa using (hblk2.put 4 _).drew
      have hown3 := on3.own hown (own_ne hown (Nat.lt_succ_self _))
      have hb3 : Below w.heap.size w W3 := hb.trans (on3.below (Nat.le_refl _) hb.size)
      have hs3 : w.heap.size + 1 ≤ W3.heap.size := Nat.le_trans hsz on3.size
      have hlen := runAt_length l o k
      clear hW3 hblk2 on2 f0 f1 f2 f3 f4 z0 z1 z2 z3 z4 g2 hblk hown on3
      obtain ⟨f0, f1, f2, f3, f4, z0, z1, z2, z3, z4⟩ := blk5 hblk3
      go_wp2_with (at_builtin; refine wpList_append_own _ rfl _ _ 46 rfl (w.heap.size + 1) 54 i0 _ 5 40 Try.underlying46 hi hz0 hz1 hz2 rfl (by decide) _ _ _ rfl (hown3.alloc _) ⟨W3.heap.size, 0, none⟩ 1 1 _ rfl rfl (cells_new _ _ _) (by simp [Value.oneCell']) (by simp only [maxLen]; omega) (by omega) (by simp; omega) ?_; intro v' w4 hown4 hg4 _)
      have b4 : Below w.heap.size w w4 := (hb3.alloc hb3.size _).grown hg4 (by simp; omega) (fun j hj => by have := (hown3.lt j hj).1; omega)
      have k4 := (hblk3.alloc (.cells #[.int .i64 (m : Int), .int .i64 (stAt l o k).1, .int .i64 ((stAt l o k).1 + (bt l o[k]).1), .int .i64 (max ((stAt l o k).1 + (bt l o[k]).1) (stAt l o k).2), .int .i64 (max ((stAt l o k).1 + (bt l o[k]).1) (stAt l o k).2 + (bt l o[k]).2)] 54)).grown hg4 (own_ne hown3 (Nat.lt_succ_self _))
      have hz4 : w.heap.size + 1 ≤ w4.heap.size := Nat.le_trans (by simp; omega) hg4.size
      go_roundw
      case rel =>
        refine ⟨k + 1, by omega, by go_num, ?_, b4, hz4, _, _, _, by rw [hs.out]; exact k4⟩
        rw [hru.out]
        simpa [shR, Hm.out] using hown4
      case measure => simp [intOf]; omega
    · obtain rfl : k = o.length := by omega
      go_wp2_with fail
      go_ret
      exact ⟨_, rfl, own_base hown (Nat.le_succ _), hb⟩

theorem info55 : (Try.prog.info? 55).map (fun i => (i.zero, i.size, i.bytes)) = some (some (.agg #[.int .i64 0, .int .i64 0, .int .i64 0, .int .i64 0, .int .i64 0]), 5, 40) := by kernel_rfl

set_option maxRecDepth 100000 in
set_option maxHeartbeats 1000000 in
theorem run_ref (A A' : Option Addr) (c c' B : Nat) (l : List Bt) (o : List Int) (w : World) (hB : B ≤ w.heap.size) (h : PairsAt B w A l) (h' : IntsAt B w A' o) (hv : valB l = 0) (hp : o.Perm (iota l.length)) :
    Calls Try.prog 66 #[.slice A l.length c, .slice A' o.length c'] w fun e w' => ∃ v, e = .returned v ∧ w'.ownsRow w.heap.size 55 5 v (runS l o).length ((runS l o).flatMap fun r => r.map (Value.int .i64)) ∧ Below w.heap.size w w' := by
  have h7 := (valB_zero hv).1
  have ho := ord_length hp
  have ho7 : o.length ≤ 7 := by omega
  clear ho
  obtain ⟨i0, hi, hz0, hz1, hz2⟩ := info_parts info55
  go_enter Try.func66, Try.ntmps66
  go_wp2
  go_loopw [5, 6, 7, 8] (fun out x y i wr => ∃ k : Nat, k ≤ o.length ∧ i = .int .i64 k ∧ x = .int .i64 (stAt l o k).1 ∧ y = .int .i64 (stAt l o k).2 ∧ wr.ownsRow w.heap.size 55 5 out (runAt l o k).length ((runAt l o k).flatMap fun r => r.map (Value.int .i64)) ∧ Below w.heap.size w wr) (fun _ _ _ i _ => o.length - (intOf i).toNat)
  case atStart => exact ⟨0, Nat.zero_le _, rfl, rfl, rfl, World.ownsRow_nil _ _ _ _, Below.refl _ _⟩
  case round =>
    obtain ⟨k, hk, rfl, rfl, rfl, hown, hb⟩ := hrel
    have hbd := stAt_bd hv hk
    by_cases hlt : k < o.length
    · obtain ⟨m, b, off, b', off', hm, hml, rfl, rfl, hbB, hbB', c0, c1, c2⟩ := ord_cells h h' hp hlt
      have d0 := (hb.cell (p := ⟨b', off' + k, none⟩) (by simp; omega)).trans c0
      have d1 := (hb.cell (p := ⟨b, off + m * 2, none⟩) (by simp; omega)).trans c1
      have d2 := (hb.cell (p := ⟨b, off + m * 2 + 1, none⟩) (by simp; omega)).trans c2
      have hbt := bt_bd hv o[k]
      have hs := Lib.hid (stAt_succ l o hlt)
      have hru := Lib.hid (runAt_succ l o hlt)
      have Hm := Lib.hid hm
      clear hm c0 c1 c2
      go_wp2_with fail
      obtain ⟨W1, hW1⟩ : ∃ W1, wr.alloc (.cells #[.int .i64 (bt l o[k]).1, .int .i64 (bt l o[k]).2] 30) = W1 := ⟨_, rfl⟩
      rw [hW1]
      have hblk1 : Blk W1 wr.heap.size 30 #[.int .i64 (bt l o[k]).1, .int .i64 (bt l o[k]).2] := by rw [← hW1]; exact Blk.new _ _ _
      have e0 : W1.cell? ⟨b', off' + k, none⟩ = some (.int .i64 (m : Int)) := by rw [← hW1, World.cell?_alloc_lt _ _ _ (by have := hb.size; simp; omega)]; exact d0
      have hown1 : W1.ownsRow w.heap.size 55 5 u5 (runAt l o k).length ((runAt l o k).flatMap fun r => r.map (Value.int .i64)) := by rw [← hW1]; exact hown.alloc _
      have hb1 : Below w.heap.size w W1 := by rw [← hW1]; exact hb.alloc hb.size _
      have hlen := runAt_length l o k
      have hs1 := hb1.size
      have q1 := hblk1.lt
      have q2 : b' < W1.heap.size := by omega
      clear hW1 d0 d1 d2 hown
      obtain ⟨f0, f1, z0, z1⟩ := blk2 hblk1
      go_region
      obtain ⟨W2, hW2⟩ : ∃ W2, (W1.alloc (.cells #[.int .i64 (m : Int), .int .i64 (stAt l o k).1, .int .i64 ((stAt l o k).1 + (bt l o[k]).1), .int .i64 0, .int .i64 0] 55)).drew = W2 := ⟨_, rfl⟩
      rw [hW2]
      have hblk2 : Blk W2 W1.heap.size 55 #[.int .i64 (m : Int), .int .i64 (stAt l o k).1, .int .i64 ((stAt l o k).1 + (bt l o[k]).1), .int .i64 0, .int .i64 0] := by rw [← hW2]; exact (Blk.new _ _ _).drew
      have g1 : W2.cell? ⟨wr.heap.size, 1, none⟩ = some (.int .i64 (bt l o[k]).2) := by rw [← hW2]; exact (World.cell?_alloc_lt _ _ _ q1).trans f1
      have hown2 : W2.ownsRow w.heap.size 55 5 u5 (runAt l o k).length ((runAt l o k).flatMap fun r => r.map (Value.int .i64)) := by rw [← hW2]; exact (hown1.alloc _).drew
      have hb2 : Below w.heap.size w W2 := by rw [← hW2]; exact (hb1.alloc hs1 _).drew
      have hne2 : some W1.heap.size ≠ u5.ownBlock := fun e => by have := (hown1.lt _ e.symm).2; omega
      have hne3 : W1.heap.size ≠ wr.heap.size := by omega
      clear hW2 f0 f1 z0 z1 e0 hblk1 hown1 hb1
      obtain ⟨f0, f1, f2, f3, f4, z0, z1, z2, z3, z4⟩ := blk5 hblk2
      have on3 : Only W1.heap.size W2 ((W2.setCell ⟨W1.heap.size, 3, none⟩ (.int .i64 (max ((stAt l o k).1 + (bt l o[k]).1) (stAt l o k).2))).setCell ⟨W1.heap.size, 4, none⟩ (.int .i64 (max ((stAt l o k).1 + (bt l o[k]).1) (stAt l o k).2 + (bt l o[k]).2))) := ((Only.refl _ _).put 3 _).put 4 _
      have hown3 := on3.own hown2 hne2
      have hb3 := hb2.trans (on3.below hs1 hb2.size)
      have sz3 := Lib.hid (show W2.heap.size = ((W2.setCell ⟨W1.heap.size, 3, none⟩ (.int .i64 (max ((stAt l o k).1 + (bt l o[k]).1) (stAt l o k).2))).setCell ⟨W1.heap.size, 4, none⟩ (.int .i64 (max ((stAt l o k).1 + (bt l o[k]).1) (stAt l o k).2 + (bt l o[k]).2))).heap.size by simp [World.setCell])
      have Hown3 := Lib.hid hown3
      have Hb3 := Lib.hid hb3
      have Hblk3 := Lib.hid ((hblk2.put 3 (.int .i64 (max ((stAt l o k).1 + (bt l o[k]).1) (stAt l o k).2))).put 4 (.int .i64 (max ((stAt l o k).1 + (bt l o[k]).1) (stAt l o k).2 + (bt l o[k]).2)))
      have Hne2 := Lib.hid hne2
      have hs2 := hb2.size
      clear hown2 hb2 hne2 on3 hown3 hb3
      go_wp2_with (at_builtin; refine wpList_append_own _ rfl _ _ 49 rfl w.heap.size 55 i0 _ 5 40 Try.underlying49 hi hz0 hz1 hz2 rfl (by decide) _ _ _ rfl (Hown3.out.alloc _) ⟨W2.heap.size, 0, none⟩ 1 1 _ rfl rfl (cells_new' _ _ sz3.out _ _) (by simp [Value.oneCell']) (by simp only [maxLen]; omega) (by omega) (by simp; omega) ?_; intro v' w4 hown4 hg4 _; have k4 := (Hblk3.out.alloc _).grown hg4 Hne2.out; obtain ⟨_, _, j2, _, j4, _⟩ := blk5 k4)
      have b4 : Below w.heap.size w w4 := (Hb3.out.alloc (by rw [← sz3.out]; exact hs2) _).grown hg4 (by simp; omega) (fun j hj => (Hown3.out.lt j hj).1)
      go_roundw
      case rel =>
        refine ⟨k + 1, by omega, by go_num, by rw [hs.out]; rfl, by rw [hs.out]; rfl, ?_, b4⟩
        rw [hru.out]
        simpa [shR, Hm.out] using hown4
      case measure => simp [intOf]; omega
    · obtain rfl : k = o.length := by omega
      go_wp2_with fail
      go_ret
      exact ⟨_, rfl, hown, hb⟩
end Go.Proofs.Ytoegemlpboeodaa
