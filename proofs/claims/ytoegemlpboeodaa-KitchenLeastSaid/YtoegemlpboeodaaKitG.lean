/- Late, the program's and the reference's. -/
import Derived.Test.YtoegemlpboeodaaKitF
import Derived.Test.YtoegemlpboeodaaPlain5
namespace Go.Proofs.Ytoegemlpboeodaa
open Go.RowKit

theorem late_eq {l : List Bt} {o : List Int} (hp : o.Perm (iota l.length)) (d : List Int) : sortS (lateP l o d o.length) = lateQ l o d l.length :=
  sorted_eq (sortS_pairwise _) (lateQ_sorted l o d _) ((sortS_perm _).trans (lateQ_perm hp).symm)
def lateR (l : List Bt) (o d : List Int) : List Int := if lateE l o d = 0 then sortS (lateP l o d o.length) else []
theorem isLate_get {l : List Bt} {o d : List Int} {k m : Nat} (hk : k < o.length) (hm : o[k] = (m : Int)) (hmd : m < d.length) :
    isLate l o d k = decide (d[m] < max ((stAt l o k).1 + (bt l o[k]).1) (stAt l o k).2 + (bt l o[k]).2) := by
  unfold isLate
  have : o[k]?.getD 0 = o[k] := by simp [hk]
  rw [this]
  have e : d[(o[k]).toNat]?.getD 0 = d[m] := by rw [hm]; simp [hmd]
  rw [e]
  rfl

set_option maxRecDepth 100000 in
set_option maxHeartbeats 2000000 in
theorem Late_good (A A' D : Option Addr) (c c' c'' B : Nat) (l : List Bt) (o d : List Int) (w : World) (hB : B ≤ w.heap.size) (h : PairsAt B w A l) (h' : IntsAt B w A' o) (h'' : IntsAt B w D d) (hm : l.length ≤ 1000) (hm' : o.length ≤ 1000) (hx : exB l o = 0) (hd : d.length = l.length) :
    Calls Try.prog 34 #[.slice A l.length c, .slice A' o.length c', .slice D d.length c''] w fun e w' => ∃ C q, e = .returned (.tuple #[.slice C (sortS (lateP l o d o.length)).length q, .int .i64 0]) ∧ IntsAt w'.heap.size w' C (sortS (lateP l o d o.length)) ∧ Below w.heap.size w w' := by
  have ce := Lib.hid (examine_any A A' c c' B l o w hB h h' hm hm')
  obtain ⟨hv, hp⟩ := exB_zero hx
  have h7 := (valB_zero hv).1
  have hol := ord_length hp
  have ho7 : o.length ≤ 7 := by omega
  rw [hx] at ce
  have Cl := Lib.hid (show ∀ W, Below w.heap.size w W → Calls Try.prog 64 #[.slice A l.length c, .slice A' o.length c'] W fun e w' => ∃ v, e = .returned v ∧ w'.ownsRow W.heap.size 54 5 v (runS l o).length ((runS l o).flatMap fun r => r.map (Value.int .i64)) ∧ Below W.heap.size W w' from fun W hW =>
    run_any A A' c c' w.heap.size l o W hW.size ((h.below (Below.refl _ _) hB).below hW (Nat.le_refl _)) ((h'.below (Below.refl _ _) hB).below hW (Nat.le_refl _)) hv hp)
  have hlen := runS_length l o
  have hd1 : ((d.length : Int) != (l.length : Int)) = false := by simp [hd]
  have hdd : d.length ≤ 7 := by omega
  have Hd := Lib.hid hd
  obtain ⟨i0, hi, hz0, hz1, hz2⟩ := info_parts info3
  clear hx h h' hol hd
  go_enter Try.func34, Try.ntmps34
  go_wp2_with (first | (go_at_call 57; refine ce.out.mono ?_; rintro e w1 ⟨rfl, hb1⟩) | (go_at_call 64; refine (Cl.out _ hb1).mono ?_; rintro e w2 ⟨v, rfl, hrow, hb2⟩; obtain ⟨C, q, hv2⟩ := own_form hrow; subst hv2))
  have hR := RowsAt.of_own (runS_row l o) hrow
  have hb2' := hb1.trans (hb2.mono hb1.size)
  have hD : IntsAt w.heap.size w2 D d := h''.below (hb2'.mono hB) hB
  have hsz2 := hb2'.size
  clear hrow hb2 h'' hb1
  go_loopw [9, 27] (fun out i wr => ∃ k : Nat, k ≤ o.length ∧ i = .int .i64 k ∧ wr.ownsRow w2.heap.size 3 1 out (lateP l o d k).length ((lateP l o d k).map (Value.int .i64)) ∧ Below w2.heap.size w2 wr) (fun _ i _ => o.length - (intOf i).toNat)
  case atStart => exact ⟨0, Nat.zero_le _, rfl, World.ownsRow_nil _ _ _ _, Below.refl _ _⟩
  case round =>
    obtain ⟨k, hk, rfl, hown, hb⟩ := hrel
    have hbd := stAt_bd hv hk
    have hll := lateP_length l o d k
    by_cases hlt : k < o.length
    · obtain ⟨b, off, rfl, hbB, r0, r1, r2, r3, r4⟩ := run_cells hR hlt
      obtain ⟨m0, m1⟩ := ord_mem hp hlt
      obtain ⟨m, hm0⟩ := Int.eq_ofNat_of_zero_le m0
      have hmd : m < d.length := by rw [Hd.out]; omega
      obtain ⟨b', off', rfl, hbB', s0⟩ := hD.at hmd
      have hil := isLate_get (l := l) hlt hm0 hmd
      have hls := lateP_succ l o d hlt
      rw [hm0] at r0
      have q0 := (hb.cell (p := ⟨b, off + k * 5, none⟩) hbB).trans r0
      have q1 := (hb.cell (p := ⟨b, off + k * 5 + 1, none⟩) hbB).trans r1
      have q2 := (hb.cell (p := ⟨b, off + k * 5 + 2, none⟩) hbB).trans r2
      have q3 := (hb.cell (p := ⟨b, off + k * 5 + 3, none⟩) hbB).trans r3
      have q4 := (hb.cell (p := ⟨b, off + k * 5 + 4, none⟩) hbB).trans r4
      have s1 := (hb.cell (p := ⟨b', off' + m, none⟩) (by simp; omega)).trans s0
      have hbt := bt_bd hv o[k]
      have hlt' : k < (runS l o).length := by omega
      have Hm0 := Lib.hid hm0
      generalize hpk : max ((stAt l o k).1 + (bt l o[k]).1) (stAt l o k).2 + (bt l o[k]).2 = pk at q4 hil
      generalize hmx : max ((stAt l o k).1 + (bt l o[k]).1) (stAt l o k).2 = mx at q3
      clear r0 r1 r2 r3 r4 s0 m0 m1 hm0 hpk hmx hbt
      have hrs := hb.size
      have hbl' : b' < wr.heap.size := by omega
      have mi0 : (0 : Int) ≤ (m : Int) := by omega
      have mi1 : (m : Int) < (d.length : Int) := by omega
      by_cases hgt : d[m] < pk
      · rw [show isLate l o d k = true by rw [hil]; simpa using hgt, if_pos rfl] at hls
        have Hls := Lib.hid hls
        clear hls hil
        go_wp2_with fail
        go_quiet (fail)
        obtain ⟨W1, hW1⟩ : ∃ W1, (wr.alloc (.cells #[.int .i64 (m : Int), .int .i64 (stAt l o k).1, .int .i64 ((stAt l o k).1 + (bt l o[k]).1), .int .i64 mx, .int .i64 pk] 54)).drewN nq = W1 := ⟨_, rfl⟩
        rw [hW1]
        have hblk : Blk W1 wr.heap.size 54 #[.int .i64 (m : Int), .int .i64 (stAt l o k).1, .int .i64 ((stAt l o k).1 + (bt l o[k]).1), .int .i64 mx, .int .i64 pk] := by rw [← hW1]; exact (Blk.new _ _ _).drewN _
        have hown1 : W1.ownsRow w2.heap.size 3 1 u9 (lateP l o d k).length ((lateP l o d k).map (Value.int .i64)) := by rw [← hW1]; exact hown.alloc _
        have hb1 : Below w2.heap.size w2 W1 := by rw [← hW1]; exact below_drewN (hb.alloc hrs _) _
        have hs1 := hb1.size
        clear hW1 q0 q1 q2 q3 q4 s1 hown hb
        obtain ⟨f0, _, _, _, f4, _⟩ := blk5 hblk
        go_wp2_with (at_builtin; refine wpList_append_own _ rfl _ _ 34 rfl w2.heap.size 3 i0 _ 1 8 Try.underlying34 hi hz0 hz1 hz2 rfl (by decide) _ _ _ rfl (hown1.alloc _) ⟨W1.heap.size, 0, none⟩ 1 1 _ rfl rfl (cells_new _ _ _) (by simp [Value.oneCell']) (by simp only [maxLen]; omega) (by omega) (by simp; omega) ?_; intro v' w4 hown4 hg4 _)
        have b4 : Below w2.heap.size w2 w4 := (hb1.alloc hs1 _).grown hg4 (by simp; omega) (fun j hj => (hown1.lt j hj).1)
        go_roundw
        case rel => exact ⟨k + 1, by omega, by go_num, by rw [Hls.out, Hm0.out]; simpa using hown4, b4⟩
        case measure => simp [intOf]; omega
      · rw [show isLate l o d k = false by rw [hil]; simpa using hgt] at hls
        simp only [Bool.false_eq_true, ↓reduceIte] at hls
        have Hls := Lib.hid hls
        clear hls hil
        go_wp2_with fail
        go_quiet (fail)
        go_wp2_with fail
        go_roundw
        case rel => exact ⟨k + 1, by omega, by go_num, by rw [Hls.out]; exact World.ownsRow.alloc (h := hown) _, below_drewN (hb.alloc hrs _) _⟩
        case measure => simp [intOf]; omega
    · obtain rfl : k = o.length := by omega
      have hll2 : (lateP l o d o.length).length ≤ 1000000 := by omega
      obtain ⟨C9, q9, hv9⟩ := own_form hown
      subst hv9
      go_wp2_with (go_at_call 65; refine (sort_own w2.heap.size _ (lateP l o d o.length) _ hll2 hown).mono ?_; rintro e w3 ⟨rfl, hrow3, hg3⟩)
      go_ret2
      have hS : (sortS (lateP l o d o.length)).length = (lateP l o d o.length).length := sortS_length _
      refine ⟨C9, q9, by rw [hS]; rfl, IntsAt.of_own (c := q9) (base := w2.heap.size) (e := 3) (by rw [hS]; exact hrow3), ?_⟩
      exact hb2'.trans ((hb.mono hsz2).trans ((Below.refl _ _).grown hg3 (Nat.le_trans hsz2 hb.size) (fun j hj => Nat.le_trans hsz2 (hown.lt j hj).1)))

set_option maxRecDepth 100000 in
set_option maxHeartbeats 2000000 in
theorem Late_ref_good (A A' D : Option Addr) (c c' c'' B : Nat) (l : List Bt) (o d : List Int) (w : World) (hB : B ≤ w.heap.size) (h : PairsAt B w A l) (h' : IntsAt B w A' o) (h'' : IntsAt B w D d) (hm : l.length ≤ 1000) (hm' : o.length ≤ 1000) (hx : exB l o = 0) (hd : d.length = l.length) :
    Calls Try.prog 35 #[.slice A l.length c, .slice A' o.length c', .slice D d.length c''] w fun e w' => ∃ C q, e = .returned (.tuple #[.slice C (lateQ l o d l.length).length q, .int .i64 0]) ∧ IntsAt w'.heap.size w' C (lateQ l o d l.length) ∧ Below w.heap.size w w' := by
  have ce := Lib.hid (ordered_ref A A' c c' B l o w h h' hm hm')
  obtain ⟨hv, hp⟩ := exB_zero hx
  have h7 := (valB_zero hv).1
  have hol := ord_length hp
  have ho7 : o.length ≤ 7 := by omega
  rw [hx] at ce
  have Cl := Lib.hid (run_ref A A' c c' B l o w hB h h' hv hp)
  have hlen := runS_length l o
  have hd1 : ((d.length : Int) != (l.length : Int)) = false := by simp [hd]
  have hdd : d.length ≤ 7 := by omega
  have Hd := Lib.hid hd
  obtain ⟨i0, hi, hz0, hz1, hz2⟩ := info_parts info3
  clear hx h h' hol hd
  go_enter Try.func35, Try.ntmps35
  go_wp2_with (first | (go_at_call 62; refine ce.out.mono ?_; rintro e w1 ⟨rfl, rfl⟩) | (go_at_call 66; refine Cl.out.mono ?_; rintro e w2 ⟨v, rfl, hrow, hb2⟩; obtain ⟨C, q, hv2⟩ := own_form hrow; subst hv2))
  have hR := RowsAt.of_own (runS_row l o) hrow
  have hD : IntsAt w.heap.size w2 D d := h''.below (hb2.mono hB) hB
  have hsz2 := hb2.size
  clear hrow h''
  go_loopw [9, 11] (fun out i wr => ∃ n : Nat, n ≤ l.length ∧ i = .int .i64 n ∧ wr.ownsRow w2.heap.size 3 1 out (lateQ l o d n).length ((lateQ l o d n).map (Value.int .i64)) ∧ Below w2.heap.size w2 wr) (fun _ i _ => l.length - (intOf i).toNat)
  case atStart => exact ⟨0, Nat.zero_le _, rfl, World.ownsRow_nil _ _ _ _, Below.refl _ _⟩
  case round =>
    obtain ⟨n, hn, rfl, hownO, hbO⟩ := hrel
    obtain ⟨wo, rfl⟩ : ∃ wo : World, wo = wr := ⟨_, rfl⟩
    by_cases hltn : n < l.length
    · have hqn := lateQ_length l o d n
      have hqn2 : (lateQ l o d n).length ≤ 49 := Nat.le_trans hqn (Nat.mul_le_mul (by omega : n ≤ 7) ho7)
      clear hqn
      go_wp2_with fail
      go_loopw [9, 12] (fun out i wr => ∃ k : Nat, k ≤ o.length ∧ i = .int .i64 k ∧ wr.ownsRow w2.heap.size 3 1 out (lateQ l o d n ++ lateN l o d n k).length ((lateQ l o d n ++ lateN l o d n k).map (Value.int .i64)) ∧ Below w2.heap.size w2 wr) (fun _ i _ => o.length - (intOf i).toNat)
      case atStart => exact ⟨0, Nat.zero_le _, rfl, by simpa [lateN] using hownO, hbO⟩
      case round =>
        obtain ⟨k, hk, rfl, hown, hb⟩ := hrel
        have hbd := stAt_bd hv hk
        have hll := lateN_length l o d n k
        have hll2 : (lateQ l o d n ++ lateN l o d n k).length ≤ 100 := by rw [List.length_append]; omega
        by_cases hlt : k < o.length
        · obtain ⟨b, off, rfl, hbB, r0, r1, r2, r3, r4⟩ := run_cells hR hlt
          obtain ⟨m0, m1⟩ := ord_mem hp hlt
          obtain ⟨m, hm0⟩ := Int.eq_ofNat_of_zero_le m0
          have hmd : m < d.length := by rw [Hd.out]; omega
          have hnd : n < d.length := by rw [Hd.out]; omega
          obtain ⟨b', off', rfl, hbB', s0⟩ := hD.at hnd
          have hil := isLate_get (l := l) hlt hm0 hmd
          have hls := lateN_succ l o d n hlt
          rw [hm0] at r0
          have q0 := (hb.cell (p := ⟨b, off + k * 5, none⟩) hbB).trans r0
          have q4 := (hb.cell (p := ⟨b, off + k * 5 + 4, none⟩) hbB).trans r4
          have s1 := (hb.cell (p := ⟨b', off' + n, none⟩) (by simp; omega)).trans s0
          have hlt' : k < (runS l o).length := by omega
          generalize hpk : max ((stAt l o k).1 + (bt l o[k]).1) (stAt l o k).2 + (bt l o[k]).2 = pk at q4 hil
          have hrs := hb.size
          have ki0 : (0 : Int) ≤ (k : Int) := by omega
          have ki1 : (k : Int) < (o.length : Int) := by omega
          have ni0 : (0 : Int) ≤ (n : Int) := by omega
          have ni1 : (n : Int) < (d.length : Int) := by omega
          clear r0 r1 r2 r3 r4 s0 m0 m1 hpk
          by_cases hmn : m = n
          · subst hmn
            have he1 : ((m : Int) == (m : Int)) = true := by simp
            by_cases hgt : d[m] < pk
            · rw [if_pos ⟨hm0, by rw [hil]; simpa using hgt⟩] at hls
              have Hls := Lib.hid hls
              clear hls hil hm0 he1
              go_wp2_with fail
              go_quiet (fail)
              obtain ⟨W1, hW1⟩ : ∃ W1, wr.drewN nq = W1 := ⟨_, rfl⟩
              rw [hW1]
              have hown1 : W1.ownsRow w2.heap.size 3 1 u9 (lateQ l o d m ++ lateN l o d m k).length ((lateQ l o d m ++ lateN l o d m k).map (Value.int .i64)) := by rw [← hW1]; exact hown
              have hb1 : Below w2.heap.size w2 W1 := by rw [← hW1]; exact below_drewN hb _
              have hs1 := hb1.size
              clear hW1 q0 q4 s1 hown hb
              go_wp2_with (at_builtin; refine wpList_append_own _ rfl _ _ 34 rfl w2.heap.size 3 i0 _ 1 8 Try.underlying34 hi hz0 hz1 hz2 rfl (by decide) _ _ _ rfl (hown1.alloc _) ⟨W1.heap.size, 0, none⟩ 1 1 _ rfl rfl (cells_new _ _ _) (by simp [Value.oneCell']) (by simp only [maxLen]; omega) (by omega) (by simp; omega) ?_; intro v' w4 hown4 hg4 _)
              have b4 : Below w2.heap.size w2 w4 := (hb1.alloc hs1 _).grown hg4 (by simp; omega) (fun j hj => (hown1.lt j hj).1)
              go_roundw
              case rel =>
                refine ⟨k + 1, by omega, by go_num, ?_, b4⟩
                rw [Hls.out, ← List.append_assoc]; simpa [Nat.add_assoc] using hown4
              case measure => simp [intOf]; omega
            · rw [if_neg (by rw [hil]; simpa [hm0] using hgt)] at hls
              have Hls := Lib.hid hls
              clear hls hil hm0 he1
              go_wp2_with fail
              go_quiet (fail)
              go_wp2_with fail
              go_roundw
              case rel => exact ⟨k + 1, by omega, by go_num, by rw [Hls.out]; exact hown, below_drewN hb _⟩
              case measure => simp [intOf]; omega
          · have he1 : ((m : Int) == (n : Int)) = false := by rw [beq_eq_false_iff_ne]; omega
            rw [if_neg (by rw [hm0]; omega)] at hls
            have Hls := Lib.hid hls
            clear hls hil hm0
            go_wp2_with fail
            go_quiet (fail)
            go_wp2_with fail
            go_roundw
            case rel => exact ⟨k + 1, by omega, by go_num, by rw [Hls.out]; exact hown, below_drewN hb _⟩
            case measure => simp [intOf]; omega
        · obtain rfl : k = o.length := by omega
          have Hq := Lib.hid (lateQ_succ l o d n)
          go_wp2_with fail
          go_roundw
          case rel => exact ⟨n + 1, by omega, by go_num, by rw [Hq.out]; exact hown, hb⟩
          case measure => simp [intOf]; omega
    · obtain rfl : n = l.length := by omega
      obtain ⟨C9, q9, hv9⟩ := own_form hownO
      subst hv9
      go_wp2_with fail
      go_ret2
      exact ⟨C9, q9, rfl, IntsAt.of_own hownO, hb2.trans (hbO.mono hsz2)⟩

set_option maxHeartbeats 1000000 in
theorem Late_bad (A A' D : Option Addr) (c c' c'' B : Nat) (l : List Bt) (o d : List Int) (w : World) (hB : B ≤ w.heap.size) (h : PairsAt B w A l) (h' : IntsAt B w A' o) (hm : l.length ≤ 1000) (hm' : o.length ≤ 1000) (hx : ¬ lateE l o d = 0) :
    Calls Try.prog 34 #[.slice A l.length c, .slice A' o.length c', .slice D d.length c''] w fun e w' => e = .returned (.tuple #[.slice none 0 0, .int .i64 (lateE l o d)]) ∧ Below w.heap.size w w' := by
  have ce := Lib.hid (examine_any A A' c c' B l o w hB h h' hm hm')
  clear h h'
  by_cases h0 : exB l o = 0
  · have hd : ¬ d.length = l.length := fun e => hx (by simp [lateE, h0, e])
    have hd1 : ((d.length : Int) != (l.length : Int)) = true := by simp; omega
    have He := Lib.hid (show lateE l o d = 1 by simp [lateE, h0, hd])
    rw [h0] at ce
    clear hx hd h0
    go_enter Try.func34, Try.ntmps34
    go_wp2_with (first | (go_at_call 57; refine ce.out.mono ?_; rintro e w1 ⟨rfl, hb1⟩))
    go_ret2
    exact ⟨by rw [He.out]; rfl, hb1⟩
  · have hne : (exB l o == 0) = false := by simpa using h0
    have He := Lib.hid (show lateE l o d = exB l o by simp [lateE, h0])
    generalize exB l o = e0 at ce h0 hne He
    clear hx h0
    go_enter Try.func34, Try.ntmps34
    go_wp2_with (first | (go_at_call 57; refine ce.out.mono ?_; rintro e w1 ⟨rfl, hb1⟩))
    go_ret2
    exact ⟨by rw [He.out]; rfl, hb1⟩
set_option maxHeartbeats 1000000 in
theorem Late_ref_bad (A A' D : Option Addr) (c c' c'' B : Nat) (l : List Bt) (o d : List Int) (w : World) (h : PairsAt B w A l) (h' : IntsAt B w A' o) (hm : l.length ≤ 1000) (hm' : o.length ≤ 1000) (hx : ¬ lateE l o d = 0) :
    Calls Try.prog 35 #[.slice A l.length c, .slice A' o.length c', .slice D d.length c''] w fun e w' => e = .returned (.tuple #[.slice none 0 0, .int .i64 (lateE l o d)]) ∧ w = w' := by
  have ce := Lib.hid (ordered_ref A A' c c' B l o w h h' hm hm')
  clear h h'
  by_cases h0 : exB l o = 0
  · have hd : ¬ d.length = l.length := fun e => hx (by simp [lateE, h0, e])
    have hd1 : ((d.length : Int) != (l.length : Int)) = true := by simp; omega
    have He := Lib.hid (show lateE l o d = 1 by simp [lateE, h0, hd])
    rw [h0] at ce
    clear hx hd h0
    go_enter Try.func35, Try.ntmps35
    go_wp2_with (first | (go_at_call 62; refine ce.out.mono ?_; rintro e w1 ⟨rfl, rfl⟩))
    go_ret2
    exact ⟨by rw [He.out]; rfl, rfl⟩
  · have hne : (exB l o == 0) = false := by simpa using h0
    have He := Lib.hid (show lateE l o d = exB l o by simp [lateE, h0])
    generalize exB l o = e0 at ce h0 hne He
    clear hx h0
    go_enter Try.func35, Try.ntmps35
    go_wp2_with (first | (go_at_call 62; refine ce.out.mono ?_; rintro e w1 ⟨rfl, rfl⟩))
    go_ret2
    exact ⟨by rw [He.out]; rfl, rfl⟩
end Go.Proofs.Ytoegemlpboeodaa
