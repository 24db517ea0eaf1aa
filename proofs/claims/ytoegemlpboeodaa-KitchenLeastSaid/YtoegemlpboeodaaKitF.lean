/- Run, Idle, SameInts. -/
import Derived.Test.YtoegemlpboeodaaKitC
import Derived.Test.YtoegemlpboeodaaKitE
namespace Go.Proofs.Ytoegemlpboeodaa
open Go.RowKit

theorem runS_length (l : List Bt) (o : List Int) : (runS l o).length = o.length := runAt_length l o _
theorem runS_get (l : List Bt) (o : List Int) {k : Nat} (hk : k < o.length) : (runS l o)[k]? = some (shR o[k] (stAt l o k) (bt l o[k])) := by
  simp [runS, runAt, hk]
theorem runS_row (l : List Bt) (o : List Int) : ∀ r ∈ runS l o, r.length = 5 := runAt_row l o _
/-- The cells of a shift. -/
theorem run_cells {B : Nat} {w : World} {A : Option Addr} {l : List Bt} {o : List Int} (h : RowsAt B w A 5 (runS l o)) {k : Nat} (hk : k < o.length) :
    ∃ b off, A = some ⟨b, off, none⟩ ∧ b < B ∧ w.cell? ⟨b, off + k * 5, none⟩ = some (.int .i64 o[k]) ∧ w.cell? ⟨b, off + k * 5 + 1, none⟩ = some (.int .i64 (stAt l o k).1) ∧
      w.cell? ⟨b, off + k * 5 + 2, none⟩ = some (.int .i64 ((stAt l o k).1 + (bt l o[k]).1)) ∧ w.cell? ⟨b, off + k * 5 + 3, none⟩ = some (.int .i64 (max ((stAt l o k).1 + (bt l o[k]).1) (stAt l o k).2)) ∧
      w.cell? ⟨b, off + k * 5 + 4, none⟩ = some (.int .i64 (max ((stAt l o k).1 + (bt l o[k]).1) (stAt l o k).2 + (bt l o[k]).2)) := by
  obtain ⟨b, off, e, hb, hc⟩ := h k (by rw [runS_length]; exact hk)
  dsimp only at hc
  rw [runS_get l o hk] at hc
  exact ⟨b, off, e, hb, hc 0 (by omega), hc 1 (by omega), hc 2 (by omega), hc 3 (by omega), hc 4 (by omega)⟩

/-- How long the packing line has waited behind the first k batches. -/
def idAt (l : List Bt) (o : List Int) : Nat → Int
  | 0 => 0
  | k + 1 => idAt l o k + (max ((stAt l o k).1 + (bt l (o[k]?.getD 0)).1) (stAt l o k).2 - (stAt l o k).2)
theorem idAt_succ (l : List Bt) (o : List Int) {k : Nat} (hk : k < o.length) : idAt l o (k + 1) = idAt l o k + (max ((stAt l o k).1 + (bt l o[k]).1) (stAt l o k).2 - (stAt l o k).2) := by
  simp [idAt, hk]
theorem idAt_bd {l : List Bt} {o : List Int} (hv : valB l = 0) {k : Nat} (hk : k ≤ o.length) : 0 ≤ idAt l o k ∧ idAt l o k ≤ 1000 * (k : Int) ∧ idAt l o k + packT ((bts l o).take k) = (stAt l o k).2 := by
  induction k with
  | zero => simp [idAt, packT, stAt]
  | succ k ih =>
    have h1 := ih (by omega)
    have hb := bt_bd hv o[k]
    have hs := stAt_bd hv (o := o) (k := k) (by omega)
    have hpk : 0 ≤ packT ((bts l o).take k) := (T_bd ((bts_ok hv o).take k)).1
    have e : packT ((bts l o).take (k + 1)) = packT ((bts l o).take k) + (bt l o[k]).2 := by
      rw [packT_take (by rw [bts_length]; omega)]; simp [bts]
    have hcc : (stAt l o k).1 + (bt l o[k]).1 ≤ 1000 * ((k : Int) + 1) := by omega
    rw [idAt_succ l o (by omega), e, stAt_succ l o (by omega)]
    simp only [stp]
    omega
def idR (l : List Bt) (o : List Int) : Int := if exB l o = 0 then idAt l o o.length else 0

set_option maxRecDepth 100000 in
set_option maxHeartbeats 1000000 in
theorem Idle_any (A A' : Option Addr) (c c' B : Nat) (l : List Bt) (o : List Int) (w : World) (hB : B ≤ w.heap.size) (h : PairsAt B w A l) (h' : IntsAt B w A' o) (hm : l.length ≤ 1000) (hm' : o.length ≤ 1000) :
    Calls Try.prog 40 #[.slice A l.length c, .slice A' o.length c'] w fun e w' => e = .returned (.tuple #[.int .i64 (idR l o), .int .i64 (exB l o)]) ∧ Below w.heap.size w w' := by
  have ce := Lib.hid (examine_any A A' c c' B l o w hB h h' hm hm')
  by_cases hx : exB l o = 0
  · obtain ⟨hv, hp⟩ := exB_zero hx
    have h7 := (valB_zero hv).1
    have hol := ord_length hp
    have ho7 : o.length ≤ 7 := by omega
    have Hr := Lib.hid (show idR l o = idAt l o o.length ∧ exB l o = 0 from ⟨if_pos hx, hx⟩)
    rw [hx] at ce
    have Cl := Lib.hid (show ∀ W, Below w.heap.size w W → Calls Try.prog 64 #[.slice A l.length c, .slice A' o.length c'] W fun e w' => ∃ v, e = .returned v ∧ w'.ownsRow W.heap.size 54 5 v (runS l o).length ((runS l o).flatMap fun r => r.map (Value.int .i64)) ∧ Below W.heap.size W w' from fun W hW =>
      run_any A A' c c' w.heap.size l o W hW.size ((h.below (Below.refl _ _) hB).below hW (Nat.le_refl _)) ((h'.below (Below.refl _ _) hB).below hW (Nat.le_refl _)) hv hp)
    have hlen := runS_length l o
    clear hx h h' hol
    go_enter Try.func40, Try.ntmps40
    go_wp2_with (first | (go_at_call 57; refine ce.out.mono ?_; rintro e w1 ⟨rfl, hb1⟩) | (go_at_call 64; refine (Cl.out _ hb1).mono ?_; rintro e w2 ⟨v, rfl, hrow, hb2⟩; obtain ⟨C, d, hv2⟩ := own_form hrow; subst hv2))
    have hR := RowsAt.of_own (runS_row l o) hrow
    have hb2' := hb1.trans (hb2.mono hb1.size)
    clear hrow hb2
    go_loopw [7, 8, 21] (fun x y i wr => ∃ k : Nat, k ≤ o.length ∧ i = .int .i64 k ∧ x = .int .i64 (idAt l o k) ∧ y = .int .i64 (stAt l o k).2 ∧ Below w2.heap.size w2 wr) (fun _ _ i _ => o.length - (intOf i).toNat)
    case atStart => exact ⟨0, Nat.zero_le _, rfl, rfl, rfl, Below.refl _ _⟩
    case round =>
      obtain ⟨k, hk, rfl, rfl, rfl, hb⟩ := hrel
      have hbd := stAt_bd hv hk
      have hib := idAt_bd hv hk
      by_cases hlt : k < o.length
      · obtain ⟨b, off, rfl, hbB, r0, r1, r2, r3, r4⟩ := run_cells hR hlt
        have q0 := (hb.cell (p := ⟨b, off + k * 5, none⟩) hbB).trans r0
        have q1 := (hb.cell (p := ⟨b, off + k * 5 + 1, none⟩) hbB).trans r1
        have q2 := (hb.cell (p := ⟨b, off + k * 5 + 2, none⟩) hbB).trans r2
        have q3 := (hb.cell (p := ⟨b, off + k * 5 + 3, none⟩) hbB).trans r3
        have q4 := (hb.cell (p := ⟨b, off + k * 5 + 4, none⟩) hbB).trans r4
        have hbt := bt_bd hv o[k]
        have Hs := Lib.hid (stAt_succ l o hlt)
        have Hi := Lib.hid (idAt_succ l o hlt)
        have hlt' : k < (runS l o).length := by omega
        clear r0 r1 r2 r3 r4 hib
        have hib := idAt_bd hv hk
        obtain ⟨hi1, hi2, _⟩ := hib
        go_wp2_with fail
        go_roundw
        case rel => exact ⟨k + 1, by omega, by go_num, by rw [Hi.out], by rw [Hs.out]; rfl, hb.alloc hb.size _⟩
        case measure => simp [intOf]; omega
      · obtain rfl : k = o.length := by omega
        go_wp2_with fail
        go_ret2
        exact ⟨by rw [Hr.out.1, Hr.out.2]; rfl, hb2'.trans (hb.mono hb2'.size)⟩
  · have Hr := Lib.hid (show idR l o = 0 from if_neg hx)
    clear h h'
    have hne : (exB l o == 0) = false := by simpa using hx
    generalize exB l o = e0 at ce hx hne ⊢
    clear hx
    go_enter Try.func40, Try.ntmps40
    go_wp2_with (first | (go_at_call 57; refine ce.out.mono ?_; rintro e w1 ⟨rfl, hb1⟩))
    go_ret2
    exact ⟨by rw [Hr.out]; rfl, hb1⟩

set_option maxRecDepth 100000 in
set_option maxHeartbeats 1000000 in
theorem Idle_ref (A A' : Option Addr) (c c' B : Nat) (l : List Bt) (o : List Int) (w : World) (hB : B ≤ w.heap.size) (h : PairsAt B w A l) (h' : IntsAt B w A' o) (hm : l.length ≤ 1000) (hm' : o.length ≤ 1000) :
    Calls Try.prog 41 #[.slice A l.length c, .slice A' o.length c'] w fun e w' => e = .returned (.tuple #[.int .i64 (idR l o), .int .i64 (exB l o)]) ∧ Below w.heap.size w w' := by
  have ce := Lib.hid (ordered_ref A A' c c' B l o w h h' hm hm')
  by_cases hx : exB l o = 0
  · obtain ⟨hv, hp⟩ := exB_zero hx
    have h7 := (valB_zero hv).1
    have hol := ord_length hp
    have ho7 : o.length ≤ 7 := by omega
    have Hr := Lib.hid (show idR l o = idAt l o o.length ∧ exB l o = 0 from ⟨if_pos hx, hx⟩)
    rw [hx] at ce
    have Cl := Lib.hid (run_ref A A' c c' B l o w hB h h' hv hp)
    have hlen := runS_length l o
    clear hx h h' hol
    go_enter Try.func41, Try.ntmps41
    go_wp2_with (first | (go_at_call 62; refine ce.out.mono ?_; rintro e w1 ⟨rfl, rfl⟩) | (go_at_call 66; refine Cl.out.mono ?_; rintro e w2 ⟨v, rfl, hrow, hb2⟩; obtain ⟨C, d, hv2⟩ := own_form hrow; subst hv2))
    have hR := RowsAt.of_own (runS_row l o) hrow
    clear hrow
    go_loop [7, 8, 10] (fun x y i => ∃ k : Nat, k ≤ o.length ∧ i = .int .i64 k ∧ x = .int .i64 (idAt l o k) ∧ y = .int .i64 (stAt l o k).2) (fun _ _ i => o.length - (intOf i).toNat)
    case atStart => exact ⟨0, Nat.zero_le _, rfl, rfl, rfl⟩
    case round =>
      obtain ⟨k, hk, rfl, rfl, rfl⟩ := hrel
      have hbd := stAt_bd hv hk
      by_cases hlt : k < o.length
      · obtain ⟨b, off, rfl, hbB, r0, r1, r2, r3, r4⟩ := run_cells hR hlt
        have hbt := bt_bd hv o[k]
        have Hs := Lib.hid (stAt_succ l o hlt)
        have Hi := Lib.hid (idAt_succ l o hlt)
        obtain ⟨hi1, hi2, _⟩ := idAt_bd hv hk
        go_wp2_with fail
        go_round
        case rel => exact ⟨k + 1, by omega, by go_num, by rw [Hi.out], by rw [Hs.out]; rfl⟩
        case measure => simp [intOf]; omega
      · obtain rfl : k = o.length := by omega
        go_wp2_with fail
        go_ret2
        exact ⟨by rw [Hr.out.1, Hr.out.2]; rfl, hb2⟩
  · have Hr := Lib.hid (show idR l o = 0 from if_neg hx)
    clear h h'
    have hne : (exB l o == 0) = false := by simpa using hx
    generalize exB l o = e0 at ce hx hne ⊢
    clear hx
    go_enter Try.func41, Try.ntmps41
    go_wp2_with (first | (go_at_call 62; refine ce.out.mono ?_; rintro e w1 ⟨rfl, rfl⟩))
    go_ret2
    exact ⟨by rw [Hr.out]; rfl, Below.refl _ _⟩

set_option maxRecDepth 100000 in
set_option maxHeartbeats 1000000 in
theorem Run_any (A A' : Option Addr) (c c' B : Nat) (l : List Bt) (o : List Int) (w : World) (hB : B ≤ w.heap.size) (h : PairsAt B w A l) (h' : IntsAt B w A' o) (hm : l.length ≤ 1000) (hm' : o.length ≤ 1000) (hx : exB l o = 0) :
    Calls Try.prog 37 #[.slice A l.length c, .slice A' o.length c'] w fun e w' => ∃ C d, e = .returned (.tuple #[.slice C o.length d, .int .i64 0]) ∧ RowsAt w'.heap.size w' C 5 (runS l o) ∧ Below w.heap.size w w' := by
  have ce := Lib.hid (examine_any A A' c c' B l o w hB h h' hm hm')
  obtain ⟨hv, hp⟩ := exB_zero hx
  rw [hx] at ce
  have Cl := Lib.hid (show ∀ W, Below w.heap.size w W → Calls Try.prog 64 #[.slice A l.length c, .slice A' o.length c'] W fun e w' => ∃ v, e = .returned v ∧ w'.ownsRow W.heap.size 54 5 v (runS l o).length ((runS l o).flatMap fun r => r.map (Value.int .i64)) ∧ Below W.heap.size W w' from fun W hW =>
    run_any A A' c c' w.heap.size l o W hW.size ((h.below (Below.refl _ _) hB).below hW (Nat.le_refl _)) ((h'.below (Below.refl _ _) hB).below hW (Nat.le_refl _)) hv hp)
  have hlen := runS_length l o
  clear hx h h'
  go_enter Try.func37, Try.ntmps37
  go_wp2_with (first | (go_at_call 57; refine ce.out.mono ?_; rintro e w1 ⟨rfl, hb1⟩) | (go_at_call 64; refine (Cl.out _ hb1).mono ?_; rintro e w2 ⟨v, rfl, hrow, hb2⟩; obtain ⟨C, d, hv2⟩ := own_form hrow; subst hv2))
  have hR := RowsAt.of_own (runS_row l o) hrow
  go_ret2
  exact ⟨C, d, rfl, hR, hb1.trans (hb2.mono hb1.size)⟩

set_option maxHeartbeats 1000000 in
theorem Run_bad (A A' : Option Addr) (c c' B : Nat) (l : List Bt) (o : List Int) (w : World) (hB : B ≤ w.heap.size) (h : PairsAt B w A l) (h' : IntsAt B w A' o) (hm : l.length ≤ 1000) (hm' : o.length ≤ 1000) (hx : ¬ exB l o = 0) :
    Calls Try.prog 37 #[.slice A l.length c, .slice A' o.length c'] w fun e w' => e = .returned (.tuple #[.slice none 0 0, .int .i64 (exB l o)]) ∧ Below w.heap.size w w' := by
  have ce := Lib.hid (examine_any A A' c c' B l o w hB h h' hm hm')
  clear h h'
  have hne : (exB l o == 0) = false := by simpa using hx
  generalize exB l o = e0 at ce hx hne ⊢
  clear hx
  go_enter Try.func37, Try.ntmps37
  go_wp2_with (first | (go_at_call 57; refine ce.out.mono ?_; rintro e w1 ⟨rfl, hb1⟩))
  go_ret2
  exact ⟨rfl, hb1⟩

set_option maxRecDepth 100000 in
set_option maxHeartbeats 1000000 in
theorem Run_ref (A A' : Option Addr) (c c' B : Nat) (l : List Bt) (o : List Int) (w : World) (hB : B ≤ w.heap.size) (h : PairsAt B w A l) (h' : IntsAt B w A' o) (hm : l.length ≤ 1000) (hm' : o.length ≤ 1000) (hx : exB l o = 0) :
    Calls Try.prog 38 #[.slice A l.length c, .slice A' o.length c'] w fun e w' => ∃ C d, e = .returned (.tuple #[.slice C o.length d, .int .i64 0]) ∧ RowsAt w'.heap.size w' C 5 (runS l o) ∧ Below w.heap.size w w' := by
  have ce := Lib.hid (ordered_ref A A' c c' B l o w h h' hm hm')
  obtain ⟨hv, hp⟩ := exB_zero hx
  rw [hx] at ce
  have Cl := Lib.hid (run_ref A A' c c' B l o w hB h h' hv hp)
  have hlen := runS_length l o
  clear hx h h'
  go_enter Try.func38, Try.ntmps38
  go_wp2_with (first | (go_at_call 62; refine ce.out.mono ?_; rintro e w1 ⟨rfl, rfl⟩) | (go_at_call 66; refine Cl.out.mono ?_; rintro e w2 ⟨v, rfl, hrow, hb2⟩; obtain ⟨C, d, hv2⟩ := own_form hrow; subst hv2))
  have hR := RowsAt.of_own (runS_row l o) hrow
  go_ret2
  exact ⟨C, d, rfl, hR, hb2⟩

set_option maxHeartbeats 1000000 in
theorem Run_ref_bad (A A' : Option Addr) (c c' B : Nat) (l : List Bt) (o : List Int) (w : World) (h : PairsAt B w A l) (h' : IntsAt B w A' o) (hm : l.length ≤ 1000) (hm' : o.length ≤ 1000) (hx : ¬ exB l o = 0) :
    Calls Try.prog 38 #[.slice A l.length c, .slice A' o.length c'] w fun e w' => e = .returned (.tuple #[.slice none 0 0, .int .i64 (exB l o)]) ∧ w = w' := by
  have ce := Lib.hid (ordered_ref A A' c c' B l o w h h' hm hm')
  clear h h'
  have hne : (exB l o == 0) = false := by simpa using hx
  generalize exB l o = e0 at ce hx hne ⊢
  clear hx
  go_enter Try.func38, Try.ntmps38
  go_wp2_with (first | (go_at_call 62; refine ce.out.mono ?_; rintro e w1 ⟨rfl, rfl⟩))
  go_ret2
  exact ⟨rfl, rfl⟩

/-- Equal as far as they have been looked at. -/
def EqTo (a b : List Int) (k : Nat) : Prop := a.take k = b.take k
theorem EqTo.succ {a b : List Int} {k : Nat} (h : EqTo a b k) (ha : k < a.length) (hb : k < b.length) (e : a[k] = b[k]) : EqTo a b (k + 1) := by
  unfold EqTo at h ⊢
  rw [List.take_succ_eq_append_getElem ha, List.take_succ_eq_append_getElem hb, h, e]
theorem sameI_len {a b : List Int} (h : ¬ a.length = b.length) : decide (a = b) = false := by
  rw [decide_eq_false_iff_not]; intro e; exact h (by rw [e])
theorem sameI_ne {a b : List Int} {k : Nat} (ha : k < a.length) (hb : k < b.length) (e : ¬ a[k] = b[k]) : decide (a = b) = false := by
  rw [decide_eq_false_iff_not]; rintro rfl; exact e rfl
theorem sameI_all {a b : List Int} (hl : a.length = b.length) (h : EqTo a b a.length) : decide (a = b) = true := by
  rw [decide_eq_true_eq]
  unfold EqTo at h
  rwa [List.take_length, hl, List.take_length] at h

set_option maxRecDepth 100000 in
set_option maxHeartbeats 1000000 in
/-- SameInts: equal lists. -/
theorem sameInts_ref (A A' : Option Addr) (c c' B : Nat) (x y : List Int) (w : World) (h : IntsAt B w A x) (h' : IntsAt B w A' y) (hm : x.length ≤ 1000000) :
    Calls Try.prog 36 #[.slice A x.length c, .slice A' y.length c'] w fun e w' => e = .returned (.bool (decide (x = y))) ∧ Drew w w' := by
  by_cases hl : x.length = y.length
  · have hl1 : ((x.length : Int) != (y.length : Int)) = false := by simp [hl]
    have Hl := Lib.hid hl
    clear hl
    go_enter Try.func36, Try.ntmps36
    go_wp2_with fail
    go_loopw [5] (fun i wr => ∃ k : Nat, k ≤ x.length ∧ i = .int .i64 k ∧ EqTo x y k ∧ Drew w wr) (fun i _ => x.length - (intOf i).toNat)
    case atStart => exact ⟨0, Nat.zero_le _, rfl, rfl, 0, rfl⟩
    case round =>
      obtain ⟨k, hk, rfl, heq, hb⟩ := hrel
      have Hb := Lib.hid hb
      clear hb
      by_cases hlt : k < x.length
      · have hlt2 : k < y.length := by rw [← Hl.out]; exact hlt
        obtain ⟨b, off, rfl, hbB, hc⟩ := h.at hlt
        obtain ⟨b', off', rfl, hbB', hc'⟩ := h'.at hlt2
        have d0 := (Hb.out.cell _).trans hc
        have d1 := (Hb.out.cell _).trans hc'
        have k0 : (0 : Int) ≤ (k : Int) := by omega
        have k1 : (k : Int) < (x.length : Int) := by omega
        have k2 : (k : Int) < (y.length : Int) := by omega
        clear hc hc'
        by_cases he : x[k] = y[k]
        · have he1 : (x[k] != y[k]) = false := by simpa using he
          have Heq := Lib.hid (heq.succ hlt hlt2 he)
          clear he
          go_wp2_with fail
          go_quiet (fail)
          go_wp2_with fail
          go_roundw
          case rel => exact ⟨k + 1, by omega, by go_num, Heq.out, Hb.out.drewN _⟩
          case measure => simp [intOf]; omega
        · have he1 : (x[k] != y[k]) = true := by simpa using he
          have Hx := Lib.hid (sameI_ne hlt hlt2 he)
          clear he
          go_wp2_with fail
          go_quiet (fail)
          go_wp2_with fail
          go_ret
          exact ⟨by rw [Hx.out]; rfl, Hb.out.drewN _⟩
      · obtain rfl : k = x.length := by omega
        have Hx := Lib.hid (sameI_all Hl.out heq)
        go_wp2_with fail
        go_ret
        exact ⟨by rw [Hx.out]; rfl, Hb.out⟩
  · have hl1 : ((x.length : Int) != (y.length : Int)) = true := by simp; omega
    have Hx := Lib.hid (sameI_len hl)
    clear hl
    go_enter Try.func36, Try.ntmps36
    go_wp2_with fail
    go_ret
    exact ⟨by rw [Hx.out]; rfl, 0, rfl⟩
end Go.Proofs.Ytoegemlpboeodaa
