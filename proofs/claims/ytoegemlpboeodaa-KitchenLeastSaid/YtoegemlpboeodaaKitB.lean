/- last, Time, run .. : when all is packed. -/
import Derived.Test.YtoegemlpboeodaaKitA
namespace Go.Proofs.Ytoegemlpboeodaa
open Go.RowKit

/-- The cells of element k of an order and of its batch. -/
theorem ord_cells {B : Nat} {w : World} {A A' : Option Addr} {l : List Bt} {o : List Int} (h : PairsAt B w A l) (h' : IntsAt B w A' o) (hp : o.Perm (iota l.length)) {k : Nat} (hk : k < o.length) :
    ∃ (m b off b' off' : Nat), o[k] = (m : Int) ∧ m < l.length ∧ A = some ⟨b, off, none⟩ ∧ A' = some ⟨b', off', none⟩ ∧ b < B ∧ b' < B ∧ w.cell? ⟨b', off' + k, none⟩ = some (.int .i64 (m : Int)) ∧
      w.cell? ⟨b, off + m * 2, none⟩ = some (.int .i64 (bt l o[k]).1) ∧ w.cell? ⟨b, off + m * 2 + 1, none⟩ = some (.int .i64 (bt l o[k]).2) := by
  obtain ⟨h0, h1⟩ := ord_mem hp hk
  obtain ⟨m, hm⟩ := Int.eq_ofNat_of_zero_le h0
  obtain ⟨b', off', e', hb', hc'⟩ := h'.at hk
  obtain ⟨b, off, e, hb, hc1, hc2⟩ := h.at (k := m) (by omega)
  have hbt : bt l o[k] = l[m]'(by omega) := by
    rw [bt_get h0 h1]; congr 1; omega
  exact ⟨m, b, off, b', off', hm, by omega, e, e', hb, hb', by rw [hc', hm], by rw [hbt]; exact hc1, by rw [hbt]; exact hc2⟩

set_option maxHeartbeats 400000 in
theorem last_any (A A' : Option Addr) (c c' B : Nat) (l : List Bt) (o : List Int) (w : World) (h : PairsAt B w A l) (h' : IntsAt B w A' o) (hv : valB l = 0) (hp : o.Perm (iota l.length)) :
    Calls Try.prog 58 #[.slice A l.length c, .slice A' o.length c'] w fun e w' => e = .returned (.int .i64 (timeS (bts l o))) ∧ w = w' := by
  have h7 := (valB_zero hv).1
  have ho := ord_length hp
  have ho7 : o.length ≤ 7 := by omega
  clear ho
  go_enter Try.func58, Try.ntmps58
  go_wp2
  go_loop [5, 6, 10] (fun x y i => ∃ k : Nat, k ≤ o.length ∧ i = .int .i64 k ∧ x = .int .i64 (stAt l o k).1 ∧ y = .int .i64 (stAt l o k).2) (fun _ _ i => o.length - (intOf i).toNat)
  case atStart => exact ⟨0, Nat.zero_le _, rfl, rfl, rfl⟩
  case round =>
    obtain ⟨k, hk, rfl, rfl, rfl⟩ := hrel
    have hbd := stAt_bd hv hk
    by_cases hlt : k < o.length
    · obtain ⟨m, b, off, b', off', hm, hml, rfl, rfl, hb, hb', c0, c1, c2⟩ := ord_cells h h' hp hlt
      have hbt := bt_bd hv o[k]
      have hs := Lib.hid (stAt_succ l o hlt)
      clear hm
      go_wp2_with fail
      go_round
      case rel => exact ⟨k + 1, by omega, by go_num, by rw [hs.out]; rfl, by rw [hs.out]; rfl⟩
      case measure => simp [intOf]; omega
    · obtain rfl : k = o.length := by omega
      have hs := Lib.hid (stAt_all l o)
      go_wp2_with fail
      go_ret
      exact ⟨by rw [← hs.out]; rfl, rfl⟩

/-- What Time returns. -/
def timeR (l : List Bt) (o : List Int) : Int := if exB l o = 0 then timeS (bts l o) else 0

set_option maxHeartbeats 400000 in
theorem Time_any (A A' : Option Addr) (c c' B : Nat) (l : List Bt) (o : List Int) (w : World) (hB : B ≤ w.heap.size) (h : PairsAt B w A l) (h' : IntsAt B w A' o) (hm : l.length ≤ 1000) (hm' : o.length ≤ 1000) :
    Calls Try.prog 27 #[.slice A l.length c, .slice A' o.length c'] w fun e w' => e = .returned (.tuple #[.int .i64 (timeR l o), .int .i64 (exB l o)]) ∧ Below w.heap.size w w' := by
  have ce := Lib.hid (examine_any A A' c c' B l o w hB h h' hm hm')
  by_cases hx : exB l o = 0
  · obtain ⟨hv, hp⟩ := exB_zero hx
    have hr : timeR l o = timeS (bts l o) := if_pos hx
    rw [hx] at ce ⊢
    have cl : ∀ W, Below w.heap.size w W → Calls Try.prog 58 #[.slice A l.length c, .slice A' o.length c'] W fun e w' => e = .returned (.int .i64 (timeR l o)) ∧ W = w' := fun W hW => by
      rw [hr]; exact last_any A A' c c' w.heap.size l o W ((h.below (Below.refl _ _) hB).below hW (Nat.le_refl _)) ((h'.below (Below.refl _ _) hB).below hW (Nat.le_refl _)) hv hp
    have Cl := Lib.hid cl
    clear cl hr hp hv h h' hx
    go_enter Try.func27, Try.ntmps27
    go_wp2_with (first | (go_at_call 57; refine ce.out.mono ?_; rintro e w1 ⟨rfl, hb1⟩) | (go_at_call 58; refine (Cl.out _ hb1).mono ?_; rintro e w2 ⟨rfl, rfl⟩))
    go_ret2
    exact ⟨rfl, hb1⟩
  · have hr : timeR l o = 0 := if_neg hx
    have Hr := Lib.hid hr
    clear hr h h'
    have hne : (exB l o == 0) = false := by simpa using hx
    generalize exB l o = e0 at ce hx hne ⊢
    clear hx
    go_enter Try.func27, Try.ntmps27
    go_wp2_with (first | (go_at_call 57; refine ce.out.mono ?_; rintro e w1 ⟨rfl, hb1⟩))
    go_ret2
    exact ⟨by rw [Hr.out]; rfl, hb1⟩

theorem Time_known (b b' : Nat) (W : World) (hb : b < W.heap.size) (hb' : b' < W.heap.size)
    (c0 : W.cell? ⟨b, 0, none⟩ = some (.int .i64 3)) (c1 : W.cell? ⟨b, 1, none⟩ = some (.int .i64 6)) (c2 : W.cell? ⟨b, 2, none⟩ = some (.int .i64 7)) (c3 : W.cell? ⟨b, 3, none⟩ = some (.int .i64 2)) (c4 : W.cell? ⟨b, 4, none⟩ = some (.int .i64 4)) (c5 : W.cell? ⟨b, 5, none⟩ = some (.int .i64 7))
    (d0 : W.cell? ⟨b', 0, none⟩ = some (.int .i64 0)) (d1 : W.cell? ⟨b', 1, none⟩ = some (.int .i64 2)) (d2 : W.cell? ⟨b', 2, none⟩ = some (.int .i64 1)) :
    Calls Try.prog 27 #[.slice (some ⟨b, 0, none⟩) 3 3, .slice (some ⟨b', 0, none⟩) 3 3] W fun e w' => e = .returned (.tuple #[.int .i64 18, .int .i64 0]) ∧ Below W.heap.size W w' := by
  refine (Time_any (some ⟨b, 0, none⟩) (some ⟨b', 0, none⟩) 3 3 W.heap.size [(3, 6), (7, 2), (4, 7)] [0, 2, 1] W (Nat.le_refl _) ?_ ?_ (by decide) (by decide)).mono ?_
  · intro k hk
    refine ⟨b, 0, rfl, hb, fun j hj => ?_⟩
    match k, j, hk, hj with
    | 0, 0, _, _ => exact c0
    | 0, 1, _, _ => exact c1
    | 1, 0, _, _ => exact c2
    | 1, 1, _, _ => exact c3
    | 2, 0, _, _ => exact c4
    | 2, 1, _, _ => exact c5
  · intro k hk
    refine ⟨b', 0, rfl, hb', fun j hj => ?_⟩
    match k, j, hk, hj with
    | 0, 0, _, _ => exact d0
    | 1, 0, _, _ => exact d1
    | 2, 0, _, _ => exact d2
  · rintro e w' ⟨rfl, hb⟩
    exact ⟨congrArg Ending.returned (congrArg Value.tuple (by rw [show timeR [(3, 6), (7, 2), (4, 7)] [0, 2, 1] = 18 by decide +kernel, show exB [(3, 6), (7, 2), (4, 7)] [0, 2, 1] = 0 by decide +kernel])), hb⟩

set_option maxRecDepth 100000 in
set_option maxHeartbeats 400000 in
theorem known_any (w : World) : Calls Try.prog 18 #[] w fun e w' => e = .returned (.bool true) ∧ Below w.heap.size w w' := by
  have cc : ∀ W, Calls Try.prog 17 #[.int .i64 805, .int .i64 200, .int .i64 9, .int .i64 10, .int .i64 1] W fun e w' => e = .returned (.tuple #[.int .i64 744, .int .i64 0]) ∧ Below W.heap.size W w' := fun W => Cool_any 805 200 9 10 1 W
  have Cc := Lib.hid cc
  clear cc
  go_enter Try.func18, Try.ntmps18
  go_wp2_with (first | (go_at_call 27; refine (Time_known _ _ _ (by simp; omega) (by simp) (by simp) (by simp) (by simp) (by simp) (by simp) (by simp) (by simp) (by simp) (by simp)).mono ?_; rintro e w1 ⟨rfl, hb1⟩) | (go_at_call 17; refine (Cc.out _).mono ?_; rintro e w2 ⟨rfl, hb2⟩))
  go_ret
  exact ⟨rfl, (((Below.refl _ w).alloc (Nat.le_refl _) _).alloc (by simp) _).trans ((hb1.mono (by simp; omega)).trans (hb2.mono (by have := hb1.size; simp at this; omega)))⟩
end Go.Proofs.Ytoegemlpboeodaa
