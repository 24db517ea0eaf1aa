/- SameInts, the searches with a closure, feeds, ValidateTable. -/
import Derived.Test.YtgoojcjfhghmgaaDoorDisA
import Derived.WalkSpells
import Derived.Deep.QuietTactic
import Derived.BigQuiet
namespace Go.Proofs.YtgoojcjfhghmgaaDoor
open Go.RowKit

/-- Some words drawn more. -/
def Drew (w w' : World) : Prop := ∃ n, w' = w.drewN n
theorem Drew.cell {w w' : World} (h : Drew w w') (p : Addr) : w'.cell? p = w.cell? p := by obtain ⟨n, rfl⟩ := h; rfl
theorem below_drewN {B : Nat} {a w : World} (h : Below B a w) (n : Nat) : Below B a (w.drewN n) := ⟨h.os, h.tape, h.output, h.size, h.block⟩
theorem Drew.drewN {w w' : World} (h : Drew w w') (m : Nat) : Drew w (w'.drewN m) := by obtain ⟨n, rfl⟩ := h; exact ⟨n + m, by rw [World.drewN_drewN]⟩
theorem Drew.below {w w' : World} (h : Drew w w') (B : Nat) : Below B w w' := by obtain ⟨n, rfl⟩ := h; exact below_drewN (Below.refl _ _) n

theorem pow_wrap {d : Nat} (h : d < 63) : wrap64 ((2 : Int) ^ d) = (2 : Int) ^ d := by
  have : ∀ d, d < 63 → wrap64 ((2 : Int) ^ d) = (2 : Int) ^ d := by decide +kernel
  exact this d h
set_option maxHeartbeats 1000000 in
theorem bad_any (x : Int) (d g : Nat) (hd : d ≤ 8) (w : World) (hc : w.cell? ⟨g, 0, none⟩ = some (.int .i64 d)) :
    Calls Tryd.prog 84 #[.int .i64 x, .pointer (some ⟨g, 0, none⟩)] w fun e w' => e = .returned (.bool (decide (x < 0 ∨ (2 : Int) ^ d ≤ x))) ∧ w = w' := by
  have hp := Lib.hid (pow_wrap (show d < 63 by omega))
  go_enter Tryd.func84, Tryd.ntmps84
  go_wp2
  · go_ret
    refine ⟨?_, rfl⟩
    show Ending.returned (Value.bool (decide (x < 0) || decide (wrap64 (2 ^ d) ≤ x))) = _
    rw [hp.out]; simp
  · go_ret
    exact ⟨by simp_all, rfl⟩
set_option maxHeartbeats 1000000 in
theorem none_any (x m g : Nat) (hx : x < 1152921504606846976) (hm : m < 1152921504606846976) (w : World) (hc : w.cell? ⟨g, 0, none⟩ = some (.int .i64 m)) :
    Calls Tryd.prog 107 #[.int .i64 x, .pointer (some ⟨g, 0, none⟩)] w fun e w' => e = .returned (.bool (x &&& m == 0)) ∧ w = w' := by
  have key := and_nat x m (by omega) (by omega)
  have h2 : (((x &&& m : Nat) : Int) == 0) = (x &&& m == 0) := by
    rw [Bool.eq_iff_iff]; simp
  generalize x &&& m = z at key h2 ⊢
  go_enter Tryd.func107, Tryd.ntmps107
  go_wp2
  go_ret
  exact ⟨by rw [← h2]; rfl, rfl⟩

set_option maxRecDepth 100000 in
set_option maxHeartbeats 1000000 in
theorem index84 (A : Option Addr) (c B g : Nat) (l : List Int) (p : Int → Bool) (w : World) (h : IntsAt B w A l) (hm : l.length ≤ 1000)
    (hC : ∀ x ∈ l, Calls Tryd.prog 84 #[.int .i64 x, .pointer (some ⟨g, 0, none⟩)] w fun e w' => e = .returned (.bool (p x)) ∧ w = w') :
    Calls Tryd.prog 110 #[.slice A l.length c, .func (.func 84) #[] #[.pointer (some ⟨g, 0, none⟩)]] w fun e w' => ∃ z : Int, e = .returned (.int .i64 z) ∧ decide (0 ≤ z) = l.any p ∧ w = w' := by
  have HC := Lib.hid hC
  clear hC
  go_enter Tryd.func110, Tryd.ntmps110
  go_wp2_with fail
  go_loop [8] (fun i => ∃ k : Nat, k ≤ l.length ∧ i = .int .i64 k ∧ ∀ j (hj : j < l.length), j < k → p l[j] = false) (fun i => l.length - (intOf i).toNat)
  case atStart => exact ⟨0, Nat.zero_le _, rfl, fun j hj hk => by omega⟩
  case round =>
    obtain ⟨k, hk, rfl, hn⟩ := hrel
    by_cases hlt : k < l.length
    · obtain ⟨b, off, rfl, hbB, c0⟩ := h.at hlt
      have cc := Lib.hid (HC.out l[k] (List.getElem_mem hlt))
      have Hn := Lib.hid hn
      clear hn
      cases hp : p l[k] with
      | true =>
        rw [hp] at cc
        have Ha := Lib.hid (show l.any p = true from List.any_eq_true.2 ⟨l[k], List.getElem_mem hlt, hp⟩)
        clear hp
        go_wp2_with (go_at_call 84; refine cc.out.mono ?_; rintro e w1 ⟨rfl, rfl⟩)
        go_ret
        exact ⟨_, rfl, by rw [Ha.out]; simp, rfl⟩
      | false =>
        rw [hp] at cc
        have Hp := Lib.hid hp
        clear hp
        go_wp2_with (go_at_call 84; refine cc.out.mono ?_; rintro e w1 ⟨rfl, rfl⟩)
        go_round
        case rel =>
          refine ⟨k + 1, by omega, by go_num, fun j hj hjk => ?_⟩
          by_cases e : j = k
          · subst e; exact Hp.out
          · exact Hn.out j hj (by omega)
        case measure => simp [intOf]; omega
    · obtain rfl : k = l.length := by omega
      have Ha := Lib.hid (show l.any p = false by
        rw [List.any_eq_false]
        intro x hx
        obtain ⟨i, hi, rfl⟩ := List.getElem_of_mem hx
        rw [hn i hi hi]; simp)
      clear hn
      go_wp2_with fail
      go_ret
      exact ⟨_, rfl, by rw [Ha.out]; simp, rfl⟩
theorem contains84 (A : Option Addr) (c B g : Nat) (l : List Int) (p : Int → Bool) (w : World) (h : IntsAt B w A l) (hm : l.length ≤ 1000)
    (hC : ∀ x ∈ l, Calls Tryd.prog 84 #[.int .i64 x, .pointer (some ⟨g, 0, none⟩)] w fun e w' => e = .returned (.bool (p x)) ∧ w = w') :
    Calls Tryd.prog 83 #[.slice A l.length c, .func (.func 84) #[] #[.pointer (some ⟨g, 0, none⟩)]] w fun e w' => e = .returned (.bool (l.any p)) ∧ w = w' := by
  have ci := Lib.hid (index84 A c B g l p w h hm hC)
  generalize l.any p = a at ci ⊢
  clear h hC
  go_enter Tryd.func83, Tryd.ntmps83
  go_wp2_with (go_at_call 110; refine ci.out.mono ?_; rintro e w1 ⟨z, rfl, hz, rfl⟩)
  go_ret
  exact ⟨by rw [← hz]; rfl, rfl⟩

set_option maxRecDepth 100000 in
set_option maxHeartbeats 1000000 in
theorem index107 (A : Option Addr) (c B g : Nat) (l : List Int) (p : Int → Bool) (w : World) (h : IntsAt B w A l) (hm : l.length ≤ 1000)
    (hC : ∀ x ∈ l, Calls Tryd.prog 107 #[.int .i64 x, .pointer (some ⟨g, 0, none⟩)] w fun e w' => e = .returned (.bool (p x)) ∧ w = w') :
    Calls Tryd.prog 110 #[.slice A l.length c, .func (.func 107) #[] #[.pointer (some ⟨g, 0, none⟩)]] w fun e w' => ∃ z : Int, e = .returned (.int .i64 z) ∧ decide (0 ≤ z) = l.any p ∧ w = w' := by
  have HC := Lib.hid hC
  clear hC
  go_enter Tryd.func110, Tryd.ntmps110
  go_wp2_with fail
  go_loop [8] (fun i => ∃ k : Nat, k ≤ l.length ∧ i = .int .i64 k ∧ ∀ j (hj : j < l.length), j < k → p l[j] = false) (fun i => l.length - (intOf i).toNat)
  case atStart => exact ⟨0, Nat.zero_le _, rfl, fun j hj hk => by omega⟩
  case round =>
    obtain ⟨k, hk, rfl, hn⟩ := hrel
    by_cases hlt : k < l.length
    · obtain ⟨b, off, rfl, hbB, c0⟩ := h.at hlt
      have cc := Lib.hid (HC.out l[k] (List.getElem_mem hlt))
      have Hn := Lib.hid hn
      clear hn
      cases hp : p l[k] with
      | true =>
        rw [hp] at cc
        have Ha := Lib.hid (show l.any p = true from List.any_eq_true.2 ⟨l[k], List.getElem_mem hlt, hp⟩)
        clear hp
        go_wp2_with (go_at_call 107; refine cc.out.mono ?_; rintro e w1 ⟨rfl, rfl⟩)
        go_ret
        exact ⟨_, rfl, by rw [Ha.out]; simp, rfl⟩
      | false =>
        rw [hp] at cc
        have Hp := Lib.hid hp
        clear hp
        go_wp2_with (go_at_call 107; refine cc.out.mono ?_; rintro e w1 ⟨rfl, rfl⟩)
        go_round
        case rel =>
          refine ⟨k + 1, by omega, by go_num, fun j hj hjk => ?_⟩
          by_cases e : j = k
          · subst e; exact Hp.out
          · exact Hn.out j hj (by omega)
        case measure => simp [intOf]; omega
    · obtain rfl : k = l.length := by omega
      have Ha := Lib.hid (show l.any p = false by
        rw [List.any_eq_false]
        intro x hx
        obtain ⟨i, hi, rfl⟩ := List.getElem_of_mem hx
        rw [hn i hi hi]; simp)
      clear hn
      go_wp2_with fail
      go_ret
      exact ⟨_, rfl, by rw [Ha.out]; simp, rfl⟩
theorem contains107 (A : Option Addr) (c B g : Nat) (l : List Int) (p : Int → Bool) (w : World) (h : IntsAt B w A l) (hm : l.length ≤ 1000)
    (hC : ∀ x ∈ l, Calls Tryd.prog 107 #[.int .i64 x, .pointer (some ⟨g, 0, none⟩)] w fun e w' => e = .returned (.bool (p x)) ∧ w = w') :
    Calls Tryd.prog 83 #[.slice A l.length c, .func (.func 107) #[] #[.pointer (some ⟨g, 0, none⟩)]] w fun e w' => e = .returned (.bool (l.any p)) ∧ w = w' := by
  have ci := Lib.hid (index107 A c B g l p w h hm hC)
  generalize l.any p = a at ci ⊢
  clear h hC
  go_enter Tryd.func83, Tryd.ntmps83
  go_wp2_with (go_at_call 110; refine ci.out.mono ?_; rintro e w1 ⟨z, rfl, hz, rfl⟩)
  go_ret
  exact ⟨by rw [← hz]; rfl, rfl⟩

/-- The error of a table. -/
def vtR (l : List Int) (d : Int) : Int := if d < 0 ∨ 8 < d then 1 else if 8 < l.length then 4 else if l.any (fun x => decide (x < 0 ∨ (2 : Int) ^ d.toNat ≤ x)) then 1 else 0
set_option maxRecDepth 100000 in
set_option maxHeartbeats 1000000 in
theorem vt_any (A : Option Addr) (c B : Nat) (l : List Int) (d : Int) (w : World) (hB : B ≤ w.heap.size) (h : IntsAt B w A l) (hm : l.length ≤ 1000) :
    Calls Tryd.prog 39 #[.slice A l.length c, .int .i64 d] w fun e w' => e = .returned (.int .i64 (vtR l d)) ∧ Below w.heap.size w w' := by
  by_cases h1 : d < 0 ∨ 8 < d
  · have Hr := Lib.hid (show vtR l d = 1 from if_pos h1)
    rcases h1 with h1 | h1
    all_goals
      go_enter Tryd.func39, Tryd.ntmps39
      go_wp2
      go_ret
      exact ⟨by rw [Hr.out]; rfl, (Below.refl _ _).alloc (Nat.le_refl _) _⟩
  · obtain ⟨d, rfl⟩ := Int.eq_ofNat_of_zero_le (show 0 ≤ d by omega)
    have hd8 : d ≤ 8 := by omega
    have h1' := Lib.hid h1
    clear h1
    by_cases h2 : 8 < l.length
    · have Hr := Lib.hid (show vtR l d = 4 by rw [vtR, if_neg h1'.out, if_pos h2])
      go_enter Tryd.func39, Tryd.ntmps39
      go_wp2
      go_ret
      exact ⟨by rw [Hr.out]; rfl, (Below.refl _ _).alloc (Nat.le_refl _) _⟩
    · have hb0 := Blk.new w 3 #[.int .i64 (d : Int)]
      have hw0 : Below w.heap.size w (w.alloc (.cells #[.int .i64 (d : Int)] 3)) := (Below.refl _ _).alloc (Nat.le_refl _) _
      have cc := Lib.hid (contains84 A c w.heap.size w.heap.size l (fun x => decide (x < 0 ∨ (2 : Int) ^ d ≤ x)) (w.alloc (.cells #[.int .i64 (d : Int)] 3)) ((h.below (Below.refl _ _) hB).below hw0 (Nat.le_refl _)) hm (fun x _ => bad_any x d w.heap.size hd8 _ (hb0.cell 0)))
      have Hr := Lib.hid (show vtR l d = if l.any (fun x => decide (x < 0 ∨ (2 : Int) ^ d ≤ x)) then 1 else 0 by rw [vtR, if_neg h1'.out, if_neg h2]; rfl)
      generalize l.any (fun x => decide (x < 0 ∨ (2 : Int) ^ d ≤ x)) = a at cc Hr
      clear h hb0
      cases a
      all_goals
        go_enter Tryd.func39, Tryd.ntmps39
        go_wp2_with (go_at_call 83; refine cc.out.mono ?_; rintro e w1 ⟨rfl, rfl⟩)
        go_ret
        exact ⟨by rw [Hr.out]; rfl, hw0⟩
/-- Every child can eat a dish of a set. -/
def fdR (l : List Nat) (m : Nat) : Bool := !l.any fun x => x &&& m == 0
def intL (l : List Nat) : List Int := l.map fun x : Nat => (x : Int)
set_option maxRecDepth 100000 in
set_option maxHeartbeats 1000000 in
theorem feeds_any (A : Option Addr) (c B : Nat) (l : List Nat) (m : Nat) (w : World) (hB : B ≤ w.heap.size) (h : IntsAt B w A (intL l)) (hm : l.length ≤ 1000) (hl : ∀ x ∈ l, x < 1152921504606846976) (hmm : m < 1152921504606846976) :
    Calls Tryd.prog 64 #[.slice A l.length c, .int .i64 m] w fun e w' => e = .returned (.bool (fdR l m)) ∧ Below w.heap.size w w' := by
  have hb0 := Blk.new w 3 #[.int .i64 (m : Int)]
  have hw0 : Below w.heap.size w (w.alloc (.cells #[.int .i64 (m : Int)] 3)) := (Below.refl _ _).alloc (Nat.le_refl _) _
  have hll : (intL l).length = l.length := by simp [intL]
  have cc0 := contains107 A c w.heap.size w.heap.size (intL l) (fun x => x.toNat &&& m == 0) (w.alloc (.cells #[.int .i64 (m : Int)] 3)) ((h.below (Below.refl _ _) hB).below hw0 (Nat.le_refl _)) (by rw [hll]; exact hm) (fun x hx => by
    simp only [intL, List.mem_map] at hx
    obtain ⟨y, hy, rfl⟩ := hx
    exact none_any y m w.heap.size (hl y hy) hmm _ (hb0.cell 0))
  have ha : (intL l).any (fun x => x.toNat &&& m == 0) = l.any fun x => x &&& m == 0 := by
    rw [intL, List.any_map]; rfl
  rw [hll, ha] at cc0
  have cc := Lib.hid cc0
  unfold fdR
  generalize (l.any fun x => x &&& m == 0) = a at cc ⊢
  clear h hb0 hll cc0 ha hl
  go_enter Tryd.func64, Tryd.ntmps64
  go_wp2_with (go_at_call 83; refine cc.out.mono ?_; rintro e w1 ⟨rfl, rfl⟩)
  go_ret
  exact ⟨rfl, hw0⟩
end Go.Proofs.YtgoojcjfhghmgaaDoor
