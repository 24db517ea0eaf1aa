/- mask, contained, base. -/
import Derived.Test.YtgoojcjfhghmgaaDoorDisI
import Derived.Test.YtgoojcjfhghmgaaDoorDisF
namespace Go.Proofs.YtgoojcjfhghmgaaDoor
open Go.RowKit

/-- A set as a number. -/
def mkTo (l : List Nat) (k : Nat) : Nat := (l.take k).foldl (fun m x => m ||| 2 ^ x) 0
def mk (l : List Nat) : Nat := l.foldl (fun m x => m ||| 2 ^ x) 0
theorem mkTo_succ {l : List Nat} {k : Nat} (hk : k < l.length) : mkTo l (k + 1) = mkTo l k ||| 2 ^ l[k] := by
  unfold mkTo
  rw [List.take_succ_eq_append_getElem hk, List.foldl_append]; rfl
theorem mkTo_all (l : List Nat) : mkTo l l.length = mk l := by simp [mkTo, mk]
theorem mkTo_lt {l : List Nat} {n : Nat} (h : ∀ x ∈ l, x < n) : ∀ k, mkTo l k < 2 ^ n := by
  intro k
  unfold mkTo
  have key : ∀ (r : List Nat) (m : Nat), m < 2 ^ n → (∀ x ∈ r, x < n) → r.foldl (fun m x => m ||| 2 ^ x) m < 2 ^ n := by
    intro r
    induction r with
    | nil => intro m hm _; exact hm
    | cons x r ih =>
      intro m hm hr
      rw [List.foldl_cons]
      exact ih _ (Nat.or_lt_two_pow hm (Nat.pow_lt_pow_right (by decide) (hr x (by simp)))) fun y hy => hr y (by simp [hy])
  exact key _ 0 (Nat.two_pow_pos n) fun x hx => h x (List.mem_of_mem_take hx)
theorem mk_lt {l : List Nat} {n : Nat} (h : ∀ x ∈ l, x < n) : mk l < 2 ^ n := by rw [← mkTo_all]; exact mkTo_lt h _
theorem mk_bit (l : List Nat) (i : Nat) : (mk l).testBit i = l.contains i := by
  unfold mk
  have key : ∀ (r : List Nat) (m : Nat), (r.foldl (fun m x => m ||| 2 ^ x) m).testBit i = (m.testBit i || r.contains i) := by
    intro r
    induction r with
    | nil => intro m; simp
    | cons x r ih =>
      intro m
      rw [List.foldl_cons, ih, Nat.testBit_or, Nat.testBit_two_pow, List.contains_cons, Bool.or_assoc]
      congr 2
      rw [Bool.eq_iff_iff, decide_eq_true_eq, beq_iff_eq]; exact eq_comm
  rw [key]; simp
theorem or_pow {m x : Nat} (hm : m < 2 ^ 60) (hx : x < 60) : bits BinOp.or IntKind.i64 (m : Int) (wrap64 ((2 : Int) ^ x)) = ((m ||| 2 ^ x : Nat) : Int) := by
  have h1 : wrap64 ((2 : Int) ^ x) = ((2 ^ x : Nat) : Int) := by rw [pow_wrap (by omega)]; simp
  have h2 : 2 ^ x < 2 ^ 60 := Nat.pow_lt_pow_right (by decide) hx
  rw [h1]
  exact or_nat m (2 ^ x) (by omega) (by omega)

set_option maxRecDepth 100000 in
set_option maxHeartbeats 1000000 in
theorem mask_any (A : Option Addr) (c B : Nat) (l : List Nat) (w : World) (h : IntsAt B w A (intL l)) (hm : l.length ≤ 1000) (hl : ∀ x ∈ l, x < 60) :
    Calls Tryd.prog 76 #[.slice A l.length c] w fun e w' => e = .returned (.int .i64 (mk l)) ∧ w = w' := by
  have hll : (intL l).length = l.length := by simp [intL]
  go_enter Tryd.func76, Tryd.ntmps76
  go_wp2_with fail
  go_loop [3, 8] (fun x i => ∃ k : Nat, k ≤ l.length ∧ i = .int .i64 k ∧ x = .int .i64 (mkTo l k)) (fun _ i => l.length - (intOf i).toNat)
  case atStart => exact ⟨0, Nat.zero_le _, rfl, rfl⟩
  case round =>
    obtain ⟨k, hk, rfl, rfl⟩ := hrel
    by_cases hlt : k < l.length
    · obtain ⟨b, off, rfl, hbB, c0⟩ := h.at (k := k) (by omega)
      have e1 : (intL l)[k]'(by omega) = ((l[k] : Nat) : Int) := by simp [intL]
      rw [e1] at c0
      have hx := hl l[k] (List.getElem_mem hlt)
      have key := or_pow (mkTo_lt hl k) hx
      have Hs := Lib.hid (mkTo_succ hlt)
      generalize l[k] = x at c0 key hx Hs
      clear e1
      go_wp2_with fail
      go_round
      case rel => exact ⟨k + 1, by omega, by go_num, by rw [Hs.out]⟩
      case measure => simp [intOf]; omega
    · obtain rfl : k = l.length := by omega
      have Ha := Lib.hid (mkTo_all l)
      go_wp2_with fail
      go_ret
      exact ⟨by rw [← Ha.out]; rfl, rfl⟩
end Go.Proofs.YtgoojcjfhghmgaaDoor
