/- TrailingZeros, list. -/
import Derived.Test.YtgoojcjfhghmgaaDoorProg
import Derived.Test.YtgoojcjfhghmgaaDoorLists
import Derived.Shelf.Spec.TrailingZeros
import Derived.Laws.Bits64b
namespace Go.Proofs.YtgoojcjfhghmgaaDoor
open Go.RowKit

/-- The table of the library's, as start-up lays it. -/
def Tab (w : World) : Prop := TabAt 1 Lib.deBruijn64tab w ∧ 1 < w.heap.size
theorem Tab.below {B : Nat} {w w' : World} (h : Tab w) (hb : Below B w w') (hB : 1 < B) : Tab w' :=
  ⟨fun j hj => (hb.cell (p := ⟨1, j, none⟩) hB).trans (h.1 j hj), Nat.lt_of_lt_of_le h.2 hb.size⟩

set_option maxHeartbeats 1000000 in
theorem tz64_core (x k idx : Nat) (w : World) (hx0 : ((x : Int) == 0) = false)
    (key : IntKind.u64.wrap (bits BinOp.and IntKind.u64 (x : Int) (IntKind.u64.wrap (-(x : Int))) * 285870213051353865) / 288230376151711744 = (idx : Int))
    (hi : idx < 64) (hk : k < 64) (hcell : w.cell? ⟨1, idx, none⟩ = some (.int .u8 k)) :
    Calls Tryd.prog 120 #[.int .u64 x] w fun e w' => e = .returned (.int .i64 k) ∧ w = w' := by
  go_enter Tryd.func120, Tryd.ntmps120
  go_wp2_with (simp only [key])
  go_ret
  exact ⟨rfl, rfl⟩
theorem tz64_any (x : Nat) (hx : x < 18446744073709551616) (hx0 : x ≠ 0) (w : World) (hT : Tab w) :
    Calls Tryd.prog 120 #[.int .u64 x] w fun e w' => e = .returned (.int .i64 (Lib.ctz 64 x)) ∧ w = w' := by
  obtain ⟨hlow, hk⟩ := Lib.lowest_bit 64 x hx0 hx
  obtain ⟨hi, htab⟩ := Lib.deBruijn64_at _ hk
  have hcell := hT.1 _ hi
  rw [htab] at hcell
  exact tz64_core x _ _ w (by simp; omega) (tz64_key x _ hx hx0 hlow) hi hk hcell
set_option maxHeartbeats 1000000 in
theorem tz_any (x : Nat) (hx : x < 18446744073709551616) (hx0 : x ≠ 0) (w : World) (hT : Tab w) :
    Calls Tryd.prog 108 #[.int .u64 x] w fun e w' => e = .returned (.int .i64 (Lib.ctz 64 x)) ∧ w = w' := by
  have c := Lib.hid (tz64_any x hx hx0 w hT)
  have hw : IntKind.u64.wrap (x : Int) = (x : Int) := by rw [IntKind.wrap_u64]; omega
  clear hT
  go_enter Tryd.func108, Tryd.ntmps108
  go_wp2_with (go_at_call 120; refine c.out.mono ?_; rintro e w1 ⟨rfl, rfl⟩)
  go_ret
  exact ⟨rfl, rfl⟩
theorem ofInt_nat (a : Nat) (ha : a < 9223372036854775808) : (BitVec.ofInt 64 (a : Int)).toNat = a := by
  rw [BitVec.ofInt_natCast, BitVec.toNat_ofNat]; exact Nat.mod_eq_of_lt (by omega)
theorem and_nat (a b : Nat) (ha : a < 9223372036854775808) (hb : b < 9223372036854775808) : bits .and .i64 (a : Int) (b : Int) = ((a &&& b : Nat) : Int) := by
  have hx : a &&& b < 2 ^ 63 := Nat.and_lt_two_pow _ (by omega)
  show IntKind.i64.wrap ((BitVec.ofInt 64 (a : Int) &&& BitVec.ofInt 64 (b : Int)).toNat : Int) = _
  rw [BitVec.toNat_and, ofInt_nat a ha, ofInt_nat b hb, IntKind.wrap_i64]
  omega
theorem or_nat (a b : Nat) (ha : a < 9223372036854775808) (hb : b < 9223372036854775808) : bits .or .i64 (a : Int) (b : Int) = ((a ||| b : Nat) : Int) := by
  have hx : a ||| b < 2 ^ 63 := Nat.or_lt_two_pow (by omega) (by omega)
  show IntKind.i64.wrap ((BitVec.ofInt 64 (a : Int) ||| BitVec.ofInt 64 (b : Int)).toNat : Int) = _
  rw [BitVec.toNat_or, ofInt_nat a ha, ofInt_nat b hb, IntKind.wrap_i64]
  omega
/-- The places of the bits of a number, in ascending order. -/
def bl (m : Nat) : List Nat := if h : m = 0 then [] else Lib.ctz 64 m :: bl (m &&& (m - 1))
termination_by m
decreasing_by
  have := Nat.and_le_right (n := m) (m := m - 1)
  omega
theorem bl_zero : bl 0 = [] := by rw [bl]; simp
theorem bl_pos {m : Nat} (h : m ≠ 0) : bl m = Lib.ctz 64 m :: bl (m &&& (m - 1)) := by rw [bl]; simp [h]
theorem info3 : (Tryd.prog.info? 3).map (fun i => (i.zero, i.size, i.bytes)) = some (some (.int .i64 0), 1, 8) := by kernel_rfl
theorem clear_lt {r : Nat} (h : r ≠ 0) : r &&& (r - 1) < r := by
  have := Nat.and_le_right (n := r) (m := r - 1)
  omega
def natV (ds : List Nat) : List Value := ds.map fun d : Nat => .int .i64 (d : Int)

set_option maxHeartbeats 1000000 in
theorem list_any (m : Nat) (hm : m < 1152921504606846976) (w : World) (hT : Tab w) (hlen : (bl m).length ≤ 1000) :
    Calls Tryd.prog 65 #[.int .i64 m] w fun e w' => ∃ v, e = .returned v ∧ w'.ownsRow w.heap.size 3 1 v (bl m).length (natV (bl m)) ∧ Below w.heap.size w w' := by
  obtain ⟨j0, hj, hy0, hy1, hy2⟩ := info_parts info3
  go_enter Tryd.func65, Tryd.ntmps65
  go_wp2_with fail
  go_loopw [0, 3] (fun x out wr => ∃ (r : Nat) (ds : List Nat), r ≤ m ∧ x = .int .i64 r ∧ ds ++ bl r = bl m ∧ wr.ownsRow w.heap.size 3 1 out ds.length (natV ds) ∧ Below w.heap.size w wr) (fun x _ _ => (intOf x).toNat)
  case atStart => exact ⟨m, [], Nat.le_refl _, rfl, rfl, World.ownsRow_nil _ _ _ _, Below.refl _ _⟩
  case round =>
    obtain ⟨r, ds, hr, rfl, hd, hown, hb⟩ := hrel
    by_cases h0 : r = 0
    · subst h0
      rw [bl_zero, List.append_nil] at hd
      subst hd
      go_wp2_with fail
      go_ret
      exact ⟨_, rfl, hown, hb⟩
    · have hne : ((r : Int) != 0) = true := by rw [bne_iff_ne]; omega
      have hne2 : ((r : Int) == 0) = false := by rw [beq_eq_false_iff_ne]; omega
      have e1 : (r : Int) - 1 = ((r - 1 : Nat) : Int) := by omega
      have key : bits BinOp.and IntKind.i64 (r : Int) ((r : Int) - 1) = ((r &&& (r - 1) : Nat) : Int) := by rw [e1]; exact and_nat r (r - 1) (by omega) (by omega)
      have ct := Lib.hid (fun W hW => tz_any r (by omega) h0 W (hT.below (w' := W) hW hT.2))
      have hlt := clear_lt h0
      have Hd := Lib.hid (show ds ++ [Lib.ctz 64 r] ++ bl (r &&& (r - 1)) = bl m by rw [← hd, bl_pos h0]; simp)
      have hdl : ds.length ≤ 1000 := by
        have := congrArg List.length hd
        rw [List.length_append] at this; omega
      have HO := Lib.hid hown
      generalize Lib.ctz 64 r = z at ct Hd
      generalize r &&& (r - 1) = r2 at key hlt Hd
      clear e1 hd hown
      go_wp2_with (first
        | (go_at_call 108; refine (ct.out _ hb).mono ?_; rintro e w1 ⟨rfl, rfl⟩)
        | (at_builtin; refine wpList_append_own _ rfl _ _ 32 rfl w.heap.size 3 j0 _ 1 8 Tryd.underlying32 hj hy0 hy1 hy2 rfl (by decide) _ _ _ rfl (HO.out.alloc _) ⟨wr.heap.size, 0, none⟩ 1 1 _ rfl rfl (cell_one_new _ _ _) (by simp [Value.oneCell']) (by simp only [maxLen]; omega) (by omega) (hb.alloc hb.size _).size ?_; intro v' w4 hown4 hg4 _))
      have b4 : Below w.heap.size w w4 := (hb.alloc hb.size _).grown hg4 (hb.alloc hb.size _).size (fun x hx => (HO.out.lt x hx).1)
      go_roundw
      case rel => exact ⟨r2, ds ++ [z], by omega, rfl, Hd.out, by rw [List.length_append, natV, List.map_append]; exact hown4, b4⟩
      case measure => simp [intOf]; omega
end Go.Proofs.YtgoojcjfhghmgaaDoor
