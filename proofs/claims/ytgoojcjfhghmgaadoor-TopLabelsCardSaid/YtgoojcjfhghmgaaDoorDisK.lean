/- Valid books; contained, base. -/
import Derived.Test.YtgoojcjfhghmgaaDoorDisJ
namespace Go.Proofs.YtgoojcjfhghmgaaDoor
open Go.RowKit

def natL (l : List Int) : List Nat := l.map Int.toNat
theorem int_nat {l : List Int} (h : ∀ x ∈ l, 0 ≤ x) : intL (natL l) = l := by
  unfold intL natL
  rw [List.map_map]
  conv => rhs; rw [← List.map_id l]
  refine List.map_congr_left fun x hx => ?_
  have := h x hx
  simp only [Function.comp, id]; omega
theorem natL_length (l : List Int) : (natL l).length = l.length := by simp [natL]
theorem isS_mem {l : List Int} {n : Int} (h : isS l n = true) : ∀ x ∈ l, 0 ≤ x ∧ x < n := by
  intro x hx
  simp only [isS, Bool.and_eq_true, List.all_eq_true, decide_eq_true_eq] at h
  exact h.2 x hx
theorem natL_lt {l : List Int} {n : Nat} (h : ∀ x ∈ l, 0 ≤ x ∧ x < (n : Int)) : ∀ x ∈ natL l, x < n := by
  intro x hx
  simp only [natL, List.mem_map] at hx
  obtain ⟨y, hy, rfl⟩ := hx
  have := h y hy
  omega
theorem itsE_zero {p : Int} : ∀ (l : List It) (i : Nat), itsE p i l = 0 → ∀ k (hk : k < l.length), l[k].1.length ≤ 6 ∧ isS l[k].1 ((i + k : Nat) : Int) = true ∧ isS l[k].2 p = true
  | x :: l, i, h, k, hk => by
    unfold itsE at h
    split at h
    · rename_i h0
      cases k with
      | zero =>
        unfold itE at h0
        split at h0
        · omega
        · split at h0
          · rename_i h2
            simp only [Bool.and_eq_true] at h2
            exact ⟨by simp; omega, by simpa using h2.1, by simpa using h2.2⟩
          · omega
      | succ k =>
        have := itsE_zero l (i + 1) h k (by simpa using hk)
        rw [show i + 1 + k = i + (k + 1) by omega] at this
        simpa using this
    · rename_i h0; exact absurd h h0
/-- What holds of a valid book. -/
structure VBk (b : Bk) : Prop where
  p0 : 0 ≤ b.p
  p1 : b.p ≤ 10
  ni : b.its.length ≤ 20
  nr : b.rus.length ≤ 16
  parts : ∀ k (hk : k < b.its.length), b.its[k].1.length ≤ 6 ∧ isS b.its[k].1 (k : Int) = true ∧ isS b.its[k].2 b.p = true
  rules : ∀ x ∈ b.rus, ruOk b.p x = true
theorem vl_zero {b : Bk} (h : vlR b = 0) : VBk b := by
  unfold vlR at h
  split at h
  · omega
  · split at h
    · omega
    · split at h
      · rename_i h1 h2 h3
        split at h
        · rename_i h4
          refine ⟨by omega, by omega, by omega, by omega, fun k hk => ?_, fun x hx => ?_⟩
          · have := itsE_zero b.its 0 h3 k hk
            simpa using this
          · exact List.all_eq_true.1 h4 x hx
        · omega
      · rename_i h3; exact absurd h h3
/-- The parts of an item, what it has, as numbers. -/
def prt (b : Bk) (k : Nat) : List Nat := natL ((b.its[k]?.getD ([], [])).1)
def hasL (b : Bk) (k : Nat) : List Nat := natL ((b.its[k]?.getD ([], [])).2)
/-- What is contained, looked at from an item on downwards. -/
def cnF (b : Bk) : Nat → Nat → Nat
  | 0, m => m
  | i + 1, m => cnF b i (if m.testBit i then m ||| mk (prt b i) else m)
def cnS (b : Bk) (item : Nat) : Nat := cnF b (item + 1) (2 ^ item)
theorem prt_lt {b : Bk} (h : VBk b) {k : Nat} (hk : k < b.its.length) : ∀ x ∈ prt b k, x < k := by
  unfold prt
  simp only [hk, List.getElem?_eq_getElem, Option.getD_some]
  exact natL_lt (isS_mem (h.parts k hk).2.1)
theorem bit_test {m i : Nat} (hm : m < 2 ^ 60) : bits BinOp.and IntKind.i64 ((m : Int) / (2 : Int) ^ i) 1 = if m.testBit i then 1 else 0 := by
  have e1 : (m : Int) / (2 : Int) ^ i = ((m / 2 ^ i : Nat) : Int) := by simp
  have h1 : m / 2 ^ i ≤ m := Nat.div_le_self _ _
  have h2 := and_nat (m / 2 ^ i) 1 (by omega) (by omega)
  rw [e1]
  have h3 : bits BinOp.and IntKind.i64 ((m / 2 ^ i : Nat) : Int) 1 = ((m / 2 ^ i &&& 1 : Nat) : Int) := h2
  rw [h3, Nat.and_one_is_mod, Nat.testBit_eq_decide_div_mod_eq]
  by_cases h4 : m / 2 ^ i % 2 = 1
  · simp [h4]
  · have : m / 2 ^ i % 2 = 0 := by omega
    simp [this]

set_option maxRecDepth 100000 in
set_option maxHeartbeats 2000000 in
theorem contained_any (AI AR : Option Addr) (cI cR B : Nat) (b : Bk) (item : Nat) (w : World) (hB : B ≤ w.heap.size) (h : ItsAt B w AI b.its) (hv : VBk b) (hi : item < b.its.length) :
    Calls Tryd.prog 68 #[.agg #[.int .i64 b.p, .slice AI b.its.length cI, .slice AR b.rus.length cR], .int .i64 item] w fun e w' => e = .returned (.int .i64 (cnS b item)) ∧ cnS b item < 2 ^ 20 ∧ Below w.heap.size w w' := by
  have hw0 : Below w.heap.size w (w.alloc (.cells #[.int .i64 b.p, .slice AI b.its.length cI, .slice AR b.rus.length cR] 25)) := (Below.refl _ _).alloc (Nat.le_refl _) _
  have hb0 := Blk.new w 25 #[.int .i64 b.p, .slice AI b.its.length cI, .slice AR b.rus.length cR]
  have ni := hv.ni
  have hp : wrap64 ((2 : Int) ^ item) = ((2 ^ item : Nat) : Int) := by rw [pow_wrap (by omega)]; simp
  have h220 : 2 ^ item < 2 ^ 20 := Nat.pow_lt_pow_right (by decide) (by omega)
  have H := Lib.hid ((h.below (Below.refl _ _) hB).below hw0 (Nat.le_refl _))
  have hx1 := hb0.cell 1
  have Hw := Lib.hid hw0
  have hbs : w.heap.size < (w.alloc (.cells #[.int .i64 b.p, .slice AI b.its.length cI, .slice AR b.rus.length cR] 25)).heap.size := hb0.lt
  have hcn : cnF b (item + 1) (2 ^ item) = cnS b item := rfl
  generalize 2 ^ item = P at hp h220 hcn
  have Hcn := Lib.hid hcn
  clear h hw0 hb0 hcn
  go_enter Tryd.func68, Tryd.ntmps68
  go_wp2_with fail
  try rw [hp]
  clear hp
  go_loop [5, 6] (fun x i => ∃ k m : Nat, k ≤ item + 1 ∧ i = .int .i64 ((k : Int) - 1) ∧ x = .int .i64 m ∧ m < 2 ^ 20 ∧ cnF b k m = cnS b item) (fun _ i => (intOf i + 1).toNat)
  case atStart => exact ⟨item + 1, P, Nat.le_refl _, by go_num, rfl, h220, Hcn.out⟩
  case round =>
    obtain ⟨k, m, hk, rfl, rfl, hm, hc⟩ := hrel
    cases k with
    | succ i =>
      have e1 : ((i + 1 : Nat) : Int) - 1 = (i : Int) := by omega
      rw [e1]
      have kt := bit_test (m := m) (i := i) (by omega)
      have Hc := Lib.hid (show (if m.testBit i then cnF b i (m ||| mk (prt b i)) else cnF b i m) = cnS b item by
        rw [← hc, cnF]; split <;> rfl)
      clear e1 hc
      cases hb : m.testBit i with
      | false =>
        rw [hb] at kt Hc
        clear hb
        simp only [Bool.false_eq_true, if_false] at kt
        go_wp2_with fail
        go_round
        case rel => exact ⟨i, m, by omega, by go_num, rfl, hm, by simpa using Hc.out⟩
        case measure => simp [intOf]
      | true =>
        rw [hb] at kt Hc
        clear hb
        simp only [if_true] at kt
        have hil : i < b.its.length := by omega
        obtain ⟨bb, off, A1, c1, A2, c2, rfl, hbB, e0, _, i1, _⟩ := H.out i hil
        have hpr : prt b i = natL b.its[i].1 := by simp [prt, hil]
        have hpl := prt_lt hv hil
        have hin : intL (prt b i) = b.its[i].1 := by rw [hpr]; exact int_nat fun x hx => (isS_mem (hv.parts i hil).2.1 x hx).1
        rw [← hin] at i1
        have hlen : b.its[i].1.length = (prt b i).length := by rw [hpr, natL_length]
        have h6 := (hv.parts i hil).1
        rw [hlen] at e0 h6
        have cm := Lib.hid (mask_any A1 c1 _ (prt b i) _ i1 (by omega) (fun x hx => by have := hpl x hx; omega))
        have hlt2 : mk (prt b i) < 2 ^ 20 := Nat.lt_of_lt_of_le (mk_lt hpl) (Nat.pow_le_pow_right (by decide) (by omega))
        have key := or_nat m (mk (prt b i)) (by omega) (by omega)
        have hmm : m ||| mk (prt b i) < 2 ^ 20 := Nat.or_lt_two_pow hm hlt2
        clear hpr hpl hin hlen i1 hlt2
        generalize mk (prt b i) = z at cm key Hc hmm
        generalize (prt b i).length = n1 at e0 cm
        generalize m ||| z = r at key Hc hmm
        go_wp2_with (go_at_call 76; refine cm.out.mono ?_; rintro e w2 ⟨rfl, rfl⟩)
        go_round
        case rel => exact ⟨i, r, by omega, by go_num, rfl, hmm, by simpa using Hc.out⟩
        case measure => simp [intOf]
    | zero =>
      have Hc := Lib.hid (show m = cnS b item from hc)
      clear hc
      go_wp2_with fail
      go_ret
      exact ⟨by rw [← Hc.out]; rfl, by rw [← Hc.out]; exact hm, Hw.out⟩
end Go.Proofs.YtgoojcjfhghmgaaDoor
