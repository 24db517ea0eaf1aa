/- eaten, eaters, common, eats: who can eat what. -/
import Derived.Test.YtgoojcjfhghmgaaDoorDisR
namespace Go.Proofs.YtgoojcjfhghmgaaDoor
open Go.RowKit

theorem full_set {d : Nat} (h : d ≤ 8) : wrap64 (wrap64 ((2 : Int) ^ d) - 1) = ((2 ^ d - 1 : Nat) : Int) := by
  have : ∀ d, d < 9 → wrap64 (wrap64 ((2 : Int) ^ d) - 1) = ((2 ^ d - 1 : Nat) : Int) := by decide +kernel
  exact this d (by omega)
theorem bit_one {k j : Nat} (hk : k < 256) (hj : j < 8) : (bits BinOp.and IntKind.i64 ((k : Int) / (2 : Int) ^ j) 1 == 1) = k.testBit j := by
  have : ∀ j : Nat, j < 8 → ∀ k : Nat, k < 256 → (bits BinOp.and IntKind.i64 ((k : Int) / (2 : Int) ^ j) 1 == 1) = k.testBit j := by decide +kernel
  exact this j hj k hk
theorem add_pow {s q : Nat} (hs : s < 256) (hq : q < 8) : wrap64 ((s : Int) + wrap64 ((2 : Int) ^ q)) = ((s + 2 ^ q : Nat) : Int) := by
  have : ∀ q : Nat, q < 8 → ∀ s : Nat, s < 256 → wrap64 ((s : Int) + wrap64 ((2 : Int) ^ q)) = ((s + 2 ^ q : Nat) : Int) := by decide +kernel
  exact this q hq s hs
theorem andNot_nat (m r : Nat) (hm : m < 9223372036854775808) (hr : r < 9223372036854775808) : bits .andNot .i64 (m : Int) (r : Int) = ((m &&& (2 ^ 64 - (r + 1)) : Nat) : Int) := by
  have hx : m &&& (2 ^ 64 - (r + 1)) ≤ m := Nat.and_le_left
  show IntKind.i64.wrap ((BitVec.ofInt 64 (m : Int) &&& ~~~BitVec.ofInt 64 (r : Int)).toNat : Int) = _
  rw [BitVec.toNat_and, BitVec.toNat_not, ofInt_nat m hm, ofInt_nat r hr, IntKind.wrap_i64, Nat.sub_sub, Nat.add_comm 1 r]
  generalize m &&& (2 ^ 64 - (r + 1)) = z at hx
  omega
theorem andNot_zero {m r : Nat} (hm : m < 256) (hr : r < 256) : (bits BinOp.andNot IntKind.i64 (m : Int) (r : Int) == 0) = (m &&& r == m) := by
  rw [andNot_nat m r (by omega) (by omega), Bool.eq_iff_iff, beq_iff_eq, beq_iff_eq]
  have hb : ∀ i, (m &&& (2 ^ 64 - (r + 1))).testBit i = (m.testBit i && !r.testBit i) := by
    intro i
    rw [Nat.testBit_and, Nat.testBit_two_pow_sub_succ (by omega)]
    by_cases hi : i < 64
    · simp [hi]
    · have : m.testBit i = false := Nat.testBit_lt_two_pow (Nat.lt_of_lt_of_le (show m < 2 ^ 64 by omega) (Nat.pow_le_pow_right (by decide) (by omega)))
      simp [this]
  constructor
  · intro h
    rw [Nat.and_comm]
    refine sub_and fun q hq => ?_
    have h0 := hb q
    rw [show m &&& (2 ^ 64 - (r + 1)) = 0 by omega, hq] at h0
    simpa using h0
  · intro h
    have hz : m &&& (2 ^ 64 - (r + 1)) = 0 := by
      apply Nat.eq_of_testBit_eq
      intro q
      rw [hb q]
      cases hq : m.testBit q with
      | false => simp
      | true => rw [and_sub (y := r) (x := m) (by rw [Nat.and_comm]; exact h) q hq]; simp
    rw [hz]; rfl
theorem lt256 {x d : Nat} (h : x < 2 ^ d) (hd : d ≤ 8) : x < 256 := Nat.lt_of_lt_of_le h (Nat.le_trans (Nat.pow_le_pow_right (by decide) hd) (by decide))
theorem okC_eq {l : List Nat} {d m i : Nat} (hm : m < 2 ^ d) : okC l d m i = (m &&& (l[i]?.getD 0) == m) := by
  rw [Bool.eq_iff_iff, beq_iff_eq, okC, List.all_eq_true]
  constructor
  · intro h
    rw [Nat.and_comm]
    refine sub_and fun q hq => ?_
    have hqd : q < d := by
      apply Classical.byContradiction
      intro hn
      rw [Nat.testBit_lt_two_pow (Nat.lt_of_lt_of_le hm (Nat.pow_le_pow_right (by decide) (by omega)))] at hq
      cases hq
    have := h q (List.mem_range.2 hqd)
    rwa [hq] at this
  · intro h q _
    cases hb : m.testBit q with
    | false => rfl
    | true => exact and_sub (y := l[i]?.getD 0) (x := m) (by rw [Nat.and_comm]; exact h) q hb
theorem etF_snoc (l : List Nat) (m : Nat) {L : List Nat} {k : Nat} (hk : k < L.length) : etF l m (L.take (k + 1)) = etF l m (L.take k) &&& (l[L[k]]?.getD 0) := by
  unfold etF
  rw [List.take_succ_eq_append_getElem hk, List.foldl_append]; rfl

set_option maxRecDepth 100000 in
set_option maxHeartbeats 1000000 in
theorem eats_ref (A : Option Addr) (c B : Nat) (l : List Nat) (i q : Nat) (w : World) (h : IntsAt B w A (intL l)) (hl : ∀ x ∈ l, x < 256) (hi : i < l.length) (hq : q < 8) :
    Calls Tryd.prog 109 #[.slice A l.length c, .int .i64 i, .int .i64 q] w fun e w' => e = .returned (.bool ((l[i]?.getD 0).testBit q)) ∧ w = w' := by
  have hll : (intL l).length = l.length := by simp [intL]
  obtain ⟨b, off, rfl, hbB, c0⟩ := h.at (k := i) (by omega)
  have e1 : (intL l)[i]'(by omega) = ((l[i] : Nat) : Int) := by simp [intL]
  have e2 : l[i]?.getD 0 = l[i] := by simp [hi]
  rw [e1] at c0
  rw [e2]
  have key := bit_one (hl l[i] (List.getElem_mem hi)) hq
  generalize l[i] = x at c0 key
  clear e1 e2 hll
  go_enter Tryd.func109, Tryd.ntmps109
  go_wp2_with fail
  go_ret
  exact ⟨rfl, rfl⟩

set_option maxRecDepth 100000 in
set_option maxHeartbeats 1000000 in
theorem eaten_any (A : Option Addr) (c B : Nat) (l : List Nat) (d ch : Nat) (w : World) (hB : B ≤ w.heap.size) (h : IntsAt B w A (intL l)) (hm : l.length ≤ 8) (hl : ∀ x ∈ l, x < 256) (hd : d ≤ 8) (hch : ch < 2 ^ l.length) (hT : Tab w) :
    Calls Tryd.prog 79 #[.slice A l.length c, .int .i64 d, .int .i64 ch] w fun e w' => e = .returned (.int .i64 (comS l d ch)) ∧ Below w.heap.size w w' := by
  have hll : (intL l).length = l.length := by simp [intL]
  have hc256 := lt256 hch hm
  have hI := Lib.hid (h.below (Below.refl _ _) hB)
  have cl := Lib.hid (list_any ch (by omega) w hT (by have := bl_length hch (by omega); omega))
  have hbl : (bl ch).length ≤ 8 := by have := bl_length hch (by omega); omega
  have Hbi := Lib.hid (show ∀ i ∈ bl ch, i < l.length from fun i hi => bl_lt hch (by omega) hi)
  have Hf := Lib.hid (comS_eq (d := d) (show l.length ≤ 60 by omega) hch)
  have hp := full_set hd
  have hN : 2 ^ d - 1 < 256 := by have := lt256 (d := d) (show 2 ^ d - 1 < 2 ^ d by have := Nat.two_pow_pos d; omega) hd; omega
  clear h hT hch
  generalize comS l d ch = Z at Hf
  generalize bl ch = L at cl hbl Hbi Hf
  generalize 2 ^ d - 1 = N at hp hN Hf
  go_enter Tryd.func79, Tryd.ntmps79
  go_wp2_with (go_at_call 65; refine cl.out.mono ?_; rintro e w1 ⟨v, rfl, hown, hb1⟩; obtain ⟨A5, c5, rfl⟩ := own_form hown)
  have HO := Lib.hid hown
  clear hown
  try rw [hp]
  go_loop [7, 16] (fun x i => ∃ k : Nat, k ≤ L.length ∧ i = .int .i64 k ∧ x = .int .i64 (etF l N (L.take k))) (fun _ i => L.length - (intOf i).toNat)
  case atStart => exact ⟨0, Nat.zero_le _, rfl, rfl⟩
  case round =>
    obtain ⟨k, hk, rfl, rfl⟩ := hrel
    by_cases hlt : k < L.length
    · obtain ⟨g5, rfl, hg5, _, hcell⟩ := own_cell HO.out hlt (natV_get hlt)
      have hil := Hbi.out L[k] (List.getElem_mem hlt)
      obtain ⟨b, off, rfl, hbB, c0⟩ := hI.out.at (k := L[k]) (by omega)
      have e1 : (intL l)[L[k]]'(by omega) = ((l[L[k]] : Nat) : Int) := by simp [intL]
      rw [e1] at c0
      have c1 := (hb1.cell (p := ⟨b, off + L[k], none⟩) hbB).trans c0
      have hx := hl l[L[k]] (List.getElem_mem hil)
      have hy := etF_le l (L.take k) N
      have key := and_nat (etF l N (L.take k)) l[L[k]] (by omega) (by omega)
      have Hs := Lib.hid (show etF l N (L.take (k + 1)) = etF l N (L.take k) &&& l[L[k]] by rw [etF_snoc l N hlt]; simp [hil])
      generalize etF l N (L.take k) = E at key Hs ⊢
      generalize l[L[k]] = x at c0 c1 key Hs
      clear e1 hx hy c0
      generalize L[k] = y at hil c1 hcell
      go_wp2_with fail
      go_round
      case rel => exact ⟨k + 1, by omega, by go_num, by rw [Hs.out]⟩
      case measure => simp [intOf]; omega
    · obtain rfl : k = L.length := by omega
      rw [List.take_length, Hf.out]
      go_wp2_with fail
      go_ret
      exact ⟨rfl, hb1⟩

set_option maxRecDepth 100000 in
set_option maxHeartbeats 1000000 in
theorem eaters_any (A : Option Addr) (c B : Nat) (l : List Nat) (d m : Nat) (w : World) (h : IntsAt B w A (intL l)) (hm : l.length ≤ 8) (hl : ∀ x ∈ l, x < 256) (hd : d ≤ 8) (hmm : m < 2 ^ d) :
    Calls Tryd.prog 81 #[.slice A l.length c, .int .i64 m] w fun e w' => e = .returned (.int .i64 (eaS l d m)) ∧ w = w' := by
  have hll : (intL l).length = l.length := by simp [intL]
  have hm256 := lt256 hmm hd
  have Ho := Lib.hid (fun i => okC_eq (l := l) (i := i) hmm)
  have Hf := Lib.hid (show eaS l d m = sumTo (okC l d m) l.length from rfl)
  generalize eaS l d m = Z at Hf
  generalize okC l d m = ok at Ho Hf
  go_enter Tryd.func81, Tryd.ntmps81
  go_wp2_with fail
  go_loop [5, 10] (fun x i => ∃ k : Nat, k ≤ l.length ∧ i = .int .i64 k ∧ x = .int .i64 (sumTo ok k)) (fun _ i => l.length - (intOf i).toNat)
  case atStart => exact ⟨0, Nat.zero_le _, rfl, rfl⟩
  case round =>
    obtain ⟨k, hk, rfl, rfl⟩ := hrel
    by_cases hlt : k < l.length
    · obtain ⟨b, off, rfl, hbB, c0⟩ := h.at (k := k) (by omega)
      have e1 : (intL l)[k]'(by omega) = ((l[k] : Nat) : Int) := by simp [intL]
      rw [e1] at c0
      have hx := hl l[k] (List.getElem_mem hlt)
      have key := andNot_zero hm256 hx
      have e3 : ok k = (m &&& l[k] == m) := by rw [Ho.out k]; simp [hlt]
      rw [← e3] at key
      have hsl := sumTo_lt ok k
      have hs60 : sumTo ok k < 2 ^ 60 := Nat.lt_of_lt_of_le hsl (Nat.pow_le_pow_right (by decide) (by omega))
      have k2 := or_pow hs60 (show k < 60 by omega)
      rw [sumTo_or] at k2
      have Hs := Lib.hid (show sumTo ok (k + 1) = sumTo ok k + if ok k then 2 ^ k else 0 from rfl)
      generalize sumTo ok k = S at k2 Hs ⊢
      generalize l[k] = x at c0 key
      generalize ok k = o at key Hs
      clear e1 e3 hx hsl hs60
      cases o
      · go_wp2_with fail
        go_round
        case rel => exact ⟨k + 1, by omega, by go_num, by rw [Hs.out]; rfl⟩
        case measure => simp [intOf]; omega
      · go_wp2_with fail
        go_round
        case rel => exact ⟨k + 1, by omega, by go_num, by rw [Hs.out]; rfl⟩
        case measure => simp [intOf]; omega
    · obtain rfl : k = l.length := by omega
      rw [← Hf.out]
      go_wp2_with fail
      go_ret
      exact ⟨rfl, rfl⟩
end Go.Proofs.YtgoojcjfhghmgaaDoor
