/- The reference's common and eaters. -/
import Derived.Test.YtgoojcjfhghmgaaDoorDisS
namespace Go.Proofs.YtgoojcjfhghmgaaDoor
open Go.RowKit

def okDTo (l : List Nat) (c q j : Nat) : Bool := (List.range j).all fun i => !c.testBit i || (l[i]?.getD 0).testBit q
def okCTo (l : List Nat) (m i j : Nat) : Bool := (List.range j).all fun q => !m.testBit q || (l[i]?.getD 0).testBit q
theorem okDTo_succ (l : List Nat) (c q j : Nat) : okDTo l c q (j + 1) = (okDTo l c q j && (!c.testBit j || (l[j]?.getD 0).testBit q)) := by
  simp only [okDTo, List.range_succ, List.all_append, List.all_cons, List.all_nil, Bool.and_true]
theorem okCTo_succ (l : List Nat) (m i j : Nat) : okCTo l m i (j + 1) = (okCTo l m i j && (!m.testBit j || (l[i]?.getD 0).testBit j)) := by
  simp only [okCTo, List.range_succ, List.all_append, List.all_cons, List.all_nil, Bool.and_true]

set_option maxRecDepth 100000 in
set_option maxHeartbeats 2000000 in
theorem common_ref (A : Option Addr) (c B : Nat) (l : List Nat) (d ch : Nat) (w : World) (h : IntsAt B w A (intL l)) (hm : l.length ≤ 8) (hl : ∀ x ∈ l, x < 256) (hd : d ≤ 8) (hch : ch < 2 ^ l.length) :
    Calls Tryd.prog 80 #[.slice A l.length c, .int .i64 d, .int .i64 ch] w fun e w' => e = .returned (.int .i64 (comS l d ch)) ∧ w = w' := by
  have hc256 := lt256 hch hm
  have ce := Lib.hid (fun i q hi hq => eats_ref A c B l i q w h hl hi hq)
  have Hf := Lib.hid (show comS l d ch = sumTo (okD l ch) d from rfl)
  have Ho := Lib.hid (fun q => show okDTo l ch q l.length = okD l ch q from rfl)
  have Hs2 := Lib.hid (fun q j => okDTo_succ l ch q j)
  have H0 := Lib.hid (fun q => show okDTo l ch q 0 = true from rfl)
  generalize comS l d ch = Z at Hf
  generalize okD l ch = ok at Ho Hf
  generalize okDTo l ch = okT at Ho Hs2 H0
  go_enter Tryd.func80, Tryd.ntmps80
  go_wp2_with fail
  go_loop [7, 8] (fun x i => ∃ k : Nat, k ≤ d ∧ i = .int .i64 k ∧ x = .int .i64 (sumTo ok k)) (fun _ i => d - (intOf i).toNat)
  case atStart => exact ⟨0, Nat.zero_le _, rfl, rfl⟩
  case round =>
    obtain ⟨k, hk, rfl, rfl⟩ := hrel
    by_cases hlt : k < d
    · have hsl := sumTo_lt ok k
      have hs256 : sumTo ok k < 256 := lt256 hsl (by omega)
      have key := add_pow hs256 (show k < 8 by omega)
      have Hs := Lib.hid (show sumTo ok (k + 1) = sumTo ok k + if ok k then 2 ^ k else 0 from rfl)
      have Hok := Lib.hid (Ho.out k)
      have Hst := Lib.hid (Hs2.out k)
      have Hz := Lib.hid (H0.out k)
      generalize sumTo ok k = S at key Hs ⊢
      generalize ok k = o at Hok Hs
      generalize okT k = T at Hok Hst Hz
      clear hsl hs256
      go_wp2_with fail
      go_loop [9, 10] (fun x i => ∃ j : Nat, j ≤ l.length ∧ i = .int .i64 j ∧ x = .bool (T j)) (fun _ i => l.length - (intOf i).toNat)
      case atStart => exact ⟨0, Nat.zero_le _, rfl, by rw [Hz.out]⟩
      case round =>
        obtain ⟨j, hj, rfl, rfl⟩ := hrel
        by_cases hjl : j < l.length
        · have kb := bit_at hc256 (show j < 8 by omega)
          have hsn := Lib.hid (Hst.out j)
          have ce1 := Lib.hid (ce.out j k hjl (by omega))
          generalize T j = x at hsn ⊢
          generalize (l[j]?.getD 0).testBit k = y at hsn ce1
          generalize ch.testBit j = z at hsn kb
          cases x
          · go_wp2_with fail
            go_round
            case rel => exact ⟨j + 1, by omega, by go_num, by rw [hsn.out]; rfl⟩
            case measure => simp [intOf]; omega
          · cases z
            · simp only [Bool.not_false] at kb
              go_wp2_with fail
              go_round
              case rel => exact ⟨j + 1, by omega, by go_num, by rw [hsn.out]; rfl⟩
              case measure => simp [intOf]; omega
            · simp only [Bool.not_true] at kb
              go_wp2_with (go_at_call 109; refine ce1.out.mono ?_; rintro e w1 ⟨rfl, rfl⟩)
              go_round
              case rel => exact ⟨j + 1, by omega, by go_num, by rw [hsn.out]; rfl⟩
              case measure => simp [intOf]; omega
        · obtain rfl : j = l.length := by omega
          rw [Hok.out]
          cases o
          · go_wp2_with fail
            go_round
            case rel => exact ⟨k + 1, by omega, by go_num, by rw [Hs.out]; rfl⟩
            case measure => simp [intOf]; omega
          · go_wp2_with fail
            go_round
            case rel => exact ⟨k + 1, by omega, by go_num, by rw [Hs.out, key]; rfl⟩
            case measure => simp [intOf]; omega
    · obtain rfl : k = d := by omega
      rw [← Hf.out]
      go_wp2_with fail
      go_ret
      exact ⟨rfl, rfl⟩

set_option maxRecDepth 100000 in
set_option maxHeartbeats 2000000 in
theorem eaters_ref (A : Option Addr) (c B : Nat) (l : List Nat) (d m : Nat) (w : World) (h : IntsAt B w A (intL l)) (hm : l.length ≤ 8) (hl : ∀ x ∈ l, x < 256) (hd : d ≤ 8) (hmm : m < 2 ^ d) :
    Calls Tryd.prog 82 #[.slice A l.length c, .int .i64 d, .int .i64 m] w fun e w' => e = .returned (.int .i64 (eaS l d m)) ∧ w = w' := by
  have hm256 := lt256 hmm hd
  have ce := Lib.hid (fun i q hi hq => eats_ref A c B l i q w h hl hi hq)
  have Hf := Lib.hid (show eaS l d m = sumTo (okC l d m) l.length from rfl)
  have Ho := Lib.hid (fun i => show okCTo l m i d = okC l d m i from rfl)
  have Hs2 := Lib.hid (fun i j => okCTo_succ l m i j)
  have H0 := Lib.hid (fun i => show okCTo l m i 0 = true from rfl)
  generalize eaS l d m = Z at Hf
  generalize okC l d m = ok at Ho Hf
  generalize okCTo l m = okT at Ho Hs2 H0
  go_enter Tryd.func82, Tryd.ntmps82
  go_wp2_with fail
  go_loop [7, 8] (fun x i => ∃ k : Nat, k ≤ l.length ∧ i = .int .i64 k ∧ x = .int .i64 (sumTo ok k)) (fun _ i => l.length - (intOf i).toNat)
  case atStart => exact ⟨0, Nat.zero_le _, rfl, rfl⟩
  case round =>
    obtain ⟨k, hk, rfl, rfl⟩ := hrel
    by_cases hlt : k < l.length
    · have hsl := sumTo_lt ok k
      have hs256 : sumTo ok k < 256 := lt256 hsl (by omega)
      have key := add_pow hs256 (show k < 8 by omega)
      have Hs := Lib.hid (show sumTo ok (k + 1) = sumTo ok k + if ok k then 2 ^ k else 0 from rfl)
      have Hok := Lib.hid (Ho.out k)
      have Hst := Lib.hid (Hs2.out k)
      have Hz := Lib.hid (H0.out k)
      generalize sumTo ok k = S at key Hs ⊢
      generalize ok k = o at Hok Hs
      generalize okT k = T at Hok Hst Hz
      clear hsl hs256
      go_wp2_with fail
      go_loop [9, 10] (fun x i => ∃ j : Nat, j ≤ d ∧ i = .int .i64 j ∧ x = .bool (T j)) (fun _ i => d - (intOf i).toNat)
      case atStart => exact ⟨0, Nat.zero_le _, rfl, by rw [Hz.out]⟩
      case round =>
        obtain ⟨j, hj, rfl, rfl⟩ := hrel
        by_cases hjl : j < d
        · have kb := bit_at hm256 (show j < 8 by omega)
          have hsn := Lib.hid (Hst.out j)
          have ce1 := Lib.hid (ce.out k j hlt (by omega))
          generalize T j = x at hsn ⊢
          generalize (l[k]?.getD 0).testBit j = y at hsn ce1
          generalize m.testBit j = z at hsn kb
          cases x
          · go_wp2_with fail
            go_round
            case rel => exact ⟨j + 1, by omega, by go_num, by rw [hsn.out]; rfl⟩
            case measure => simp [intOf]; omega
          · cases z
            · simp only [Bool.not_false] at kb
              go_wp2_with fail
              go_round
              case rel => exact ⟨j + 1, by omega, by go_num, by rw [hsn.out]; rfl⟩
              case measure => simp [intOf]; omega
            · simp only [Bool.not_true] at kb
              go_wp2_with (go_at_call 109; refine ce1.out.mono ?_; rintro e w1 ⟨rfl, rfl⟩)
              go_round
              case rel => exact ⟨j + 1, by omega, by go_num, by rw [hsn.out]; rfl⟩
              case measure => simp [intOf]; omega
        · obtain rfl : j = d := by omega
          rw [Hok.out]
          cases o
          · go_wp2_with fail
            go_round
            case rel => exact ⟨k + 1, by omega, by go_num, by rw [Hs.out]; rfl⟩
            case measure => simp [intOf]; omega
          · go_wp2_with fail
            go_round
            case rel => exact ⟨k + 1, by omega, by go_num, by rw [Hs.out, key]; rfl⟩
            case measure => simp [intOf]; omega
    · obtain rfl : k = l.length := by omega
      rw [← Hf.out]
      go_wp2_with fail
      go_ret
      exact ⟨rfl, rfl⟩
end Go.Proofs.YtgoojcjfhghmgaaDoor
