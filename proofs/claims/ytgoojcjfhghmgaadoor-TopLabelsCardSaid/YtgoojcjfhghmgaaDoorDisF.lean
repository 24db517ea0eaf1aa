/- The reference's Menus. -/
import Derived.Test.YtgoojcjfhghmgaaDoorDisE
namespace Go.Proofs.YtgoojcjfhghmgaaDoor
open Go.RowKit

def okTo (l : List Nat) (m j : Nat) : Bool := fdR l m && (List.range j).all fun i => !m.testBit i || !fdR l (m - 2 ^ i)
theorem okTo_succ (l : List Nat) (m j : Nat) : okTo l m (j + 1) = (okTo l m j && (!m.testBit j || !fdR l (m - 2 ^ j))) := by
  simp only [okTo, List.range_succ, List.all_append, List.all_cons, List.all_nil, Bool.and_true, Bool.and_assoc]
theorem okTo_false {l : List Nat} {m j : Nat} (h : okTo l m j = false) : ∀ d, j ≤ d → okTo l m d = false := by
  intro d hd
  obtain ⟨e, rfl⟩ : ∃ e, d = j + e := ⟨d - j, by omega⟩
  clear hd
  induction e with
  | zero => exact h
  | succ e ih => rw [← Nat.add_assoc, okTo_succ, ih]; rfl
theorem okTo_all {l : List Nat} {m d : Nat} (hm : m < 2 ^ d) (hd : d ≤ 8) : okTo l m d = lsM l m := by
  unfold okTo lsM
  congr 1
  have h64 : m < 18446744073709551616 := Nat.lt_of_lt_of_le hm (Nat.le_trans (Nat.pow_le_pow_right (by decide) hd) (by decide))
  rw [Bool.eq_iff_iff, List.all_eq_true, List.all_eq_true]
  constructor
  · intro h i hi
    have h1 := (mem_bl m h64 i).1 hi
    have h2 := h i (List.mem_range.2 (bl_lt hm (by omega) hi))
    rw [h1] at h2; simpa using h2
  · intro h i hi
    cases hb : m.testBit i
    · rfl
    · have := h i ((mem_bl m h64 i).2 hb)
      simpa using this

theorem bit_at {k j : Nat} (hk : k < 256) (hj : j < 8) : (bits BinOp.and IntKind.i64 ((k : Int) / (2 : Int) ^ j) 1 == 0) = !k.testBit j := by
  have : ∀ j : Nat, j < 8 → ∀ k : Nat, k < 256 → (bits BinOp.and IntKind.i64 ((k : Int) / (2 : Int) ^ j) 1 == 0) = !k.testBit j := by decide +kernel
  exact this j hj k hk
theorem sub_bit {k j : Nat} (hk : k < 256) (hj : j < 8) (hb : k.testBit j = true) : wrap64 ((k : Int) - wrap64 ((2 : Int) ^ j)) = ((k - 2 ^ j : Nat) : Int) := by
  have : ∀ j : Nat, j < 8 → ∀ k : Nat, k < 256 → k.testBit j = true → wrap64 ((k : Int) - wrap64 ((2 : Int) ^ j)) = ((k - 2 ^ j : Nat) : Int) := by decide +kernel
  exact this j hj k hk hb

set_option maxRecDepth 100000 in
set_option maxHeartbeats 2000000 in
theorem Menus_ref (A : Option Addr) (c B : Nat) (l : List Nat) (d : Nat) (w : World) (hB : B ≤ w.heap.size) (h : IntsAt B w A (intL l)) (hm : l.length ≤ 60) (hv : vtR (intL l) d = 0) (hl : ∀ x ∈ l, x < 1152921504606846976) (hd : d ≤ 8) :
    Calls Tryd.prog 24 #[.slice A l.length c, .int .i64 d] w fun e w' => ∃ v, e = .returned (.tuple #[v, .int .i64 0]) ∧ w'.ownsRow w.heap.size 3 1 v (mnTo l (2 ^ d)).length (natV (mnTo l (2 ^ d))) ∧ Below w.heap.size w w' := by
  have hll : (intL l).length = l.length := by simp [intL]
  have hI := h.below (Below.refl _ _) hB
  have cv0 := vt_ref A c B (intL l) d w h (by omega)
  rw [hll, hv] at cv0
  have cv := Lib.hid cv0
  have cf := Lib.hid (fun (m : Nat) W (hW : Below w.heap.size w W) (hmm : m < 1152921504606846976) => feeds_ref A c w.heap.size l m W (hI.below hW (Nat.le_refl _)) (by omega) hl hmm)
  have hp : wrap64 ((2 : Int) ^ d) = ((2 ^ d : Nat) : Int) := by rw [pow_wrap (show d < 63 by omega)]; simp
  have hN : 2 ^ d ≤ 256 := Nat.le_trans (Nat.pow_le_pow_right (by decide) hd) (by decide)
  have HL := Lib.hid (fun m (hm : m < 2 ^ d) => okTo_all (l := l) hm hd)
  obtain ⟨j0, hj, hy0, hy1, hy2⟩ := info_parts info3
  clear h hI cv0 hll hv hl
  generalize 2 ^ d = N at hp hN HL ⊢
  go_enter Tryd.func24, Tryd.ntmps24
  go_wp2_with (go_at_call 40; refine cv.out.mono ?_; rintro e w1 ⟨rfl, hb1⟩)
  go_loopw [7, 8] (fun out i wr => ∃ k : Nat, k ≤ N ∧ i = .int .i64 k ∧ wr.ownsRow w.heap.size 3 1 out (mnTo l k).length (natV (mnTo l k)) ∧ Below w.heap.size w wr) (fun _ i _ => N - (intOf i).toNat)
  case atStart => exact ⟨0, Nat.zero_le _, rfl, World.ownsRow_nil _ _ _ _, hb1⟩
  case round =>
    obtain ⟨k, hk, rfl, hown, hb⟩ := hrel
    by_cases hlt : k < N
    · have HO := Lib.hid hown
      have hlen := mnTo_length l k
      have Hs := Lib.hid (mnTo_succ l k)
      have cf1 := Lib.hid (cf.out k wr hb (by omega))
      have hlN : (k : Int) < (N : Int) := by omega
      have hk256 : k < 256 := by omega
      have Hok := Lib.hid (HL.out k hlt)
      have Hf0 := Lib.hid (show okTo l k 0 = fdR l k by simp [okTo])
      clear hown
      obtain ⟨wo, hwo⟩ : ∃ wo : World, wo = wr := ⟨_, rfl⟩
      subst hwo
      generalize fdR l k = f0 at cf1 Hf0
      go_wp2_with (go_at_call 66; refine cf1.out.mono ?_; rintro e w2 ⟨rfl, rfl⟩)
      go_loop [9, 10] (fun x i => ∃ j : Nat, j ≤ d ∧ i = .int .i64 j ∧ x = .bool (okTo l k j)) (fun _ i => d - (intOf i).toNat)
      case atStart => exact ⟨0, Nat.zero_le _, rfl, by rw [Hf0.out]⟩
      case round =>
        obtain ⟨j, hj2, rfl, rfl⟩ := hrel
        by_cases hx : j < d ∧ okTo l k j = true
        · obtain ⟨hjd, hok⟩ := hx
          have hsn := Lib.hid (show okTo l k (j + 1) = (!k.testBit j || !fdR l (k - 2 ^ j)) by rw [okTo_succ, hok]; rfl)
          rw [hok]
          clear hok
          have kb := bit_at hk256 (show j < 8 by omega)
          cases hbt : k.testBit j with
          | false =>
            rw [hbt] at kb hsn
            clear hbt
            simp only [Bool.not_false] at kb
            go_wp2_with fail
            go_round
            case rel => exact ⟨j + 1, by omega, by go_num, by rw [hsn.out]; rfl⟩
            case measure => simp [intOf]; omega
          | true =>
            rw [hbt] at kb hsn
            have kw := sub_bit hk256 (show j < 8 by omega) hbt
            have cf2 := Lib.hid (cf.out (k - 2 ^ j) wo hb (Nat.lt_of_le_of_lt (Nat.sub_le _ _) (by omega)))
            generalize fdR l (k - 2 ^ j) = y at hsn cf2
            clear hbt
            simp only [Bool.not_true] at kb
            go_wp2_with (go_at_call 66; refine cf2.out.mono ?_; rintro e w3 ⟨rfl, rfl⟩)
            go_round
            case rel => exact ⟨j + 1, by omega, by go_num, by rw [hsn.out]; rfl⟩
            case measure => simp [intOf]; omega
        · have hfin : okTo l k j = lsM l k := by
            rw [← Hok.out]
            by_cases hjd : j < d
            · have h1 : okTo l k j = false := by
                cases h2 : okTo l k j
                · rfl
                · exact absurd ⟨hjd, h2⟩ hx
              rw [h1, okTo_false h1 d (by omega)]
            · rw [show j = d by omega]
          have hx2 : (decide ((j : Int) < d) = false ∧ (d : Int) ≤ j) ∨ ((decide ((j : Int) < d) = true ∧ (j : Int) < d) ∧ okTo l k j = false) := by
            by_cases hjd : j < d
            · refine .inr ⟨⟨by simpa using hjd, by omega⟩, ?_⟩
              cases h2 : okTo l k j
              · rfl
              · exact absurd ⟨hjd, h2⟩ hx
            · exact .inl ⟨by simpa using hjd, by omega⟩
          rw [hfin] at hx2 ⊢
          clear hfin hx
          cases hls : lsM l k with
          | false =>
            have Hf := Lib.hid (show mnTo l (k + 1) = mnTo l k by rw [Hs.out, hls]; simp)
            rw [hls] at hx2
            clear hls
            rcases hx2 with ⟨h1, g1⟩ | ⟨⟨h1, g1⟩, _⟩
            all_goals
              go_wp2_with fail
              go_roundw
              case rel => exact ⟨k + 1, by omega, by go_num, by rw [Hf.out]; exact HO.out, hb⟩
              case measure => simp [intOf]; omega
          | true =>
            have Hf := Lib.hid (show mnTo l (k + 1) = mnTo l k ++ [k] by rw [Hs.out, hls]; simp)
            rw [hls] at hx2
            clear hls
            rcases hx2 with ⟨h1, g1⟩ | ⟨_, h1⟩
            · go_wp2_with (at_builtin; refine wpList_append_own _ rfl _ _ 32 rfl w.heap.size 3 j0 _ 1 8 Tryd.underlying32 hj hy0 hy1 hy2 rfl (by decide) _ _ _ rfl (HO.out.alloc _) ⟨wo.heap.size, 0, none⟩ 1 1 _ rfl rfl (cell_one_new _ _ _) (by simp [Value.oneCell']) (by simp only [maxLen]; omega) (by omega) (hb.alloc hb.size _).size ?_; intro v' w7 hown7 hg7 _)
              have b7 : Below w.heap.size w w7 := (hb.alloc hb.size _).grown hg7 (hb.alloc hb.size _).size (fun x hx => (HO.out.lt x hx).1)
              go_roundw
              case rel => exact ⟨k + 1, by omega, by go_num, by rw [Hf.out, List.length_append, natV, List.map_append]; exact hown7, b7⟩
              case measure => simp [intOf]; omega
            · cases h1
    · obtain rfl : k = N := by omega
      go_wp2_with fail
      go_ret2
      exact ⟨_, rfl, hown, hb⟩
end Go.Proofs.YtgoojcjfhghmgaaDoor
