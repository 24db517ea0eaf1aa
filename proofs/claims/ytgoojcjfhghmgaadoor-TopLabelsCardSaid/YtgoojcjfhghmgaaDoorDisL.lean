/- base. -/
import Derived.Test.YtgoojcjfhghmgaaDoorDisK
namespace Go.Proofs.YtgoojcjfhghmgaaDoor
open Go.RowKit

theorem cnF_lt {b : Bk} (hv : VBk b) {n : Nat} : ∀ (k m : Nat), k ≤ b.its.length → k ≤ n → m < 2 ^ n → cnF b k m < 2 ^ n
  | 0, m, _, _, hm => hm
  | k + 1, m, hk, hn, hm => by
    simp only [cnF]
    refine cnF_lt hv k _ (by omega) (by omega) ?_
    split
    · exact Nat.or_lt_two_pow hm (Nat.lt_of_lt_of_le (mk_lt (prt_lt hv (by omega))) (Nat.pow_le_pow_right (by decide) (by omega)))
    · exact hm
theorem cnS_lt {b : Bk} (hv : VBk b) {item : Nat} (hi : item < b.its.length) : cnS b item < 2 ^ (item + 1) :=
  cnF_lt hv (item + 1) _ (by omega) (Nat.le_refl _) (Nat.pow_lt_pow_right (by decide) (by omega))
/-- What the items have that an item contains. -/
def bsTo (b : Bk) (L : List Nat) (k : Nat) : Nat := (L.take k).foldl (fun m i => m ||| mk (hasL b i)) 0
def bsS (b : Bk) (item : Nat) : Nat := (bl (cnS b item)).foldl (fun m i => m ||| mk (hasL b i)) 0
theorem bsTo_succ (b : Bk) {L : List Nat} {k : Nat} (hk : k < L.length) : bsTo b L (k + 1) = bsTo b L k ||| mk (hasL b L[k]) := by
  unfold bsTo
  rw [List.take_succ_eq_append_getElem hk, List.foldl_append]; rfl
theorem hasL_lt {b : Bk} (h : VBk b) {k : Nat} (hk : k < b.its.length) : ∀ x ∈ hasL b k, x < b.p.toNat := by
  unfold hasL
  simp only [hk, List.getElem?_eq_getElem, Option.getD_some]
  refine natL_lt fun x hx => ?_
  have := isS_mem (h.parts k hk).2.2 x hx
  have := h.p0
  omega
theorem bsTo_lt {b : Bk} (h : VBk b) {L : List Nat} (hL : ∀ i ∈ L, i < b.its.length) : ∀ k, k ≤ L.length → bsTo b L k < 2 ^ b.p.toNat
  | 0, _ => by simp [bsTo]; exact Nat.two_pow_pos _
  | k + 1, hk => by
    rw [bsTo_succ b (by omega)]
    exact Nat.or_lt_two_pow (bsTo_lt h hL k (by omega)) (mk_lt (hasL_lt h (hL _ (List.getElem_mem (by omega)))))
theorem bsS_lt {b : Bk} (h : VBk b) {item : Nat} (hi : item < b.its.length) : bsS b item < 2 ^ b.p.toNat := by
  have hL : ∀ i ∈ bl (cnS b item), i < b.its.length := fun i hi2 => by
    have := bl_lt (cnS_lt h hi) (by have := h.ni; omega) hi2
    omega
  have := bsTo_lt h hL _ (Nat.le_refl _)
  simpa [bsTo, bsS] using this

set_option maxRecDepth 100000 in
set_option maxHeartbeats 2000000 in
theorem base_any (AI AR : Option Addr) (cI cR B : Nat) (b : Bk) (item : Nat) (w : World) (hB : B ≤ w.heap.size) (h : ItsAt B w AI b.its) (hs : Short b) (hv : VBk b) (hi : item < b.its.length) (hT : Tab w) :
    Calls Tryd.prog 98 #[.agg #[.int .i64 b.p, .slice AI b.its.length cI, .slice AR b.rus.length cR], .int .i64 item] w fun e w' => e = .returned (.int .i64 (bsS b item)) ∧ Below w.heap.size w w' := by
  have hw0 : Below w.heap.size w (w.alloc (.cells #[.int .i64 b.p, .slice AI b.its.length cI, .slice AR b.rus.length cR] 25)) := (Below.refl _ _).alloc (Nat.le_refl _) _
  have hb0 := Blk.new w 25 #[.int .i64 b.p, .slice AI b.its.length cI, .slice AR b.rus.length cR]
  have ni := hv.ni
  have np := hv.p1
  have H := Lib.hid (h.below (Below.refl _ _) hB)
  have cc := Lib.hid (contained_any AI AR cI cR w.heap.size b item _ hw0.size (H.out.below hw0 (Nat.le_refl _)) hv hi)
  have hcl := cnS_lt hv hi
  have hc60 : cnS b item < 1152921504606846976 := Nat.lt_of_lt_of_le hcl (Nat.le_trans (Nat.pow_le_pow_right (by decide) (show item + 1 ≤ 60 by omega)) (by decide))
  have hbl : (bl (cnS b item)).length ≤ 20 := by have := bl_length hcl (by omega); omega
  have hbi : ∀ i ∈ bl (cnS b item), i < b.its.length := fun i hi2 => by have := bl_lt hcl (by omega) hi2; omega
  have cl := Lib.hid (fun W (hW : Below w.heap.size w W) => list_any (cnS b item) hc60 W (hT.below hW hT.2) (by omega))
  have HB0 := Lib.hid hb0
  have Hw := Lib.hid hw0
  have Hbs := Lib.hid (show bsTo b (bl (cnS b item)) (bl (cnS b item)).length = bsS b item by simp [bsTo, bsS])
  have hbd := bsTo_lt hv hbi
  have hbi2 := Lib.hid hbi
  have Hbd := Lib.hid hbd
  have hbs : w.heap.size < (w.alloc (.cells #[.int .i64 b.p, .slice AI b.its.length cI, .slice AR b.rus.length cR] 25)).heap.size := hb0.lt
  clear h hw0 hb0 hT hcl hc60 hbi hbd hi
  generalize cnS b item = C at cc cl Hbs hbl hbi2 Hbd
  generalize bl C = L at cl Hbs hbl hbi2 Hbd
  go_enter Tryd.func98, Tryd.ntmps98
  go_wp2_with (first
    | (go_at_call 68; refine cc.out.mono ?_; rintro e w1 ⟨rfl, _, hd⟩; have hb1 := Hw.out.trans (hd.mono Hw.out.size); have HX1 := HB0.out.below hd hbs)
    | (go_at_call 65; refine (cl.out _ hb1).mono ?_; rintro e w2 ⟨v2, rfl, hown2, hd2⟩; have hb2 := hb1.trans (hd2.mono hb1.size); have HX2 := HX1.below hd2 HX1.lt; obtain ⟨A5, c5, rfl⟩ := own_form hown2))
  have x1 := HX2.cell 1
  have HO := Lib.hid hown2
  clear hown2
  go_loop [5, 13] (fun x i => ∃ k : Nat, k ≤ L.length ∧ i = .int .i64 k ∧ x = .int .i64 (bsTo b L k)) (fun _ i => L.length - (intOf i).toNat)
  case atStart => exact ⟨0, Nat.zero_le _, rfl, rfl⟩
  case round =>
    obtain ⟨k, hk, rfl, rfl⟩ := hrel
    by_cases hlt : k < L.length
    · obtain ⟨g5, rfl, hg5, _, hcell⟩ := own_cell HO.out hlt (natV_get hlt)
      have hil := hbi2.out L[k] (List.getElem_mem hlt)
      obtain ⟨bb, off, A1, c1, A2, c2, rfl, hbB, _, e1, _, i2⟩ := H.out L[k] hil
      have d1 := (hb2.cell (p := ⟨bb, off + L[k] * 2 + 1, none⟩) hbB).trans e1
      have hpr : hasL b L[k] = natL b.its[L[k]].2 := by simp [hasL, hil]
      have hin : intL (hasL b L[k]) = b.its[L[k]].2 := by rw [hpr]; exact int_nat fun x hx => (isS_mem (hv.parts _ hil).2.2 x hx).1
      have i3 := i2.below hb2 (Nat.le_refl _)
      rw [← hin] at i3
      have hlen : b.its[L[k]].2.length = (hasL b L[k]).length := by rw [hpr, natL_length]
      have h40 := (hs.2.2.1 b.its[L[k]] (List.getElem_mem hil)).2
      rw [hlen] at d1 h40
      have hhl := hasL_lt hv hil
      have cm := Lib.hid (mask_any A2 c2 _ (hasL b L[k]) _ i3 (by omega) (fun x hx => by have := hhl x hx; omega))
      have hz : mk (hasL b L[k]) < 2 ^ 60 := Nat.lt_of_lt_of_le (mk_lt hhl) (Nat.pow_le_pow_right (by decide) (by omega))
      have hm : bsTo b L k < 2 ^ 60 := Nat.lt_of_lt_of_le (Hbd.out k hk) (Nat.pow_le_pow_right (by decide) (by omega))
      have key := or_nat (bsTo b L k) (mk (hasL b L[k])) (by omega) (by omega)
      have Hs := Lib.hid (bsTo_succ b hlt)
      have Hlt := Lib.hid hlt
      clear e1 i2 hpr hin hlen i3 hhl
      generalize mk (hasL b L[k]) = z at cm key Hs hz
      generalize (hasL b L[k]).length = n1 at d1 cm h40
      generalize bsTo b L k = m at key Hs hm ⊢
      generalize L[k] = y at hcell hil d1 Hs
      generalize m ||| z = r at key Hs
      go_wp2_with (go_at_call 76; refine cm.out.mono ?_; rintro e w3 ⟨rfl, rfl⟩)
      go_round
      case rel => exact ⟨k + 1, Hlt.out, by go_num, by rw [Hs.out]⟩
      case measure => have := Hlt.out; simp [intOf]; omega
    · obtain rfl : k = L.length := by omega
      go_wp2_with fail
      go_ret
      exact ⟨by rw [← Hbs.out]; rfl, hb2⟩
end Go.Proofs.YtgoojcjfhghmgaaDoor
