/- The reference's named, inside; Contains. -/
import Derived.Test.YtgoojcjfhghmgaaDoorBe

namespace Go.Proofs.YtgoojcjfhghmgaaDoor
open Go.RowKit

set_option maxRecDepth 100000 in
set_option maxHeartbeats 2000000 in
theorem named_ref (AI AR : Option Addr) (cI cR B : Nat) (b : Bk) (item : Int) (w : World) (hB : B ≤ w.heap.size) (h : ItsAt B w AI b.its) (h' : RusAt B w AR b.rus) (hs : Short b) :
    Calls Tryd.prog 69 #[.agg #[.int .i64 b.p, .slice AI b.its.length cI, .slice AR b.rus.length cR], .int .i64 item] w fun e w' => e = .returned (.int .i64 (nmR b item)) ∧ Below w.heap.size w w' := by
  have hb0 := Blk.new w 25 #[.int .i64 b.p, .slice AI b.its.length cI, .slice AR b.rus.length cR]
  have hw0 : Below w.heap.size w (w.alloc (.cells #[.int .i64 b.p, .slice AI b.its.length cI, .slice AR b.rus.length cR] 25)) := (Below.refl _ _).alloc (Nat.le_refl _) _
  have hlt : w.heap.size < (w.alloc (.cells #[.int .i64 b.p, .slice AI b.its.length cI, .slice AR b.rus.length cR] 25)).heap.size := hb0.lt
  have hI := (h.below (Below.refl _ _) hB).below hw0 (Nat.le_of_lt hlt)
  have hR := (h'.below (Below.refl _ _) hB).below hw0 (Nat.le_of_lt hlt)
  have cv := Lib.hid (Validate_ref AI AR cI cR _ b _ (Nat.le_refl _) hI hR hs)
  have Hn := Lib.hid (show nmR b item = if vlR b = 0 then (if item < 0 ∨ (b.its.length : Int) ≤ item then 5 else 0) else vlR b from rfl)
  have h60 := hs.1
  have HB := Lib.hid hb0
  have Hw := Lib.hid hw0
  generalize vlR b = e0 at cv Hn
  clear h h' hs hI hR hb0 hw0
  by_cases he : e0 = 0
  · subst he
    have Hn2 := Lib.hid (show nmR b item = if item < 0 ∨ (b.its.length : Int) ≤ item then 5 else 0 by rw [Hn.out, if_pos rfl])
    by_cases h1 : item < 0
    · have Hr := Lib.hid (show nmR b item = 5 by rw [Hn2.out, if_pos (.inl h1)])
      go_enter Tryd.func69, Tryd.ntmps69
      go_wp2_with (go_at_call 21; refine cv.out.mono ?_; rintro e w1 ⟨rfl, hd⟩; have hx1 := HB.out.below hd hlt; have z1 := hx1.cell 1)
      go_ret
      exact ⟨by rw [Hr.out]; rfl, Hw.out.trans (hd.mono Hw.out.size)⟩
    · have h1d : decide (item < 0) = false := by simpa using h1
      by_cases h2 : (b.its.length : Int) ≤ item
      · have Hr := Lib.hid (show nmR b item = 5 by rw [Hn2.out, if_pos (.inr h2)])
        have h2d : decide ((b.its.length : Int) ≤ item) = true := by simpa using h2
        go_enter Tryd.func69, Tryd.ntmps69
        go_wp2_with (go_at_call 21; refine cv.out.mono ?_; rintro e w1 ⟨rfl, hd⟩; have hx1 := HB.out.below hd hlt; have z1 := hx1.cell 1)
        go_ret
        exact ⟨by rw [Hr.out]; rfl, Hw.out.trans (hd.mono Hw.out.size)⟩
      · have Hr := Lib.hid (show nmR b item = 0 by rw [Hn2.out, if_neg (by omega)])
        have h2d : decide ((b.its.length : Int) ≤ item) = false := by simpa using h2
        go_enter Tryd.func69, Tryd.ntmps69
        go_wp2_with (go_at_call 21; refine cv.out.mono ?_; rintro e w1 ⟨rfl, hd⟩; have hx1 := HB.out.below hd hlt; have z1 := hx1.cell 1)
        go_ret
        exact ⟨by rw [Hr.out]; rfl, Hw.out.trans (hd.mono Hw.out.size)⟩
  · have Hr := Lib.hid (show nmR b item = e0 by rw [Hn.out, if_neg he])
    have he1 : (e0 == 0) = false := by simpa using he
    have he2 : (e0 != 0) = true := by simpa using he
    go_enter Tryd.func69, Tryd.ntmps69
    go_wp2_with (go_at_call 21; refine cv.out.mono ?_; rintro e w1 ⟨rfl, hd⟩; have hx1 := HB.out.below hd hlt; have z1 := hx1.cell 1)
    go_ret
    exact ⟨by rw [Hr.out]; rfl, Hw.out.trans (hd.mono Hw.out.size)⟩

theorem cnF_step {b : Bk} {i m c : Nat} (hc : cnF b (i + 1) m = c) : cnF b i (if m.testBit i then m ||| mk (prt b i) else m) = c := hc
theorem prt_at {b : Bk} (hv : VBk b) {i : Nat} (hil : i < b.its.length) {B : Nat} {w : World} {A1 : Option Addr} (i1 : IntsAt B w A1 b.its[i].1) : IntsAt B w A1 (intL (prt b i)) ∧ b.its[i].1.length = (prt b i).length ∧ (prt b i).length ≤ 6 ∧ ∀ x ∈ prt b i, x < i := by
  have hpr : prt b i = natL b.its[i].1 := by simp [prt, hil]
  have hin : intL (prt b i) = b.its[i].1 := by rw [hpr]; exact int_nat fun x hx => (isS_mem (hv.parts i hil).2.1 x hx).1
  have hlen : b.its[i].1.length = (prt b i).length := by rw [hpr, natL_length]
  exact ⟨by rw [hin]; exact i1, hlen, by rw [← hlen]; exact (hv.parts i hil).1, prt_lt hv hil⟩
theorem mkTo_zero (l : List Nat) : mkTo l 0 = 0 := by simp [mkTo]
theorem or_lt {m l n : Nat} (hm : m < 2 ^ n) (hl : l < 2 ^ n) : m ||| l < 2 ^ n := Nat.or_lt_two_pow hm hl

set_option maxRecDepth 100000 in
set_option maxHeartbeats 4000000 in
theorem inside_ref (AI AR : Option Addr) (cI cR B : Nat) (b : Bk) (item : Nat) (w : World) (hB : B ≤ w.heap.size) (h : ItsAt B w AI b.its) (hv : VBk b) (hi : item < b.its.length) :
    Calls Tryd.prog 71 #[.agg #[.int .i64 b.p, .slice AI b.its.length cI, .slice AR b.rus.length cR], .int .i64 item] w fun e w' => e = .returned (.slice (some ⟨w.heap.size + 1, 0, none⟩) b.its.length b.its.length) ∧ BB (w.heap.size + 1) b.its.length (cnS b item) w' ∧ Below w.heap.size w w' := by
  obtain ⟨W0, hW0⟩ : ∃ W0, W0 = w.alloc (.cells #[.int .i64 b.p, .slice AI b.its.length cI, .slice AR b.rus.length cR] 25) := ⟨_, rfl⟩
  have hw0 : Below w.heap.size w W0 := by rw [hW0]; exact balloc (Below.refl _ _) _
  have hb0 : Blk W0 w.heap.size 25 #[.int .i64 b.p, .slice AI b.its.length cI, .slice AR b.rus.length cR] := by rw [hW0]; exact Blk.new w 25 _
  have hsz : W0.heap.size = w.heap.size + 1 := by rw [hW0]; simp only [World.size_alloc]
  have ni := hv.ni
  obtain ⟨cs, hs, hz, mk0⟩ := make_bools b.its.length (by omega)
  have H := Lib.hid (h.below (Below.refl _ _) hB)
  have hbm : BB (w.heap.size + 1) b.its.length 0 (W0.alloc (.cells cs 4)) := by rw [← hsz]; exact BB.made W0 hs hz
  have HB0 := Lib.hid (show BB (w.heap.size + 1) b.its.length (2 ^ item) (W0.alloc (.cells (cs.setIfInBounds item (.bool true)) 4)) from ⟨_, by rw [← hsz]; exact Blk.new W0 4 _, by simp; omega, fun e he => by
    rw [Array.getElem?_setIfInBounds, Nat.testBit_two_pow]
    by_cases hed : item = e
    · subst hed
      rw [if_pos rfl, if_pos (by omega)]; simp
    · rw [if_neg hed, hz e he]
      simp [hed]⟩)
  have hz0 := hbm.cell hi
  have hz1 := hbm.frozen item
  have Hw := Lib.hid (hw0.alloc hw0.size (.cells (cs.setIfInBounds item (.bool true)) 4))
  have HK := Lib.hid (hb0.alloc (.cells (cs.setIfInBounds item (.bool true)) 4))
  have x1 := hb0.cell 1
  have Hcn := Lib.hid (show cnF b (item + 1) (2 ^ item) = cnS b item from rfl)
  have Hpow := Lib.hid (show 2 ^ item < 2 ^ b.its.length from Nat.pow_lt_pow_right (by decide) hi)
  have Hprt := Lib.hid (fun i (hil : i < b.its.length) A1 (i1 : IntsAt w.heap.size w A1 b.its[i].1) => prt_at hv hil i1)
  generalize cnS b item = C at Hcn ⊢
  clear h hw0 hb0 hbm hs hz hv hB hsz
  subst hW0
  go_enter Tryd.func71, Tryd.ntmps71
  go_wp2_with fail
  go_loopw [6] (fun s6 wr => ∃ k m : Nat, k ≤ item + 1 ∧ s6 = .int .i64 ((k : Int) - 1) ∧ m < 2 ^ b.its.length ∧ Aside (cnF b k m = C) ∧ Aside (BB (w.heap.size + 1) b.its.length m wr) ∧ Below w.heap.size w wr ∧ Aside (Blk wr w.heap.size 25 #[.int .i64 b.p, .slice AI b.its.length cI, .slice AR b.rus.length cR])) (fun s6 _ => (intOf s6 + 1).toNat)
  case atStart => exact ⟨item + 1, 2 ^ item, Nat.le_refl _, by go_num, Hpow.out, Hcn.out, HB0.out, Hw.out, HK.out⟩
  case round =>
    clear HB0 Hw HK hz0 hz1 x1
    obtain ⟨k, m, hk, rfl, hm, hc, hbb, hb, hblk⟩ := hrel
    cases k with
    | zero =>
      have HmC := Lib.hid (show m = C from hc.out)
      have HBB := Lib.hid hbb.out
      clear hc hbb hblk
      go_wp2_with fail
      go_ret
      exact ⟨rfl, by rw [← HmC.out]; exact HBB.out, hb⟩
    | succ i =>
      have e1 : ((i + 1 : Nat) : Int) - 1 = (i : Int) := by omega
      rw [e1]
      have hil : i < b.its.length := by omega
      have Hc := Lib.hid (cnF_step hc.out)
      obtain ⟨bb, off, A1, c1, A2, c2, rfl, hbB, e0, _, i1, _⟩ := H.out i hil
      obtain ⟨i1', hlen, h6, hpl⟩ := Hprt.out i hil A1 i1
      have HBB := Lib.hid hbb.out
      have HBK := Lib.hid hblk.out
      have Hb := Lib.hid hb
      have d0 := (hb.cell (p := ⟨bb, off + i * 2, none⟩) hbB).trans e0
      rw [hlen] at d0
      clear e1 hc hbb hblk hb e0 i1 hlen
      generalize prt b i = L at Hc i1' d0 h6 hpl
      have hi0 : (0 : Int) ≤ (i : Int) := by omega
      obtain ⟨W1, hW1⟩ : ∃ W1, W1 = wr := ⟨_, rfl⟩
      subst hW1
      go_wp2_with fail
      go_loopw [7] (fun s7 wy => ∃ j : Nat, j ≤ L.length ∧ s7 = .int .i64 j ∧ Aside (m.testBit i = false → j = 0) ∧ Aside (BB (w.heap.size + 1) b.its.length (m ||| mkTo L j) wy) ∧ Below w.heap.size w wy ∧ Aside (Blk wy w.heap.size 25 #[.int .i64 b.p, .slice (some ⟨bb, off, none⟩) b.its.length cI, .slice AR b.rus.length cR])) (fun s7 _ => L.length - (intOf s7).toNat)
      case atStart => exact ⟨0, Nat.zero_le _, rfl, fun _ => rfl, by rw [mkTo_zero, Nat.or_zero]; exact HBB.out, Hb.out, HBK.out⟩
      case round =>
        obtain ⟨j, hj, rfl, hz, hbb, hb, hblk⟩ := hrel
        have z1 := hblk.out.cell 1
        have d1 := (hb.cell (p := ⟨bb, off + i * 2, none⟩) hbB).trans ((Hb.out.cell (p := ⟨bb, off + i * 2, none⟩) hbB).symm.trans d0)
        have b0 := hbb.out.cell hil
        have HBy := Lib.hid hbb.out
        have HKy := Lib.hid hblk.out
        have Hby := Lib.hid hb
        have Hz := Lib.hid hz.out
        clear hz hbb hblk hb d0 Hb HBB HBK
        by_cases hjl : j < L.length
        · cases hbit : m.testBit i with
          | false =>
            have hj0 := Hz.out hbit
            subst hj0
            rw [mkTo_zero, Nat.or_zero, hbit] at b0
            rw [hbit] at Hc
            rw [mkTo_zero, Nat.or_zero] at HBy
            clear hbit Hz
            have jd : decide ((0 : Int) < (L.length : Int)) = true := by simp; omega
            go_wp2_with fail
            go_roundw
            case rel => exact ⟨i, m, by omega, by go_num, hm, (show cnF b i m = C by simpa using Hc.out), HBy.out, Hby.out, HKy.out⟩
            case measure => simp [intOf]
          | true =>
            rw [Nat.testBit_or, hbit, Bool.true_or] at b0
            obtain ⟨b3, o3, rfl, hb3, c3⟩ := i1'.at (k := j) (by simp [intL]; omega)
            have e3 : (intL L)[j]'(by simp [intL]; omega) = ((L[j] : Nat) : Int) := by simp [intL]
            rw [e3] at c3
            have c3' := (Hby.out.cell (p := ⟨b3, o3 + j, none⟩) hb3).trans c3
            have hq := hpl L[j] (List.getElem_mem hjl)
            have hqn : L[j] < b.its.length := by omega
            have y0 := HBy.out.cell hqn
            have y1 := HBy.out.frozen L[j]
            have Hs := Lib.hid (mkTo_succ hjl)
            have hjd : decide ((j : Int) < (L.length : Int)) = true := by simp; omega
            clear c3 e3
            generalize L[j] = q at c3' hq hqn y0 y1 Hs
            have HBp := Lib.hid (HBy.out.put q)
            rw [Nat.or_assoc] at HBp
            go_wp2_with fail
            go_roundw
            case rel => exact ⟨j + 1, by omega, by go_num, fun h => absurd h (by decide), by rw [Hs.out]; exact HBp.out, below_put Hby.out (Nat.le_succ _) _ _, HKy.out.far (show w.heap.size ≠ w.heap.size + 1 by omega) _⟩
            case measure => simp [intOf]; omega
        · obtain rfl : j = L.length := by omega
          have Ha := Lib.hid (mkTo_all L)
          have HmL := Lib.hid (mk_lt (l := L) (n := b.its.length) (fun x hx => by have := hpl x hx; omega))
          have hjd : decide ((L.length : Int) < (L.length : Int)) = false := by simp
          clear b0
          go_wp2_with fail
          go_roundw
          case rel =>
            refine ⟨i, if m.testBit i then m ||| mk L else m, by omega, by go_num, ?_, Hc.out, ?_, Hby.out, HKy.out⟩
            · split
              · exact or_lt hm HmL.out
              · exact hm
            · have hb9 : BB (w.heap.size + 1) b.its.length (m ||| mkTo L L.length) _ := HBy.out
              rw [Ha.out] at hb9
              cases hbit : m.testBit i with
              | true => exact (show BB (w.heap.size + 1) b.its.length (if true = true then m ||| mk L else m) _ by simpa using hb9)
              | false =>
                have h0 := Hz.out hbit
                have hl0 : mk L = 0 := by rw [← Ha.out, h0, mkTo_zero]
                rw [hl0, Nat.or_zero] at hb9
                exact (show BB (w.heap.size + 1) b.its.length (if false = true then m ||| mk L else m) _ by simpa using hb9)
          case measure => simp [intOf]
end Go.Proofs.YtgoojcjfhghmgaaDoor

/- The reference's base. -/
namespace Go.Proofs.YtgoojcjfhghmgaaDoor
open Go.RowKit

def bsN (b : Bk) (C k : Nat) : Nat := (List.range k).foldl (fun m i => if C.testBit i then m ||| mk (hasL b i) else m) 0
theorem bsN_succ (b : Bk) (C k : Nat) : bsN b C (k + 1) = if C.testBit k then bsN b C k ||| mk (hasL b k) else bsN b C k := by
  unfold bsN
  rw [List.range_succ, List.foldl_append]; rfl
theorem bsN_all {b : Bk} (hv : VBk b) {item : Nat} (hi : item < b.its.length) : bsN b (cnS b item) b.its.length = bsS b item := by
  have hC : cnS b item < 2 ^ b.its.length := Nat.lt_of_lt_of_le (cnS_lt hv hi) (Nat.pow_le_pow_right (by decide) hi)
  unfold bsN bsS
  rw [bl_filter hC (by have := hv.ni; omega), List.foldl_filter]
theorem bsN_lt {b : Bk} (hv : VBk b) (C : Nat) : ∀ k, k ≤ b.its.length → bsN b C k < 2 ^ b.p.toNat
  | 0, _ => by simp [bsN]; exact Nat.two_pow_pos _
  | k + 1, hk => by
    have ih := bsN_lt hv C k (by omega)
    rw [bsN_succ]
    split
    · exact or_lt ih (mk_lt (hasL_lt hv (by omega)))
    · exact ih
theorem BB.far {g n x : Nat} {W : World} (h : BB g n x W) {p : Addr} (hp : g ≠ p.block) (u : Value) : BB g n x (W.setCell p u) := by
  obtain ⟨cs, h1, h2, h3⟩ := h
  exact ⟨cs, h1.far hp u, h2, h3⟩
theorem has_at {b : Bk} (hv : VBk b) {i : Nat} (hil : i < b.its.length) {B : Nat} {w : World} {A2 : Option Addr} (i2 : IntsAt B w A2 b.its[i].2) : IntsAt B w A2 (intL (hasL b i)) ∧ b.its[i].2.length = (hasL b i).length ∧ ∀ x ∈ hasL b i, x < b.p.toNat := by
  have hpr : hasL b i = natL b.its[i].2 := by simp [hasL, hil]
  have hin : intL (hasL b i) = b.its[i].2 := by rw [hpr]; exact int_nat fun x hx => (isS_mem (hv.parts i hil).2.2 x hx).1
  have hlen : b.its[i].2.length = (hasL b i).length := by rw [hpr, natL_length]
  exact ⟨by rw [hin]; exact i2, hlen, hasL_lt hv hil⟩

set_option maxRecDepth 100000 in
set_option maxHeartbeats 4000000 in
theorem base_ref (AI AR : Option Addr) (cI cR B : Nat) (b : Bk) (item : Nat) (w : World) (hB : B ≤ w.heap.size) (h : ItsAt B w AI b.its) (hs : Short b) (hv : VBk b) (hi : item < b.its.length) :
    Calls Tryd.prog 74 #[.agg #[.int .i64 b.p, .slice AI b.its.length cI, .slice AR b.rus.length cR], .int .i64 item] w fun e w' => e = .returned (.slice (some ⟨w.heap.size + 1, 0, none⟩) b.p.toNat b.p.toNat) ∧ BB (w.heap.size + 1) b.p.toNat (bsS b item) w' ∧ Below w.heap.size w w' := by
  obtain ⟨W0, hW0⟩ : ∃ W0, W0 = w.alloc (.cells #[.int .i64 b.p, .slice AI b.its.length cI, .slice AR b.rus.length cR] 25) := ⟨_, rfl⟩
  have hw0 : Below w.heap.size w W0 := by rw [hW0]; exact balloc (Below.refl _ _) _
  have hb0 : Blk W0 w.heap.size 25 #[.int .i64 b.p, .slice AI b.its.length cI, .slice AR b.rus.length cR] := by rw [hW0]; exact Blk.new w 25 _
  have hsz : W0.heap.size = w.heap.size + 1 := by rw [hW0]; simp only [World.size_alloc]
  have ni := hv.ni
  have hp1 := hv.p1
  have hp0 := hv.p0
  obtain ⟨cs, hs1, hz, mk0⟩ := make_bools b.p.toNat (by omega)
  rw [Int.toNat_of_nonneg hp0] at mk0
  have H := Lib.hid (h.below (Below.refl _ _) hB)
  have hbm : BB (w.heap.size + 1) b.p.toNat 0 (W0.alloc (.cells cs 4)) := by rw [← hsz]; exact BB.made W0 hs1 hz
  have HB0 := Lib.hid hbm
  have hw1 := hw0.alloc hw0.size (.cells cs 4)
  have Hw := Lib.hid hw1
  have hk1 := hb0.alloc (.cells cs 4)
  have HK := Lib.hid hk1
  have x0 := hb0.cell 0
  obtain ⟨z0, z1, z2, _⟩ := blk3 hk1
  have hg1 : (W0.alloc (.cells cs 4)).heap.size = w.heap.size + 1 + 1 := by simp only [World.size_alloc, hsz]
  have cin0 := inside_ref AI AR cI cR _ b item (W0.alloc (.cells cs 4)) (Nat.le_refl _) ((h.below (Below.refl _ _) hB).below hw1 hw1.size) hv hi
  rw [hg1] at cin0
  have cin := Lib.hid cin0
  clear cin0
  have Hall := Lib.hid (bsN_all hv hi)
  have Hlt := Lib.hid (bsN_lt hv (cnS b item))
  have Hsu := Lib.hid (bsN_succ b (cnS b item))
  have Hh := Lib.hid (fun i (hil : i < b.its.length) A2 (i2 : IntsAt w.heap.size w A2 b.its[i].2) => has_at hv hil i2)
  have Hl := Lib.hid hs.2.2.1
  have H0 := Lib.hid (show bsN b (cnS b item) 0 = 0 from rfl)
  generalize bsS b item = S at Hall ⊢
  generalize bsN b (cnS b item) = N at Hall Hlt Hsu H0
  generalize cnS b item = C at cin Hsu
  clear h hw0 hb0 hbm hs1 hz hv hB hsz hw1 hk1 hs hi
  subst hW0
  go_enter Tryd.func74, Tryd.ntmps74
  go_wp2_with (go_at_call 71; refine cin.out.mono ?_; rintro e w1 ⟨rfl, hbin, hd1⟩)
  have HI := Lib.hid hbin
  have HBo := Lib.hid (HB0.out.below hd1 (Nat.lt_succ_self _))
  have HKo := Lib.hid (HK.out.below hd1 (Nat.lt_succ_of_lt (Nat.lt_succ_self _)))
  have Hbo := Lib.hid (Hw.out.trans (hd1.mono (show w.heap.size ≤ w.heap.size + 1 + 1 by omega)))
  clear hbin hd1 HB0 HK Hw x0 z0 z1 z2 hg1
  go_loopw [7] (fun s7 wr => ∃ i : Nat, i ≤ b.its.length ∧ s7 = .int .i64 i ∧ Aside (BB (w.heap.size + 1) b.p.toNat (N i) wr) ∧ Aside (BB (w.heap.size + 1 + 1 + 1) b.its.length C wr) ∧ Below w.heap.size w wr ∧ Aside (Blk wr w.heap.size 25 #[.int .i64 b.p, .slice AI b.its.length cI, .slice AR b.rus.length cR])) (fun s7 _ => b.its.length - (intOf s7).toNat)
  case atStart => exact ⟨0, Nat.zero_le _, rfl, by rw [H0.out]; exact HBo.out, HI.out, Hbo.out, HKo.out⟩
  case round =>
    clear HI HBo HKo Hbo
    obtain ⟨i, hik, rfl, hbb, hbi, hb, hblk⟩ := hrel
    by_cases hil : i < b.its.length
    · obtain ⟨bb, off, A1, c1, A2, c2, rfl, hbB, _, e1, _, i2⟩ := H.out i hil
      obtain ⟨i2', hlen, hpl⟩ := Hh.out i hil A2 i2
      have hl40 := (Hl.out b.its[i] (List.getElem_mem hil)).2
      have HBB := Lib.hid hbb.out
      have HBI := Lib.hid hbi.out
      have HBK := Lib.hid hblk.out
      have Hb := Lib.hid hb
      have Hs := Lib.hid (Hsu.out i)
      have Hli := Lib.hid (Hlt.out i (by omega))
      rw [hlen] at e1 hl40
      clear hbb hbi hblk hb i2 hlen
      generalize hasL b i = L at i2' e1 hpl Hs hl40
      generalize N i = m at HBB Hs Hli
      obtain ⟨W1, hW1⟩ : ∃ W1, W1 = wr := ⟨_, rfl⟩
      subst hW1
      go_wp2_with fail
      go_loopw [8] (fun s8 wy => ∃ j : Nat, j ≤ L.length ∧ s8 = .int .i64 j ∧ Aside (C.testBit i = false → j = 0) ∧ Aside (BB (w.heap.size + 1) b.p.toNat (m ||| mkTo L j) wy) ∧ Aside (BB (w.heap.size + 1 + 1 + 1) b.its.length C wy) ∧ Below w.heap.size w wy ∧ Aside (Blk wy w.heap.size 25 #[.int .i64 b.p, .slice (some ⟨bb, off, none⟩) b.its.length cI, .slice AR b.rus.length cR])) (fun s8 _ => L.length - (intOf s8).toNat)
      case atStart => exact ⟨0, Nat.zero_le _, rfl, fun _ => rfl, by rw [mkTo_zero, Nat.or_zero]; exact HBB.out, HBI.out, Hb.out, HBK.out⟩
      case round =>
        obtain ⟨j, hj, rfl, hz, hbb, hbi, hb, hblk⟩ := hrel
        have z1 := hblk.out.cell 1
        have d1 := (hb.cell (p := ⟨bb, off + i * 2 + 1, none⟩) hbB).trans e1
        have b0 := hbi.out.cell hil
        have HBy := Lib.hid hbb.out
        have HIy := Lib.hid hbi.out
        have HKy := Lib.hid hblk.out
        have Hby := Lib.hid hb
        have Hz := Lib.hid hz.out
        clear hz hbb hbi hblk hb Hb HBB HBI HBK
        by_cases hjl : j < L.length
        · cases hbit : C.testBit i with
          | false =>
            have hj0 := Hz.out hbit
            subst hj0
            rw [hbit] at b0 Hs
            rw [mkTo_zero, Nat.or_zero] at HBy
            clear hbit Hz
            have jd : decide ((0 : Int) < (L.length : Int)) = true := by simp; omega
            go_wp2_with fail
            go_roundw
            case rel => exact ⟨i + 1, by omega, by go_num, by rw [Hs.out]; exact HBy.out, HIy.out, Hby.out, HKy.out⟩
            case measure => simp [intOf]; omega
          | true =>
            rw [hbit] at b0
            obtain ⟨b3, o3, rfl, hb3, c3⟩ := i2'.at (k := j) (by simp [intL]; omega)
            have e3 : (intL L)[j]'(by simp [intL]; omega) = ((L[j] : Nat) : Int) := by simp [intL]
            rw [e3] at c3
            have c3' := (Hby.out.cell (p := ⟨b3, o3 + j, none⟩) hb3).trans c3
            have hq := hpl L[j] (List.getElem_mem hjl)
            have hqm : ((L[j] : Nat) : Int) < max b.p 0 := by omega
            have y0 := HBy.out.cell hq
            have y1 := HBy.out.frozen L[j]
            have Hs2 := Lib.hid (mkTo_succ hjl)
            have hjd : decide ((j : Int) < (L.length : Int)) = true := by simp; omega
            clear c3 e3
            generalize L[j] = q at c3' hq hqm y0 y1 Hs2
            have HBp := Lib.hid (HBy.out.put q)
            rw [Nat.or_assoc] at HBp
            go_wp2_with fail
            go_roundw
            case rel => exact ⟨j + 1, by omega, by go_num, fun h => absurd h (by decide), by rw [Hs2.out]; exact HBp.out, HIy.out.far (show w.heap.size + 1 + 1 + 1 ≠ w.heap.size + 1 by omega) _, below_put Hby.out (Nat.le_succ _) _ _, HKy.out.far (show w.heap.size ≠ w.heap.size + 1 by omega) _⟩
            case measure => simp [intOf]; omega
        · obtain rfl : j = L.length := by omega
          have Ha := Lib.hid (mkTo_all L)
          have hjd : decide ((L.length : Int) < (L.length : Int)) = false := by simp
          clear b0
          go_wp2_with fail
          go_roundw
          case rel =>
            refine ⟨i + 1, by omega, by go_num, ?_, HIy.out, Hby.out, HKy.out⟩
            have hb9 : BB (w.heap.size + 1) b.p.toNat (m ||| mkTo L L.length) _ := HBy.out
            rw [Ha.out] at hb9
            rw [Hs.out]
            cases hbit : C.testBit i with
            | true => exact (show BB (w.heap.size + 1) b.p.toNat (if true = true then m ||| mk L else m) _ by simpa using hb9)
            | false =>
              have h0 := Hz.out hbit
              have hl0 : mk L = 0 := by rw [← Ha.out, h0, mkTo_zero]
              rw [hl0, Nat.or_zero] at hb9
              exact (show BB (w.heap.size + 1) b.p.toNat (if false = true then m ||| mk L else m) _ by simpa using hb9)
          case measure => simp [intOf]; omega
    · obtain rfl : i = b.its.length := by omega
      have HBB := Lib.hid hbb.out
      rw [Hall.out] at HBB
      clear hbb hbi hblk
      go_wp2_with fail
      go_ret
      exact ⟨by rfl, HBB.out, hb⟩
end Go.Proofs.YtgoojcjfhghmgaaDoor

/- Contains; the reference's Contains, Label. -/
namespace Go.Proofs.YtgoojcjfhghmgaaDoor
open Go.RowKit

/-- What Contains returns. -/
def CnR (b : Bk) (item : Int) (base : Nat) (v : Value) (w : World) : Prop :=
  if nmR b item = 0 then cnS b item.toNat < 2 ^ b.its.length ∧ b.its.length ≤ 20 ∧ w.ownsRow base 3 1 v (bl (cnS b item.toNat)).length (natV (bl (cnS b item.toNat))) else v = .slice none 0 0

set_option maxRecDepth 100000 in
set_option maxHeartbeats 4000000 in
theorem Contains_any (AI AR : Option Addr) (cI cR B : Nat) (b : Bk) (item : Int) (w : World) (hB : B ≤ w.heap.size) (h : ItsAt B w AI b.its) (h' : RusAt B w AR b.rus) (hs : Short b) (hT : Tab w) :
    Calls Tryd.prog 26 #[.agg #[.int .i64 b.p, .slice AI b.its.length cI, .slice AR b.rus.length cR], .int .i64 item] w fun e w' => ∃ v, e = .returned (.tuple #[v, .int .i64 (nmR b item)]) ∧ CnR b item w.heap.size v w' ∧ Below w.heap.size w w' := by
  have hb0 := Blk.new w 25 #[.int .i64 b.p, .slice AI b.its.length cI, .slice AR b.rus.length cR]
  have hw0 : Below w.heap.size w (w.alloc (.cells #[.int .i64 b.p, .slice AI b.its.length cI, .slice AR b.rus.length cR] 25)) := (Below.refl _ _).alloc (Nat.le_refl _) _
  obtain ⟨W0, hW0⟩ : ∃ W0, W0 = w.alloc (.cells #[.int .i64 b.p, .slice AI b.its.length cI, .slice AR b.rus.length cR] 25) := ⟨_, rfl⟩
  rw [← hW0] at hb0 hw0
  have hlt : w.heap.size < W0.heap.size := hb0.lt
  have hI := (h.below (Below.refl _ _) hB).below hw0 (Nat.le_of_lt hlt)
  have hR := (h'.below (Below.refl _ _) hB).below hw0 (Nat.le_of_lt hlt)
  have cn := Lib.hid (named_any AI AR cI cR _ b item W0 (Nat.le_refl _) hI hR hs)
  have HB := Lib.hid hb0
  have Hw := Lib.hid hw0
  by_cases h0 : nmR b item = 0
  · obtain ⟨hv0, hi0, hi1⟩ := nm_zero h0
    have hv := vl_zero hv0
    have hp1 := hv.p1
    have hp0 := hv.p0
    have ni := hv.ni
    have hit : item.toNat < b.its.length := by omega
    have hcn := Nat.lt_of_lt_of_le (cnS_lt hv hit) (Nat.pow_le_pow_right (show 0 < 2 by decide) hit)
    have Hn := Lib.hid (fun v W (h3 : W.ownsRow w.heap.size 3 1 v (bl (cnS b item.toNat)).length (natV (bl (cnS b item.toNat)))) => show CnR b item w.heap.size v W by rw [CnR, if_pos h0]; exact ⟨hcn, ni, h3⟩)
    have hT0 := hT.below hw0 hT.2
    have hC60 : cnS b item.toNat < 1152921504606846976 := Nat.lt_of_lt_of_le hcn (Nat.le_trans (Nat.pow_le_pow_right (by decide) (show b.its.length ≤ 60 by omega)) (by decide))
    have hC20 : (bl (cnS b item.toNat)).length ≤ 1000 := by have := bl_length hcn (by omega); omega
    have c1 := fun W (hW : Below W0.heap.size W0 W) => contained_any AI AR cI cR W0.heap.size b item.toNat W hW.size (hI.below hW (Nat.le_refl _)) hv hit
    rw [Int.toNat_of_nonneg hi0] at c1
    have cc := Lib.hid c1
    have cl := Lib.hid (fun W (hW : Below W0.heap.size W0 W) => list_any (cnS b item.toNat) hC60 W (hT0.below hW hT0.2) hC20)
    generalize cnS b item.toNat = C at *
    rw [h0] at cn
    have Hz := Lib.hid h0
    clear h h' hs hI hR hb0 hw0 hv hv0 h0 hi0 hi1 hit hcn hB hT hT0 hC60 hC20 c1
    have tok := Lib.hid (Nat.le_refl 0)
    go_enter Tryd.func26, Tryd.ntmps26
    go_wp2_with (first
      | (have tk := tok; clear tok; go_at_call 67; rw [← hW0]; clear hW0; refine cn.out.mono ?_; rintro e w1 ⟨rfl, hd⟩; have hd1 := hd; have tok2 := tk; have hx1 := HB.out.below hd1 hlt; have z0 := hx1.cell 0; have z1 := hx1.cell 1; have z2 := hx1.cell 2; clear hd)
      | (have tk := tok2; clear tok2; go_at_call 68; refine (cc.out _ hd1).mono ?_; rintro e w2 ⟨rfl, _, hd⟩; have hb2 := hd1.trans (hd.mono hd1.size); have tok3 := tk; clear hd)
      | (have tk := tok3; clear tok3; go_at_call 65; refine (cl.out _ hb2).mono ?_; rintro e w3 ⟨v3, rfl, ho, hd⟩; have hb3 := hb2.trans (hd.mono hb2.size)))
    go_ret2
    exact ⟨v3, by rw [Hz.out]; rfl, Hn.out v3 _ (own_base ho (Nat.le_trans (Nat.le_of_lt hlt) hb2.size)), Hw.out.trans (hb3.mono Hw.out.size)⟩
  · have Hn := Lib.hid (fun v W (hv : v = Value.slice none 0 0) => show CnR b item w.heap.size v W by rw [CnR, if_neg h0]; exact hv)
    have he2 : (nmR b item != 0) = true := by simpa using h0
    generalize nmR b item = e0 at cn he2 ⊢
    clear h h' hs hI hR hb0 hw0 hB h0
    go_enter Tryd.func26, Tryd.ntmps26
    go_wp2_with (go_at_call 67; rw [← hW0]; clear hW0; refine cn.out.mono ?_; rintro e w1 ⟨rfl, hd⟩; have hx1 := HB.out.below hd hlt; have z0 := hx1.cell 0; have z1 := hx1.cell 1; have z2 := hx1.cell 2)
    go_ret2
    exact ⟨_, rfl, Hn.out _ _ rfl, Hw.out.trans (hd.mono Hw.out.size)⟩

set_option maxRecDepth 100000 in
set_option maxHeartbeats 4000000 in
theorem Contains_ref (AI AR : Option Addr) (cI cR B : Nat) (b : Bk) (item : Int) (w : World) (hB : B ≤ w.heap.size) (h : ItsAt B w AI b.its) (h' : RusAt B w AR b.rus) (hs : Short b) :
    Calls Tryd.prog 27 #[.agg #[.int .i64 b.p, .slice AI b.its.length cI, .slice AR b.rus.length cR], .int .i64 item] w fun e w' => ∃ v, e = .returned (.tuple #[v, .int .i64 (nmR b item)]) ∧ CnR b item w.heap.size v w' ∧ Below w.heap.size w w' := by
  have hb0 := Blk.new w 25 #[.int .i64 b.p, .slice AI b.its.length cI, .slice AR b.rus.length cR]
  have hw0 : Below w.heap.size w (w.alloc (.cells #[.int .i64 b.p, .slice AI b.its.length cI, .slice AR b.rus.length cR] 25)) := (Below.refl _ _).alloc (Nat.le_refl _) _
  obtain ⟨W0, hW0⟩ : ∃ W0, W0 = w.alloc (.cells #[.int .i64 b.p, .slice AI b.its.length cI, .slice AR b.rus.length cR] 25) := ⟨_, rfl⟩
  rw [← hW0] at hb0 hw0
  have hlt : w.heap.size < W0.heap.size := hb0.lt
  have hI := (h.below (Below.refl _ _) hB).below hw0 (Nat.le_of_lt hlt)
  have hR := (h'.below (Below.refl _ _) hB).below hw0 (Nat.le_of_lt hlt)
  have cn := Lib.hid (named_ref AI AR cI cR _ b item W0 (Nat.le_refl _) hI hR hs)
  have HB := Lib.hid hb0
  have Hw := Lib.hid hw0
  by_cases h0 : nmR b item = 0
  · obtain ⟨hv0, hi0, hi1⟩ := nm_zero h0
    have hv := vl_zero hv0
    have hp1 := hv.p1
    have hp0 := hv.p0
    have ni := hv.ni
    have hit : item.toNat < b.its.length := by omega
    have hcn := Nat.lt_of_lt_of_le (cnS_lt hv hit) (Nat.pow_le_pow_right (show 0 < 2 by decide) hit)
    have Hn := Lib.hid (fun v W (h3 : W.ownsRow w.heap.size 3 1 v (bl (cnS b item.toNat)).length (natV (bl (cnS b item.toNat)))) => show CnR b item w.heap.size v W by rw [CnR, if_pos h0]; exact ⟨hcn, ni, h3⟩)
    have c1 := fun W (hW : Below W0.heap.size W0 W) => inside_ref AI AR cI cR W0.heap.size b item.toNat W hW.size (hI.below hW (Nat.le_refl _)) hv hit
    rw [Int.toNat_of_nonneg hi0] at c1
    have cc := Lib.hid c1
    have cl := Lib.hid (fun g0 W (hbr : BR g0 b.its.length (cnS b item.toNat) W) => places_ref g0 b.its.length (cnS b item.toNat) b.its.length W hbr (by omega) hcn)
    generalize cnS b item.toNat = C at *
    rw [h0] at cn
    have Hz := Lib.hid h0
    clear h h' hs hI hR hb0 hw0 hv hv0 h0 hi0 hi1 hit hcn hB c1
    have tok := Lib.hid (Nat.le_refl 0)
    go_enter Tryd.func27, Tryd.ntmps27
    go_wp2_with (first
      | (have tk := tok; clear tok; go_at_call 69; rw [← hW0]; clear hW0; refine cn.out.mono ?_; rintro e w1 ⟨rfl, hd⟩; have hd1 := hd; have tok2 := tk; have hx1 := HB.out.below hd1 hlt; have z0 := hx1.cell 0; have z1 := hx1.cell 1; have z2 := hx1.cell 2; clear hd)
      | (have tk := tok2; clear tok2; go_at_call 71; refine (cc.out _ hd1).mono ?_; rintro e w2 ⟨rfl, hbb, hd⟩; have hb2 := hd1.trans (hd.mono hd1.size); have tok3 := tk; have hbr := hbb.br; clear hd hbb)
      | (have tk := tok3; clear tok3; go_at_call 70; refine (cl.out _ _ hbr).mono ?_; rintro e w3 ⟨v3, rfl, ho, hd⟩; have hb3 := hb2.trans (hd.mono hb2.size)))
    go_ret2
    exact ⟨v3, by rw [Hz.out]; rfl, Hn.out v3 _ (own_base ho (Nat.le_trans (Nat.le_of_lt hlt) hb2.size)), Hw.out.trans (hb3.mono Hw.out.size)⟩
  · have Hn := Lib.hid (fun v W (hv : v = Value.slice none 0 0) => show CnR b item w.heap.size v W by rw [CnR, if_neg h0]; exact hv)
    have he2 : (nmR b item != 0) = true := by simpa using h0
    generalize nmR b item = e0 at cn he2 ⊢
    clear h h' hs hI hR hb0 hw0 hB h0
    go_enter Tryd.func27, Tryd.ntmps27
    go_wp2_with (go_at_call 69; rw [← hW0]; clear hW0; refine cn.out.mono ?_; rintro e w1 ⟨rfl, hd⟩; have hx1 := HB.out.below hd hlt; have z0 := hx1.cell 0; have z1 := hx1.cell 1; have z2 := hx1.cell 2)
    go_ret2
    exact ⟨_, rfl, Hn.out _ _ rfl, Hw.out.trans (hd.mono Hw.out.size)⟩

set_option maxRecDepth 100000 in
set_option maxHeartbeats 4000000 in
theorem Label_ref (AI AR : Option Addr) (cI cR B : Nat) (b : Bk) (item : Int) (w : World) (hB : B ≤ w.heap.size) (h : ItsAt B w AI b.its) (h' : RusAt B w AR b.rus) (hs : Short b) :
    Calls Tryd.prog 29 #[.agg #[.int .i64 b.p, .slice AI b.its.length cI, .slice AR b.rus.length cR], .int .i64 item] w fun e w' => ∃ v, e = .returned (.tuple #[v, .int .i64 (nmR b item)]) ∧ LbR b item w.heap.size v w' ∧ Below w.heap.size w w' := by
  have hb0 := Blk.new w 25 #[.int .i64 b.p, .slice AI b.its.length cI, .slice AR b.rus.length cR]
  have hw0 : Below w.heap.size w (w.alloc (.cells #[.int .i64 b.p, .slice AI b.its.length cI, .slice AR b.rus.length cR] 25)) := (Below.refl _ _).alloc (Nat.le_refl _) _
  obtain ⟨W0, hW0⟩ : ∃ W0, W0 = w.alloc (.cells #[.int .i64 b.p, .slice AI b.its.length cI, .slice AR b.rus.length cR] 25) := ⟨_, rfl⟩
  rw [← hW0] at hb0 hw0
  have hlt : w.heap.size < W0.heap.size := hb0.lt
  have hI := (h.below (Below.refl _ _) hB).below hw0 (Nat.le_of_lt hlt)
  have hR := (h'.below (Below.refl _ _) hB).below hw0 (Nat.le_of_lt hlt)
  have cn := Lib.hid (named_ref AI AR cI cR _ b item W0 (Nat.le_refl _) hI hR hs)
  have HB := Lib.hid hb0
  have Hw := Lib.hid hw0
  by_cases h0 : nmR b item = 0
  · obtain ⟨hv0, hi0, hi1⟩ := nm_zero h0
    have hv := vl_zero hv0
    have hp1 := hv.p1
    have hp0 := hv.p0
    have ni := hv.ni
    have hit : item.toNat < b.its.length := by omega
    have hcn := Nat.lt_of_lt_of_le (cnS_lt hv hit) (Nat.pow_le_pow_right (show 0 < 2 by decide) hit)
    have Hn := Lib.hid (fun v W x (h1 : Cl b.rus (bsS b item.toNat) allW x) (h2 : x < 2 ^ b.p.toNat) (h3 : W.ownsRow w.heap.size 3 1 v (bl x).length (natV (bl x))) => show LbR b item w.heap.size v W by rw [LbR, if_pos h0]; exact ⟨x, ⟨h1, h2⟩, h3⟩)
    have c1 := fun W (hW : Below W0.heap.size W0 W) => base_ref AI AR cI cR W0.heap.size b item.toNat W hW.size (hI.below hW (Nat.le_refl _)) hs hv hit
    rw [Int.toNat_of_nonneg hi0] at c1
    have cm := Lib.hid c1
    have cc := Lib.hid (fun g0 W (hW : Below W0.heap.size W0 W) (hbr : BR g0 b.p.toNat (bsS b item.toNat) W) => closed_ref AR cR W0.heap.size g0 b.p.toNat b.p.toNat (bsS b item.toNat) b.rus W hW.size (hR.below hW (Nat.le_refl _)) hbr hs.2.1 hs.2.2.2 (fun x hx => by have := hv.rules x hx; rwa [Int.toNat_of_nonneg hp0]) (by omega) (bsS_lt hv hit))
    have cl := Lib.hid (fun g0 c0 x (hx : x < 2 ^ b.p.toNat) W (hbr : BR g0 b.p.toNat x W) => places_ref g0 c0 x b.p.toNat W hbr (by omega) hx)
    generalize bsS b item.toNat = m at *
    rw [h0] at cn
    have Hz := Lib.hid h0
    clear h h' hs hI hR hb0 hw0 hv hv0 h0 hi0 hi1 hit hcn hB c1
    have tok := Lib.hid (Nat.le_refl 0)
    go_enter Tryd.func29, Tryd.ntmps29
    go_wp2_with (have tk := tok; clear tok; go_at_call 69; rw [← hW0]; clear hW0; refine cn.out.mono ?_; rintro e w1 ⟨rfl, hd⟩; have hb2 := hd; clear hd; have tok2 := tk)
    go_region_held3 (fun W => W.cell? ⟨w.heap.size, 0, none⟩ = some (.int .i64 b.p) ∧ W.cell? ⟨w.heap.size, 1, none⟩ = some (.slice AI b.its.length cI) ∧ W.cell? ⟨w.heap.size, 2, none⟩ = some (.slice AR b.rus.length cR) ∧ Below W0.heap.size W0 W)
      ((refine keepB hlt ⟨HB.out.cell 0, HB.out.cell 1, HB.out.cell 2⟩ ?_; repeat (first | exact Below.refl _ _ | assumption | refine Below.drew ?_)))
      (first
        | (go_at_call 74; have tk := tok2; clear tok2; refine (cm.out _ (by repeat (first | exact Below.refl _ _ | assumption | refine Below.drew ?_))).mono ?_; rintro e w5 ⟨rfl, hbb5, hd5⟩; have tok3 := tk; have hb5 : Below W0.heap.size W0 w5 := Below.trans (by repeat (first | exact Below.refl _ _ | assumption | refine Below.drew ?_)) (hd5.mono (Below.size (w := W0) (B := W0.heap.size) (by repeat (first | exact Below.refl _ _ | assumption | refine Below.drew ?_)))))
        | (go_at_call 73; have tk := tok3; clear tok3; refine (cc.out _ _ (by repeat (first | exact Below.refl _ _ | assumption | refine Below.drew ?_)) (BR.below (B := w5.heap.size) hbb5.br (by repeat (first | exact Below.refl _ _ | assumption | refine Below.drew ?_)) hbb5.lt)).mono ?_; rintro e w6 ⟨g6, k6, x, rfl, hcl, hxl, hbb6, hg6, hd6⟩; have tok4 := tk; have hb6 : Below W0.heap.size W0 w6 := Below.trans (by repeat (first | exact Below.refl _ _ | assumption | refine Below.drew ?_)) (hd6.mono (Below.size (w := W0) (B := W0.heap.size) (by repeat (first | exact Below.refl _ _ | assumption | refine Below.drew ?_)))))
        | (go_at_call 70; have tk := tok4; clear tok4; refine (cl.out _ _ x hxl _ (BR.below (B := w6.heap.size) hbb6.br (by repeat (first | exact Below.refl _ _ | assumption | refine Below.drew ?_)) hbb6.lt)).mono ?_; rintro e w7 ⟨v, rfl, ho7, hd7⟩; have hb7 : Below W0.heap.size W0 w7 := Below.trans (by repeat (first | exact Below.refl _ _ | assumption | refine Below.drew ?_)) (hd7.mono (Below.size (w := W0) (B := W0.heap.size) (by repeat (first | exact Below.refl _ _ | assumption | refine Below.drew ?_)))); have ho8 := own_base ho7 (Below.size (w := W0) (B := W0.heap.size) (by repeat (first | exact Below.refl _ _ | assumption | refine Below.drew ?_))); clear ho7))
    all_goals
      have HB7 := Lib.hid (Hw.out.trans (hb7.mono Hw.out.size))
      have HR7 := Lib.hid (Hn.out _ _ _ hcl hxl (own_base ho8 (Nat.le_of_lt hlt)))
      clear hcl hxl hb6 hb7 ho8
      go_wp2_with fail
      go_ret2
      exact ⟨_, by rw [Hz.out]; rfl, HR7.out, HB7.out⟩
  · have Hn := Lib.hid (fun v W (hv : v = Value.slice none 0 0) => show LbR b item w.heap.size v W by rw [LbR, if_neg h0]; exact hv)
    have he2 : (nmR b item != 0) = true := by simpa using h0
    generalize nmR b item = e0 at cn he2 ⊢
    clear h h' hs hI hR hb0 hw0 hB h0
    go_enter Tryd.func29, Tryd.ntmps29
    go_wp2_with (go_at_call 69; rw [← hW0]; clear hW0; refine cn.out.mono ?_; rintro e w1 ⟨rfl, hd⟩; have hx1 := HB.out.below hd hlt; have z0 := hx1.cell 0; have z1 := hx1.cell 1; have z2 := hx1.cell 2)
    go_ret2
    exact ⟨_, rfl, Hn.out _ _ rfl, Hw.out.trans (hd.mono Hw.out.size)⟩

end Go.Proofs.YtgoojcjfhghmgaaDoor

/- Labels: the plain law. -/
namespace Go.Proofs.YtgoojcjfhghmgaaDoor
open Go.RowKit

theorem cnF_keep {b : Bk} (hv : VBk b) : ∀ (k m q : Nat), k ≤ b.its.length → k ≤ q → (cnF b k m).testBit q = m.testBit q
  | 0, m, q, _, _ => rfl
  | k + 1, m, q, hk, hq => by
    simp only [cnF]
    rw [cnF_keep hv k _ q (by omega) (by omega)]
    split
    · rw [Nat.testBit_or, mk_bit]
      cases hc : (prt b k).contains q with
      | false => simp
      | true =>
        have := prt_lt hv (show k < b.its.length by omega) q (List.contains_iff_mem.1 hc)
        omega
    · rfl
theorem cnF_sub (b : Bk) : ∀ (k m : Nat), Sub m (cnF b k m)
  | 0, m => fun q h => h
  | k + 1, m => fun q h => by
    simp only [cnF]
    refine cnF_sub b k _ q ?_
    split
    · rw [Nat.testBit_or, h]; rfl
    · exact h
theorem mk_sub {l : List Nat} {x : Nat} : (∀ q ∈ l, x.testBit q = true) → Sub (mk l) x := fun h q hq => by
  rw [mk_bit, List.contains_iff_mem] at hq
  exact h q hq
theorem cnF_shut {b : Bk} (hv : VBk b) : ∀ (k m i : Nat), k ≤ b.its.length → i < k → (cnF b k m).testBit i = true → ∀ x ∈ prt b i, (cnF b k m).testBit x = true
  | 0, m, i, _, hi, _, x, _ => absurd hi (Nat.not_lt_zero i)
  | k + 1, m, i, hk, hi, hb, x, hx => by
    simp only [cnF] at hb ⊢
    by_cases e : i = k
    · subst e
      rw [cnF_keep hv i _ i (by omega) (Nat.le_refl _)] at hb
      refine cnF_sub b i _ x ?_
      cases hm : m.testBit i with
      | true =>
        simp only [if_true]
        rw [Nat.testBit_or, mk_bit, List.contains_iff_mem.2 hx, Bool.or_true]
      | false =>
        rw [hm] at hb
        simp only [Bool.false_eq_true, if_false] at hb
        rw [hm] at hb; cases hb
    · exact cnF_shut hv k _ i (by omega) (by omega) hb x hx
theorem cnF_least {b : Bk} : ∀ (k m Z : Nat), Sub m Z → (∀ i, i < k → Z.testBit i = true → ∀ x ∈ prt b i, Z.testBit x = true) → Sub (cnF b k m) Z
  | 0, m, Z, h, _ => h
  | k + 1, m, Z, h, hz => by
    simp only [cnF]
    refine cnF_least k _ Z ?_ fun i hi => hz i (by omega)
    cases hm : m.testBit k with
    | true =>
      simp only [if_true]
      intro q hq
      rw [Nat.testBit_or, Bool.or_eq_true] at hq
      rcases hq with hq | hq
      · exact h q hq
      · exact mk_sub (hz k (by omega) (h k hm)) q hq
    | false => simpa using h
/-- What an item contains contains no more. -/
theorem cnS_sub {b : Bk} (hv : VBk b) {item i : Nat} (hi : item < b.its.length) (h : (cnS b item).testBit i = true) : Sub (cnS b i) (cnS b item) := by
  have hlt : i < item + 1 := by
    apply Classical.byContradiction
    intro hn
    rw [Nat.testBit_lt_two_pow (Nat.lt_of_lt_of_le (cnS_lt hv hi) (Nat.pow_le_pow_right (by decide) (by omega)))] at h
    cases h
  unfold cnS at h ⊢
  refine cnF_least (i + 1) _ _ (fun q hq => ?_) fun j hj hb => cnF_shut hv (item + 1) _ j (by omega) (by omega) hb
  rw [Nat.testBit_two_pow, decide_eq_true_eq] at hq
  subst hq; exact h
theorem bsF_bit (b : Bk) (q : Nat) : ∀ (l : List Nat) (m : Nat), (l.foldl (fun m i => m ||| mk (hasL b i)) m).testBit q = (m.testBit q || l.any fun i => (mk (hasL b i)).testBit q)
  | [], m => by simp
  | i :: l, m => by
    rw [List.foldl_cons, bsF_bit b q l, Nat.testBit_or, List.any_cons, Bool.or_assoc]
theorem bsS_sub {b : Bk} (hv : VBk b) {item i : Nat} (hi : item < b.its.length) (h : (cnS b item).testBit i = true) : Sub (bsS b i) (bsS b item) := by
  have hil : i < b.its.length := by
    apply Classical.byContradiction
    intro hn
    rw [Nat.testBit_lt_two_pow (Nat.lt_of_lt_of_le (cnS_lt hv hi) (Nat.pow_le_pow_right (by decide) (by omega)))] at h
    cases h
  have ni := hv.ni
  have e1 : cnS b item < 18446744073709551616 := Nat.lt_of_lt_of_le (cnS_lt hv hi) (Nat.le_trans (Nat.pow_le_pow_right (by decide) (show item + 1 ≤ 60 by omega)) (by decide))
  have e2 : cnS b i < 18446744073709551616 := Nat.lt_of_lt_of_le (cnS_lt hv hil) (Nat.le_trans (Nat.pow_le_pow_right (by decide) (show i + 1 ≤ 60 by omega)) (by decide))
  intro q hq
  unfold bsS at hq ⊢
  rw [bsF_bit, Nat.zero_testBit, Bool.false_or, List.any_eq_true] at hq ⊢
  obtain ⟨j, hj, hb⟩ := hq
  exact ⟨j, (mem_bl _ e1 j).2 (cnS_sub hv hi h j ((mem_bl _ e2 j).1 hj)), hb⟩
theorem Lbl.sub {b : Bk} (hv : VBk b) {item i x y : Nat} (hi : item < b.its.length) (h : (cnS b item).testBit i = true) (hx : Lbl b item x) (hy : Lbl b i y) : Sub y x :=
  hy.1.1.2 x (fun q hq => hx.1.1.1 q (bsS_sub hv hi h q hq)) hx.1.2

/-- The lists of Contains and Label. -/
def cnL (b : Bk) (item : Int) : List Int := if nmR b item = 0 then intL (bl (cnS b item.toNat)) else []
theorem CnR.ints {b : Bk} {item : Int} {base : Nat} {v : Value} {W : World} (h : CnR b item base v W) : ∃ A c, v = .slice A (cnL b item).length c ∧ IntsAt W.heap.size W A (cnL b item) ∧ (cnL b item).length ≤ 20 := by
  unfold CnR at h
  split at h
  · rename_i h0
    obtain ⟨h1, h2, h3⟩ := h
    obtain ⟨A, c, e, i⟩ := IntsAt.of_nat h3
    have := bl_length h1 (by omega)
    rw [cnL, if_pos h0]
    exact ⟨A, c, e, i, by simp [intL]; omega⟩
  · rename_i h0
    rw [cnL, if_neg h0]
    exact ⟨none, 0, h, IntsAt.nil _ _ _, by simp⟩
def LbL (b : Bk) (item : Int) (L : List Int) : Prop := if nmR b item = 0 then ∃ x : Nat, Lbl b item.toNat x ∧ L = intL (bl x) else L = []
theorem LbR.ints {b : Bk} {item : Int} {base : Nat} {v : Value} {W : World} (h : LbR b item base v W) : ∃ L A c, v = .slice A (List.length L) c ∧ IntsAt W.heap.size W A L ∧ LbL b item L ∧ L.length ≤ 10 := by
  unfold LbR at h
  split at h
  · rename_i h0
    obtain ⟨x, h1, h3⟩ := h
    obtain ⟨A, c, e, i⟩ := IntsAt.of_nat h3
    have := (vl_zero (nm_zero h0).1).p1
    have := bl_short h1.2 (by omega)
    exact ⟨_, A, c, e, i, by rw [LbL, if_pos h0]; exact ⟨x, h1, rfl⟩, by simpa [intL] using this⟩
  · rename_i h0
    exact ⟨[], none, 0, h, IntsAt.nil _ _ _, by rw [LbL, if_neg h0], by simp⟩
theorem LbL.unique {b : Bk} {item : Int} {L L' : List Int} (h : LbL b item L) (h' : LbL b item L') : L = L' := by
  unfold LbL at h h'
  split at h
  · obtain ⟨x, h1, rfl⟩ := h
    rename_i h0
    rw [if_pos h0] at h'
    obtain ⟨y, g1, rfl⟩ := h'
    rw [h1.1.unique g1.1]
  · rename_i h0
    rw [if_neg h0] at h'
    rw [h, h']
/-- Each thing that an item contains: its label is there, and lies in the item's. -/
theorem label_part {b : Bk} {item z : Int} {L : List Int} (hz : z ∈ cnL b item) (hL : LbL b item L) : nmR b z = 0 ∧ ∀ L', LbL b z L' → ∀ q ∈ L', L.contains q = true := by
  unfold cnL at hz
  split at hz
  · rename_i h0
    obtain ⟨hv0, hi0, hi1⟩ := nm_zero h0
    have hv := vl_zero hv0
    have hp1 := hv.p1
    have ni := hv.ni
    obtain ⟨i, hi, rfl⟩ := List.mem_map.1 hz
    have hlt := cnS_lt hv (item := item.toNat) (by omega)
    have e1 : cnS b item.toNat < 18446744073709551616 := Nat.lt_of_lt_of_le hlt (Nat.le_trans (Nat.pow_le_pow_right (by decide) (show item.toNat + 1 ≤ 60 by omega)) (by decide))
    have hbit := (mem_bl _ e1 i).1 hi
    have hil := bl_lt hlt (by omega) hi
    have hn : nmR b (i : Int) = 0 := by rw [nmR, if_pos hv0, if_neg (by omega)]
    refine ⟨hn, fun L' h' q hq => ?_⟩
    rw [LbL, if_pos h0] at hL
    rw [LbL, if_pos hn] at h'
    obtain ⟨x, hx, rfl⟩ := hL
    obtain ⟨y, hy, rfl⟩ := h'
    obtain ⟨t, ht, rfl⟩ := List.mem_map.1 hq
    rw [List.contains_iff_mem]
    refine List.mem_map.2 ⟨t, ?_, rfl⟩
    rw [mem_bl x (p64 hx.2 (by omega))]
    rw [mem_bl y (p64 hy.2 (by omega))] at ht
    exact Lbl.sub hv (by omega) hbit hx hy t ht
  · simp at hz
end Go.Proofs.YtgoojcjfhghmgaaDoor
