/- The reference's named, inside; Contains. -/
import Derived.Test.YtgoojcjfhghmgaaDoorDisEf
namespace Go.Proofs.YtgoojcjfhghmgaaDoor
open Go.RowKit

set_option maxRecDepth 100000 in
set_option maxHeartbeats 2000000 in
theorem named_ref (AI AR : Option Addr) (cI cR B : Nat) (b : Bk) (item : Int) (w : World) (hB : B ≤ w.heap.size) (h : ItsAt B w AI b.its) (h' : RusAt B w AR b.rus) (hs : Short b) :
    Calls Tryd.prog 69 #[.agg #[.int .i64 b.p, .slice AI b.its.length cI, .slice AR b.rus.length cR], .int .i64 item] w fun e w' => e = .returned (.int .i64 (nmR b item)) ∧ Below w.heap.size w w' := by
  have hb0 := Blk.new w 25 #[.int .i64 b.p, .slice AI b.its.length cI, .slice AR b.rus.length cR]
  have hw0 : Below w.heap.size w (w.alloc (.cells #[.int .i64 b.p, .slice AI b.its.length cI, .slice AR b.rus.length cR] 25)) := (Below.refl _ _).alloc (Nat.le_refl _) _
  have hlt : w.heap.size < (w.alloc (.cells #[.int .i64 b.p, .slice AI b.its.length cI, .slice AR b.rus.length cR] 25)).heap.size := hb0.lt
  have hI := (h.below (Below.refl _ _) hB).below hw0 (Nat.le_of_lt hlt)
  have hR := (h'.below (Below.refl _ _) hB).below hw0 (Nat.le_of_lt hlt)
  have cv := Lib.hid (Validate_ref AI AR cI cR _ b _ (Nat.le_refl _) hI hR hs)
  have Hn := Lib.hid (show nmR b item = if vlR b = 0 then (if item < 0 ∨ (b.its.length : Int) ≤ item then 5 else 0) else vlR b from rfl)
  have h60 := hs.1
  have HB := Lib.hid hb0
  have Hw := Lib.hid hw0
  generalize vlR b = e0 at cv Hn
  clear h h' hs hI hR hb0 hw0
  by_cases he : e0 = 0
  · subst he
    have Hn2 := Lib.hid (show nmR b item = if item < 0 ∨ (b.its.length : Int) ≤ item then 5 else 0 by rw [Hn.out, if_pos rfl])
    by_cases h1 : item < 0
    · have Hr := Lib.hid (show nmR b item = 5 by rw [Hn2.out, if_pos (.inl h1)])
      go_enter Tryd.func69, Tryd.ntmps69
      go_wp2_with (go_at_call 21; refine cv.out.mono ?_; rintro e w1 ⟨rfl, hd⟩; have hx1 := HB.out.below hd hlt; have z1 := hx1.cell 1)
      go_ret
      exact ⟨by rw [Hr.out]; rfl, Hw.out.trans (hd.mono Hw.out.size)⟩
    · have h1d : decide (item < 0) = false := by simpa using h1
      by_cases h2 : (b.its.length : Int) ≤ item
      · have Hr := Lib.hid (show nmR b item = 5 by rw [Hn2.out, if_pos (.inr h2)])
        have h2d : decide ((b.its.length : Int) ≤ item) = true := by simpa using h2
        go_enter Tryd.func69, Tryd.ntmps69
        go_wp2_with (go_at_call 21; refine cv.out.mono ?_; rintro e w1 ⟨rfl, hd⟩; have hx1 := HB.out.below hd hlt; have z1 := hx1.cell 1)
        go_ret
        exact ⟨by rw [Hr.out]; rfl, Hw.out.trans (hd.mono Hw.out.size)⟩
      · have Hr := Lib.hid (show nmR b item = 0 by rw [Hn2.out, if_neg (by omega)])
        have h2d : decide ((b.its.length : Int) ≤ item) = false := by simpa using h2
        go_enter Tryd.func69, Tryd.ntmps69
        go_wp2_with (go_at_call 21; refine cv.out.mono ?_; rintro e w1 ⟨rfl, hd⟩; have hx1 := HB.out.below hd hlt; have z1 := hx1.cell 1)
        go_ret
        exact ⟨by rw [Hr.out]; rfl, Hw.out.trans (hd.mono Hw.out.size)⟩
  · have Hr := Lib.hid (show nmR b item = e0 by rw [Hn.out, if_neg he])
    have he1 : (e0 == 0) = false := by simpa using he
    have he2 : (e0 != 0) = true := by simpa using he
    go_enter Tryd.func69, Tryd.ntmps69
    go_wp2_with (go_at_call 21; refine cv.out.mono ?_; rintro e w1 ⟨rfl, hd⟩; have hx1 := HB.out.below hd hlt; have z1 := hx1.cell 1)
    go_ret
    exact ⟨by rw [Hr.out]; rfl, Hw.out.trans (hd.mono Hw.out.size)⟩

theorem cnF_step {b : Bk} {i m c : Nat} (hc : cnF b (i + 1) m = c) : cnF b i (if m.testBit i then m ||| mk (prt b i) else m) = c := hc
theorem prt_at {b : Bk} (hv : VBk b) {i : Nat} (hil : i < b.its.length) {B : Nat} {w : World} {A1 : Option Addr} (i1 : IntsAt B w A1 b.its[i].1) : IntsAt B w A1 (intL (prt b i)) ∧ b.its[i].1.length = (prt b i).length ∧ (prt b i).length ≤ 6 ∧ ∀ x ∈ prt b i, x < i := by
  have hpr : prt b i = natL b.its[i].1 := by simp [prt, hil]
  have hin : intL (prt b i) = b.its[i].1 := by rw [hpr]; exact int_nat fun x hx => (isS_mem (hv.parts i hil).2.1 x hx).1
  have hlen : b.its[i].1.length = (prt b i).length := by rw [hpr, natL_length]
  exact ⟨by rw [hin]; exact i1, hlen, by rw [← hlen]; exact (hv.parts i hil).1, prt_lt hv hil⟩
theorem mkTo_zero (l : List Nat) : mkTo l 0 = 0 := by simp [mkTo]
theorem or_lt {m l n : Nat} (hm : m < 2 ^ n) (hl : l < 2 ^ n) : m ||| l < 2 ^ n := Nat.or_lt_two_pow hm hl

set_option maxRecDepth 100000 in
set_option maxHeartbeats 4000000 in
theorem inside_ref (AI AR : Option Addr) (cI cR B : Nat) (b : Bk) (item : Nat) (w : World) (hB : B ≤ w.heap.size) (h : ItsAt B w AI b.its) (hv : VBk b) (hi : item < b.its.length) :
    Calls Tryd.prog 71 #[.agg #[.int .i64 b.p, .slice AI b.its.length cI, .slice AR b.rus.length cR], .int .i64 item] w fun e w' => e = .returned (.slice (some ⟨w.heap.size + 1, 0, none⟩) b.its.length b.its.length) ∧ BB (w.heap.size + 1) b.its.length (cnS b item) w' ∧ Below w.heap.size w w' := by
  obtain ⟨W0, hW0⟩ : ∃ W0, W0 = w.alloc (.cells #[.int .i64 b.p, .slice AI b.its.length cI, .slice AR b.rus.length cR] 25) := ⟨_, rfl⟩
  have hw0 : Below w.heap.size w W0 := by rw [hW0]; exact balloc (Below.refl _ _) _
  have hb0 : Blk W0 w.heap.size 25 #[.int .i64 b.p, .slice AI b.its.length cI, .slice AR b.rus.length cR] := by rw [hW0]; exact Blk.new w 25 _
  have hsz : W0.heap.size = w.heap.size + 1 := by rw [hW0]; simp only [World.size_alloc]
  have ni := hv.ni
  obtain ⟨cs, hs, hz, mk0⟩ := make_bools b.its.length (by omega)
  have H := Lib.hid (h.below (Below.refl _ _) hB)
  have hbm : BB (w.heap.size + 1) b.its.length 0 (W0.alloc (.cells cs 4)) := by rw [← hsz]; exact BB.made W0 hs hz
  have HB0 := Lib.hid (show BB (w.heap.size + 1) b.its.length (2 ^ item) (W0.alloc (.cells (cs.setIfInBounds item (.bool true)) 4)) from ⟨_, by rw [← hsz]; exact Blk.new W0 4 _, by simp; omega, fun e he => by
    rw [Array.getElem?_setIfInBounds, Nat.testBit_two_pow]
    by_cases hed : item = e
    · subst hed
      rw [if_pos rfl, if_pos (by omega)]; simp
    · rw [if_neg hed, hz e he]
      simp [hed]⟩)
  have hz0 := hbm.cell hi
  have hz1 := hbm.frozen item
  have Hw := Lib.hid (hw0.alloc hw0.size (.cells (cs.setIfInBounds item (.bool true)) 4))
  have HK := Lib.hid (hb0.alloc (.cells (cs.setIfInBounds item (.bool true)) 4))
  have x1 := hb0.cell 1
  have Hcn := Lib.hid (show cnF b (item + 1) (2 ^ item) = cnS b item from rfl)
  have Hpow := Lib.hid (show 2 ^ item < 2 ^ b.its.length from Nat.pow_lt_pow_right (by decide) hi)
  have Hprt := Lib.hid (fun i (hil : i < b.its.length) A1 (i1 : IntsAt w.heap.size w A1 b.its[i].1) => prt_at hv hil i1)
  generalize cnS b item = C at Hcn ⊢
  clear h hw0 hb0 hbm hs hz hv hB hsz
  subst hW0
  go_enter Tryd.func71, Tryd.ntmps71
  go_wp2_with fail
  go_loopw [6] (fun s6 wr => ∃ k m : Nat, k ≤ item + 1 ∧ s6 = .int .i64 ((k : Int) - 1) ∧ m < 2 ^ b.its.length ∧ Aside (cnF b k m = C) ∧ Aside (BB (w.heap.size + 1) b.its.length m wr) ∧ Below w.heap.size w wr ∧ Aside (Blk wr w.heap.size 25 #[.int .i64 b.p, .slice AI b.its.length cI, .slice AR b.rus.length cR])) (fun s6 _ => (intOf s6 + 1).toNat)
  case atStart => exact ⟨item + 1, 2 ^ item, Nat.le_refl _, by go_num, Hpow.out, Hcn.out, HB0.out, Hw.out, HK.out⟩
  case round =>
    clear HB0 Hw HK hz0 hz1 x1
    obtain ⟨k, m, hk, rfl, hm, hc, hbb, hb, hblk⟩ := hrel
    cases k with
    | zero =>
      have HmC := Lib.hid (show m = C from hc.out)
      have HBB := Lib.hid hbb.out
      clear hc hbb hblk
      go_wp2_with fail
      go_ret
      exact ⟨rfl, by rw [← HmC.out]; exact HBB.out, hb⟩
    | succ i =>
      have e1 : ((i + 1 : Nat) : Int) - 1 = (i : Int) := by omega
      rw [e1]
      have hil : i < b.its.length := by omega
      have Hc := Lib.hid (cnF_step hc.out)
      obtain ⟨bb, off, A1, c1, A2, c2, rfl, hbB, e0, _, i1, _⟩ := H.out i hil
      obtain ⟨i1', hlen, h6, hpl⟩ := Hprt.out i hil A1 i1
      have HBB := Lib.hid hbb.out
      have HBK := Lib.hid hblk.out
      have Hb := Lib.hid hb
      have d0 := (hb.cell (p := ⟨bb, off + i * 2, none⟩) hbB).trans e0
      rw [hlen] at d0
      clear e1 hc hbb hblk hb e0 i1 hlen
      generalize prt b i = L at Hc i1' d0 h6 hpl
      have hi0 : (0 : Int) ≤ (i : Int) := by omega
      obtain ⟨W1, hW1⟩ : ∃ W1, W1 = wr := ⟨_, rfl⟩
      subst hW1
      go_wp2_with fail
      go_loopw [7] (fun s7 wy => ∃ j : Nat, j ≤ L.length ∧ s7 = .int .i64 j ∧ Aside (m.testBit i = false → j = 0) ∧ Aside (BB (w.heap.size + 1) b.its.length (m ||| mkTo L j) wy) ∧ Below w.heap.size w wy ∧ Aside (Blk wy w.heap.size 25 #[.int .i64 b.p, .slice (some ⟨bb, off, none⟩) b.its.length cI, .slice AR b.rus.length cR])) (fun s7 _ => L.length - (intOf s7).toNat)
      case atStart => exact ⟨0, Nat.zero_le _, rfl, fun _ => rfl, by rw [mkTo_zero, Nat.or_zero]; exact HBB.out, Hb.out, HBK.out⟩
      case round =>
        obtain ⟨j, hj, rfl, hz, hbb, hb, hblk⟩ := hrel
        have z1 := hblk.out.cell 1
        have d1 := (hb.cell (p := ⟨bb, off + i * 2, none⟩) hbB).trans ((Hb.out.cell (p := ⟨bb, off + i * 2, none⟩) hbB).symm.trans d0)
        have b0 := hbb.out.cell hil
        have HBy := Lib.hid hbb.out
        have HKy := Lib.hid hblk.out
        have Hby := Lib.hid hb
        have Hz := Lib.hid hz.out
        clear hz hbb hblk hb d0 Hb HBB HBK
        by_cases hjl : j < L.length
        · cases hbit : m.testBit i with
          | false =>
            have hj0 := Hz.out hbit
            subst hj0
            rw [mkTo_zero, Nat.or_zero, hbit] at b0
            rw [hbit] at Hc
            rw [mkTo_zero, Nat.or_zero] at HBy
            clear hbit Hz
            have jd : decide ((0 : Int) < (L.length : Int)) = true := by simp; omega
            go_wp2_with fail
            go_roundw
            case rel => exact ⟨i, m, by omega, by go_num, hm, (show cnF b i m = C by simpa using Hc.out), HBy.out, Hby.out, HKy.out⟩
            case measure => simp [intOf]
          | true =>
            rw [Nat.testBit_or, hbit, Bool.true_or] at b0
            obtain ⟨b3, o3, rfl, hb3, c3⟩ := i1'.at (k := j) (by simp [intL]; omega)
            have e3 : (intL L)[j]'(by simp [intL]; omega) = ((L[j] : Nat) : Int) := by simp [intL]
            rw [e3] at c3
            have c3' := (Hby.out.cell (p := ⟨b3, o3 + j, none⟩) hb3).trans c3
            have hq := hpl L[j] (List.getElem_mem hjl)
            have hqn : L[j] < b.its.length := by omega
            have y0 := HBy.out.cell hqn
            have y1 := HBy.out.frozen L[j]
            have Hs := Lib.hid (mkTo_succ hjl)
            have hjd : decide ((j : Int) < (L.length : Int)) = true := by simp; omega
            clear c3 e3
            generalize L[j] = q at c3' hq hqn y0 y1 Hs
            have HBp := Lib.hid (HBy.out.put q)
            rw [Nat.or_assoc] at HBp
            go_wp2_with fail
            go_roundw
            case rel => exact ⟨j + 1, by omega, by go_num, fun h => absurd h (by decide), by rw [Hs.out]; exact HBp.out, below_put Hby.out (Nat.le_succ _) _ _, HKy.out.far (show w.heap.size ≠ w.heap.size + 1 by omega) _⟩
            case measure => simp [intOf]; omega
        · obtain rfl : j = L.length := by omega
          have Ha := Lib.hid (mkTo_all L)
          have HmL := Lib.hid (mk_lt (l := L) (n := b.its.length) (fun x hx => by have := hpl x hx; omega))
          have hjd : decide ((L.length : Int) < (L.length : Int)) = false := by simp
          clear b0
          go_wp2_with fail
          go_roundw
          case rel =>
            refine ⟨i, if m.testBit i then m ||| mk L else m, by omega, by go_num, ?_, Hc.out, ?_, Hby.out, HKy.out⟩
            · split
              · exact or_lt hm HmL.out
              · exact hm
            · have hb9 : BB (w.heap.size + 1) b.its.length (m ||| mkTo L L.length) _ := HBy.out
              rw [Ha.out] at hb9
              cases hbit : m.testBit i with
              | true => exact (show BB (w.heap.size + 1) b.its.length (if true = true then m ||| mk L else m) _ by simpa using hb9)
              | false =>
                have h0 := Hz.out hbit
                have hl0 : mk L = 0 := by rw [← Ha.out, h0, mkTo_zero]
                rw [hl0, Nat.or_zero] at hb9
                exact (show BB (w.heap.size + 1) b.its.length (if false = true then m ||| mk L else m) _ by simpa using hb9)
          case measure => simp [intOf]
end Go.Proofs.YtgoojcjfhghmgaaDoor
