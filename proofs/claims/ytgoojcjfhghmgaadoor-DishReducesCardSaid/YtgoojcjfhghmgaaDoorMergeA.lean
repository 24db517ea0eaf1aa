/- bits of a number; the rules within a set. -/
import Derived.Test.YtgoojcjfhghmgaaDoorDisEf
import Derived.Test.YtgoojcjfhghmgaaDoorDisFa
import Derived.Deep.RegionWith
import Derived.Test.YtgoojcjfhghmgaaDoorDisFf
import Derived.Test.YtgoojcjfhghmgaaDoorDisEe
import Derived.Test.YtgoojcjfhghmgaaDoorDisEb

namespace Go.Proofs.YtgoojcjfhghmgaaDoor
open Go.RowKit

set_option maxRecDepth 100000 in
set_option maxHeartbeats 2000000 in
theorem named_ref (AI AR : Option Addr) (cI cR B : Nat) (b : Bk) (item : Int) (w : World) (hB : B ≤ w.heap.size) (h : ItsAt B w AI b.its) (h' : RusAt B w AR b.rus) (hs : Short b) :
    Calls Tryd.prog 69 #[.agg #[.int .i64 b.p, .slice AI b.its.length cI, .slice AR b.rus.length cR], .int .i64 item] w fun e w' => e = .returned (.int .i64 (nmR b item)) ∧ Below w.heap.size w w' := by
  have hb0 := Blk.new w 25 #[.int .i64 b.p, .slice AI b.its.length cI, .slice AR b.rus.length cR]
  have hw0 : Below w.heap.size w (w.alloc (.cells #[.int .i64 b.p, .slice AI b.its.length cI, .slice AR b.rus.length cR] 25)) := (Below.refl _ _).alloc (Nat.le_refl _) _
  have hlt : w.heap.size < (w.alloc (.cells #[.int .i64 b.p, .slice AI b.its.length cI, .slice AR b.rus.length cR] 25)).heap.size := hb0.lt
  have hI := (h.below (Below.refl _ _) hB).below hw0 (Nat.le_of_lt hlt)
  have hR := (h'.below (Below.refl _ _) hB).below hw0 (Nat.le_of_lt hlt)
  have cv := Lib.hid (Validate_ref AI AR cI cR _ b _ (Nat.le_refl _) hI hR hs)
  have Hn := Lib.hid (show nmR b item = if vlR b = 0 then (if item < 0 ∨ (b.its.length : Int) ≤ item then 5 else 0) else vlR b from rfl)
  have h60 := hs.1
  have HB := Lib.hid hb0
  have Hw := Lib.hid hw0
  generalize vlR b = e0 at cv Hn
  clear h h' hs hI hR hb0 hw0
  by_cases he : e0 = 0
  · subst he
    have Hn2 := Lib.hid (show nmR b item = if item < 0 ∨ (b.its.length : Int) ≤ item then 5 else 0 by rw [Hn.out, if_pos rfl])
    by_cases h1 : item < 0
    · have Hr := Lib.hid (show nmR b item = 5 by rw [Hn2.out, if_pos (.inl h1)])
      go_enter Tryd.func69, Tryd.ntmps69
      go_wp2_with (go_at_call 21; refine cv.out.mono ?_; rintro e w1 ⟨rfl, hd⟩; have hx1 := HB.out.below hd hlt; have z1 := hx1.cell 1)
      go_ret
      exact ⟨by rw [Hr.out]; rfl, Hw.out.trans (hd.mono Hw.out.size)⟩
    · have h1d : decide (item < 0) = false := by simpa using h1
      by_cases h2 : (b.its.length : Int) ≤ item
      · have Hr := Lib.hid (show nmR b item = 5 by rw [Hn2.out, if_pos (.inr h2)])
        have h2d : decide ((b.its.length : Int) ≤ item) = true := by simpa using h2
        go_enter Tryd.func69, Tryd.ntmps69
        go_wp2_with (go_at_call 21; refine cv.out.mono ?_; rintro e w1 ⟨rfl, hd⟩; have hx1 := HB.out.below hd hlt; have z1 := hx1.cell 1)
        go_ret
        exact ⟨by rw [Hr.out]; rfl, Hw.out.trans (hd.mono Hw.out.size)⟩
      · have Hr := Lib.hid (show nmR b item = 0 by rw [Hn2.out, if_neg (by omega)])
        have h2d : decide ((b.its.length : Int) ≤ item) = false := by simpa using h2
        go_enter Tryd.func69, Tryd.ntmps69
        go_wp2_with (go_at_call 21; refine cv.out.mono ?_; rintro e w1 ⟨rfl, hd⟩; have hx1 := HB.out.below hd hlt; have z1 := hx1.cell 1)
        go_ret
        exact ⟨by rw [Hr.out]; rfl, Hw.out.trans (hd.mono Hw.out.size)⟩
  · have Hr := Lib.hid (show nmR b item = e0 by rw [Hn.out, if_neg he])
    have he1 : (e0 == 0) = false := by simpa using he
    have he2 : (e0 != 0) = true := by simpa using he
    go_enter Tryd.func69, Tryd.ntmps69
    go_wp2_with (go_at_call 21; refine cv.out.mono ?_; rintro e w1 ⟨rfl, hd⟩; have hx1 := HB.out.below hd hlt; have z1 := hx1.cell 1)
    go_ret
    exact ⟨by rw [Hr.out]; rfl, Hw.out.trans (hd.mono Hw.out.size)⟩

theorem cnF_step {b : Bk} {i m c : Nat} (hc : cnF b (i + 1) m = c) : cnF b i (if m.testBit i then m ||| mk (prt b i) else m) = c := hc
theorem prt_at {b : Bk} (hv : VBk b) {i : Nat} (hil : i < b.its.length) {B : Nat} {w : World} {A1 : Option Addr} (i1 : IntsAt B w A1 b.its[i].1) : IntsAt B w A1 (intL (prt b i)) ∧ b.its[i].1.length = (prt b i).length ∧ (prt b i).length ≤ 6 ∧ ∀ x ∈ prt b i, x < i := by
  have hpr : prt b i = natL b.its[i].1 := by simp [prt, hil]
  have hin : intL (prt b i) = b.its[i].1 := by rw [hpr]; exact int_nat fun x hx => (isS_mem (hv.parts i hil).2.1 x hx).1
  have hlen : b.its[i].1.length = (prt b i).length := by rw [hpr, natL_length]
  exact ⟨by rw [hin]; exact i1, hlen, by rw [← hlen]; exact (hv.parts i hil).1, prt_lt hv hil⟩
theorem mkTo_zero (l : List Nat) : mkTo l 0 = 0 := by simp [mkTo]
theorem or_lt {m l n : Nat} (hm : m < 2 ^ n) (hl : l < 2 ^ n) : m ||| l < 2 ^ n := Nat.or_lt_two_pow hm hl

set_option maxRecDepth 100000 in
set_option maxHeartbeats 4000000 in
theorem inside_ref (AI AR : Option Addr) (cI cR B : Nat) (b : Bk) (item : Nat) (w : World) (hB : B ≤ w.heap.size) (h : ItsAt B w AI b.its) (hv : VBk b) (hi : item < b.its.length) :
    Calls Tryd.prog 71 #[.agg #[.int .i64 b.p, .slice AI b.its.length cI, .slice AR b.rus.length cR], .int .i64 item] w fun e w' => e = .returned (.slice (some ⟨w.heap.size + 1, 0, none⟩) b.its.length b.its.length) ∧ BB (w.heap.size + 1) b.its.length (cnS b item) w' ∧ Below w.heap.size w w' := by
  obtain ⟨W0, hW0⟩ : ∃ W0, W0 = w.alloc (.cells #[.int .i64 b.p, .slice AI b.its.length cI, .slice AR b.rus.length cR] 25) := ⟨_, rfl⟩
  have hw0 : Below w.heap.size w W0 := by rw [hW0]; exact balloc (Below.refl _ _) _
  have hb0 : Blk W0 w.heap.size 25 #[.int .i64 b.p, .slice AI b.its.length cI, .slice AR b.rus.length cR] := by rw [hW0]; exact Blk.new w 25 _
  have hsz : W0.heap.size = w.heap.size + 1 := by rw [hW0]; simp only [World.size_alloc]
  have ni := hv.ni
  obtain ⟨cs, hs, hz, mk0⟩ := make_bools b.its.length (by omega)
  have H := Lib.hid (h.below (Below.refl _ _) hB)
  have hbm : BB (w.heap.size + 1) b.its.length 0 (W0.alloc (.cells cs 4)) := by rw [← hsz]; exact BB.made W0 hs hz
  have HB0 := Lib.hid (show BB (w.heap.size + 1) b.its.length (2 ^ item) (W0.alloc (.cells (cs.setIfInBounds item (.bool true)) 4)) from ⟨_, by rw [← hsz]; exact Blk.new W0 4 _, by simp; omega, fun e he => by
    rw [Array.getElem?_setIfInBounds, Nat.testBit_two_pow]
    by_cases hed : item = e
    · subst hed
      rw [if_pos rfl, if_pos (by omega)]; simp
    · rw [if_neg hed, hz e he]
      simp [hed]⟩)
  have hz0 := hbm.cell hi
  have hz1 := hbm.frozen item
  have Hw := Lib.hid (hw0.alloc hw0.size (.cells (cs.setIfInBounds item (.bool true)) 4))
  have HK := Lib.hid (hb0.alloc (.cells (cs.setIfInBounds item (.bool true)) 4))
  have x1 := hb0.cell 1
  have Hcn := Lib.hid (show cnF b (item + 1) (2 ^ item) = cnS b item from rfl)
  have Hpow := Lib.hid (show 2 ^ item < 2 ^ b.its.length from Nat.pow_lt_pow_right (by decide) hi)
  have Hprt := Lib.hid (fun i (hil : i < b.its.length) A1 (i1 : IntsAt w.heap.size w A1 b.its[i].1) => prt_at hv hil i1)
  generalize cnS b item = C at Hcn ⊢
  clear h hw0 hb0 hbm hs hz hv hB hsz
  subst hW0
  go_enter Tryd.func71, Tryd.ntmps71
  go_wp2_with fail
  go_loopw [6] (fun s6 wr => ∃ k m : Nat, k ≤ item + 1 ∧ s6 = .int .i64 ((k : Int) - 1) ∧ m < 2 ^ b.its.length ∧ Aside (cnF b k m = C) ∧ Aside (BB (w.heap.size + 1) b.its.length m wr) ∧ Below w.heap.size w wr ∧ Aside (Blk wr w.heap.size 25 #[.int .i64 b.p, .slice AI b.its.length cI, .slice AR b.rus.length cR])) (fun s6 _ => (intOf s6 + 1).toNat)
  case atStart => exact ⟨item + 1, 2 ^ item, Nat.le_refl _, by go_num, Hpow.out, Hcn.out, HB0.out, Hw.out, HK.out⟩
  case round =>
    clear HB0 Hw HK hz0 hz1 x1
    obtain ⟨k, m, hk, rfl, hm, hc, hbb, hb, hblk⟩ := hrel
    cases k with
    | zero =>
      have HmC := Lib.hid (show m = C from hc.out)
      have HBB := Lib.hid hbb.out
      clear hc hbb hblk
      go_wp2_with fail
      go_ret
      exact ⟨rfl, by rw [← HmC.out]; exact HBB.out, hb⟩
    | succ i =>
      have e1 : ((i + 1 : Nat) : Int) - 1 = (i : Int) := by omega
      rw [e1]
      have hil : i < b.its.length := by omega
      have Hc := Lib.hid (cnF_step hc.out)
      obtain ⟨bb, off, A1, c1, A2, c2, rfl, hbB, e0, _, i1, _⟩ := H.out i hil
      obtain ⟨i1', hlen, h6, hpl⟩ := Hprt.out i hil A1 i1
      have HBB := Lib.hid hbb.out
      have HBK := Lib.hid hblk.out
      have Hb := Lib.hid hb
      have d0 := (hb.cell (p := ⟨bb, off + i * 2, none⟩) hbB).trans e0
      rw [hlen] at d0
      clear e1 hc hbb hblk hb e0 i1 hlen
      generalize prt b i = L at Hc i1' d0 h6 hpl
      have hi0 : (0 : Int) ≤ (i : Int) := by omega
      obtain ⟨W1, hW1⟩ : ∃ W1, W1 = wr := ⟨_, rfl⟩
      subst hW1
      go_wp2_with fail
      go_loopw [7] (fun s7 wy => ∃ j : Nat, j ≤ L.length ∧ s7 = .int .i64 j ∧ Aside (m.testBit i = false → j = 0) ∧ Aside (BB (w.heap.size + 1) b.its.length (m ||| mkTo L j) wy) ∧ Below w.heap.size w wy ∧ Aside (Blk wy w.heap.size 25 #[.int .i64 b.p, .slice (some ⟨bb, off, none⟩) b.its.length cI, .slice AR b.rus.length cR])) (fun s7 _ => L.length - (intOf s7).toNat)
      case atStart => exact ⟨0, Nat.zero_le _, rfl, fun _ => rfl, by rw [mkTo_zero, Nat.or_zero]; exact HBB.out, Hb.out, HBK.out⟩
      case round =>
        obtain ⟨j, hj, rfl, hz, hbb, hb, hblk⟩ := hrel
        have z1 := hblk.out.cell 1
        have d1 := (hb.cell (p := ⟨bb, off + i * 2, none⟩) hbB).trans ((Hb.out.cell (p := ⟨bb, off + i * 2, none⟩) hbB).symm.trans d0)
        have b0 := hbb.out.cell hil
        have HBy := Lib.hid hbb.out
        have HKy := Lib.hid hblk.out
        have Hby := Lib.hid hb
        have Hz := Lib.hid hz.out
        clear hz hbb hblk hb d0 Hb HBB HBK
        by_cases hjl : j < L.length
        · cases hbit : m.testBit i with
          | false =>
            have hj0 := Hz.out hbit
            subst hj0
            rw [mkTo_zero, Nat.or_zero, hbit] at b0
            rw [hbit] at Hc
            rw [mkTo_zero, Nat.or_zero] at HBy
            clear hbit Hz
            have jd : decide ((0 : Int) < (L.length : Int)) = true := by simp; omega
            go_wp2_with fail
            go_roundw
            case rel => exact ⟨i, m, by omega, by go_num, hm, (show cnF b i m = C by simpa using Hc.out), HBy.out, Hby.out, HKy.out⟩
            case measure => simp [intOf]
          | true =>
            rw [Nat.testBit_or, hbit, Bool.true_or] at b0
            obtain ⟨b3, o3, rfl, hb3, c3⟩ := i1'.at (k := j) (by simp [intL]; omega)
            have e3 : (intL L)[j]'(by simp [intL]; omega) = ((L[j] : Nat) : Int) := by simp [intL]
            rw [e3] at c3
            have c3' := (Hby.out.cell (p := ⟨b3, o3 + j, none⟩) hb3).trans c3
            have hq := hpl L[j] (List.getElem_mem hjl)
            have hqn : L[j] < b.its.length := by omega
            have y0 := HBy.out.cell hqn
            have y1 := HBy.out.frozen L[j]
            have Hs := Lib.hid (mkTo_succ hjl)
            have hjd : decide ((j : Int) < (L.length : Int)) = true := by simp; omega
            clear c3 e3
            generalize L[j] = q at c3' hq hqn y0 y1 Hs
            have HBp := Lib.hid (HBy.out.put q)
            rw [Nat.or_assoc] at HBp
            go_wp2_with fail
            go_roundw
            case rel => exact ⟨j + 1, by omega, by go_num, fun h => absurd h (by decide), by rw [Hs.out]; exact HBp.out, below_put Hby.out (Nat.le_succ _) _ _, HKy.out.far (show w.heap.size ≠ w.heap.size + 1 by omega) _⟩
            case measure => simp [intOf]; omega
        · obtain rfl : j = L.length := by omega
          have Ha := Lib.hid (mkTo_all L)
          have HmL := Lib.hid (mk_lt (l := L) (n := b.its.length) (fun x hx => by have := hpl x hx; omega))
          have hjd : decide ((L.length : Int) < (L.length : Int)) = false := by simp
          clear b0
          go_wp2_with fail
          go_roundw
          case rel =>
            refine ⟨i, if m.testBit i then m ||| mk L else m, by omega, by go_num, ?_, Hc.out, ?_, Hby.out, HKy.out⟩
            · split
              · exact or_lt hm HmL.out
              · exact hm
            · have hb9 : BB (w.heap.size + 1) b.its.length (m ||| mkTo L L.length) _ := HBy.out
              rw [Ha.out] at hb9
              cases hbit : m.testBit i with
              | true => exact (show BB (w.heap.size + 1) b.its.length (if true = true then m ||| mk L else m) _ by simpa using hb9)
              | false =>
                have h0 := Hz.out hbit
                have hl0 : mk L = 0 := by rw [← Ha.out, h0, mkTo_zero]
                rw [hl0, Nat.or_zero] at hb9
                exact (show BB (w.heap.size + 1) b.its.length (if false = true then m ||| mk L else m) _ by simpa using hb9)
          case measure => simp [intOf]
end Go.Proofs.YtgoojcjfhghmgaaDoor


namespace Go.Proofs.YtgoojcjfhghmgaaDoor
open Go.RowKit

def akR (b : Bk) (item prop : Int) : Int := if nmR b item = 0 then (if prop < 0 ∨ b.p ≤ prop then 5 else 0) else nmR b item
theorem ak_zero {b : Bk} {item prop : Int} (h : akR b item prop = 0) : nmR b item = 0 ∧ 0 ≤ prop ∧ prop < b.p := by
  unfold akR at h
  split at h
  · rename_i h0
    split at h
    · omega
    · rename_i h1
      exact ⟨h0, by omega, by omega⟩
  · rename_i h0
    exact absurd h h0
/-- A step: property, item, rule. -/
abbrev St := Int × Int × Int
def StAt (B : Nat) (w : World) (A : Option Addr) (l : List St) : Prop :=
  ∀ k (hk : k < l.length), ∃ b off, A = some ⟨b, off, none⟩ ∧ b < B ∧ w.cell? ⟨b, off + k * 3, none⟩ = some (.int .i64 l[k].1) ∧ w.cell? ⟨b, off + k * 3 + 1, none⟩ = some (.int .i64 l[k].2.1) ∧ w.cell? ⟨b, off + k * 3 + 2, none⟩ = some (.int .i64 l[k].2.2)
theorem StAt.below {B B' : Nat} {w w' : World} {A : Option Addr} {l : List St} (h : StAt B w A l) (hb : Below B w w') (hB : B ≤ B') : StAt B' w' A l := by
  intro k hk
  obtain ⟨b, off, e, h1, h2, h3, h4⟩ := h k hk
  exact ⟨b, off, e, by omega, (hb.cell (p := ⟨b, off + k * 3, none⟩) h1).trans h2, (hb.cell (p := ⟨b, off + k * 3 + 1, none⟩) h1).trans h3, (hb.cell (p := ⟨b, off + k * 3 + 2, none⟩) h1).trans h4⟩
/-- Whether a step is right, with the properties K. -/
def rgR (b : Bk) (item : Nat) (s : St) (K : Nat) : Bool :=
  if s.1 < 0 ∨ b.p ≤ s.1 then false
  else if s.2.2 = -1 then decide (0 ≤ s.2.1) && decide (s.2.1 < b.its.length) && (cnS b item).testBit s.2.1.toNat && ((b.its[s.2.1.toNat]?.getD ([], [])).2).contains s.1
  else decide (s.2.1 = -1) && decide (0 ≤ s.2.2) && decide (s.2.2 < b.rus.length) && decide ((b.rus[s.2.2.toNat]?.getD ([], 0)).2 = s.1) && allB K (natL (b.rus[s.2.2.toNat]?.getD ([], 0)).1)

set_option maxRecDepth 100000 in
set_option maxHeartbeats 2000000 in
theorem asked_any (AI AR : Option Addr) (cI cR B : Nat) (b : Bk) (item prop : Int) (w : World) (hB : B ≤ w.heap.size) (h : ItsAt B w AI b.its) (h' : RusAt B w AR b.rus) (hs : Short b) :
    Calls Tryd.prog 85 #[.agg #[.int .i64 b.p, .slice AI b.its.length cI, .slice AR b.rus.length cR], .int .i64 item, .int .i64 prop] w fun e w' => e = .returned (.int .i64 (akR b item prop)) ∧ Below w.heap.size w w' := by
  have hb0 := Blk.new w 25 #[.int .i64 b.p, .slice AI b.its.length cI, .slice AR b.rus.length cR]
  have hw0 : Below w.heap.size w (w.alloc (.cells #[.int .i64 b.p, .slice AI b.its.length cI, .slice AR b.rus.length cR] 25)) := (Below.refl _ _).alloc (Nat.le_refl _) _
  have hlt : w.heap.size < (w.alloc (.cells #[.int .i64 b.p, .slice AI b.its.length cI, .slice AR b.rus.length cR] 25)).heap.size := hb0.lt
  have hI := (h.below (Below.refl _ _) hB).below hw0 (Nat.le_of_lt hlt)
  have hR := (h'.below (Below.refl _ _) hB).below hw0 (Nat.le_of_lt hlt)
  have cv := Lib.hid (named_any AI AR cI cR _ b item _ (Nat.le_refl _) hI hR hs)
  have Hn := Lib.hid (show akR b item prop = if nmR b item = 0 then (if prop < 0 ∨ b.p ≤ prop then 5 else 0) else nmR b item from rfl)
  have HB := Lib.hid hb0
  have Hw := Lib.hid hw0
  generalize nmR b item = e0 at cv Hn
  clear h h' hs hI hR hb0 hw0
  by_cases he : e0 = 0
  · subst he
    have Hn2 := Lib.hid (show akR b item prop = if prop < 0 ∨ b.p ≤ prop then 5 else 0 by rw [Hn.out, if_pos rfl])
    by_cases h1 : prop < 0
    · have Hr := Lib.hid (show akR b item prop = 5 by rw [Hn2.out, if_pos (.inl h1)])
      go_enter Tryd.func85, Tryd.ntmps85
      go_wp2_with (go_at_call 67; refine cv.out.mono ?_; rintro e w1 ⟨rfl, hd⟩; have hx1 := HB.out.below hd hlt; have z1 := hx1.cell 0)
      go_ret
      exact ⟨by rw [Hr.out]; rfl, Hw.out.trans (hd.mono Hw.out.size)⟩
    · have h1d : decide (prop < 0) = false := by simpa using h1
      by_cases h2 : b.p ≤ prop
      · have Hr := Lib.hid (show akR b item prop = 5 by rw [Hn2.out, if_pos (.inr h2)])
        have h2d : decide (b.p ≤ prop) = true := by simpa using h2
        go_enter Tryd.func85, Tryd.ntmps85
        go_wp2_with (go_at_call 67; refine cv.out.mono ?_; rintro e w1 ⟨rfl, hd⟩; have hx1 := HB.out.below hd hlt; have z1 := hx1.cell 0)
        go_ret
        exact ⟨by rw [Hr.out]; rfl, Hw.out.trans (hd.mono Hw.out.size)⟩
      · have Hr := Lib.hid (show akR b item prop = 0 by rw [Hn2.out, if_neg (by omega)])
        have h2d : decide (b.p ≤ prop) = false := by simpa using h2
        go_enter Tryd.func85, Tryd.ntmps85
        go_wp2_with (go_at_call 67; refine cv.out.mono ?_; rintro e w1 ⟨rfl, hd⟩; have hx1 := HB.out.below hd hlt; have z1 := hx1.cell 0)
        go_ret
        exact ⟨by rw [Hr.out]; rfl, Hw.out.trans (hd.mono Hw.out.size)⟩
  · have Hr := Lib.hid (show akR b item prop = e0 by rw [Hn.out, if_neg he])
    have he1 : (e0 == 0) = false := by simpa using he
    have he2 : (e0 != 0) = true := by simpa using he
    go_enter Tryd.func85, Tryd.ntmps85
    go_wp2_with (go_at_call 67; refine cv.out.mono ?_; rintro e w1 ⟨rfl, hd⟩; have hx1 := HB.out.below hd hlt; have z1 := hx1.cell 0)
    go_ret
    exact ⟨by rw [Hr.out]; rfl, Hw.out.trans (hd.mono Hw.out.size)⟩


set_option maxRecDepth 100000 in
set_option maxHeartbeats 2000000 in
theorem asked_ref (AI AR : Option Addr) (cI cR B : Nat) (b : Bk) (item prop : Int) (w : World) (hB : B ≤ w.heap.size) (h : ItsAt B w AI b.its) (h' : RusAt B w AR b.rus) (hs : Short b) :
    Calls Tryd.prog 87 #[.agg #[.int .i64 b.p, .slice AI b.its.length cI, .slice AR b.rus.length cR], .int .i64 item, .int .i64 prop] w fun e w' => e = .returned (.int .i64 (akR b item prop)) ∧ Below w.heap.size w w' := by
  have hb0 := Blk.new w 25 #[.int .i64 b.p, .slice AI b.its.length cI, .slice AR b.rus.length cR]
  have hw0 : Below w.heap.size w (w.alloc (.cells #[.int .i64 b.p, .slice AI b.its.length cI, .slice AR b.rus.length cR] 25)) := (Below.refl _ _).alloc (Nat.le_refl _) _
  have hlt : w.heap.size < (w.alloc (.cells #[.int .i64 b.p, .slice AI b.its.length cI, .slice AR b.rus.length cR] 25)).heap.size := hb0.lt
  have hI := (h.below (Below.refl _ _) hB).below hw0 (Nat.le_of_lt hlt)
  have hR := (h'.below (Below.refl _ _) hB).below hw0 (Nat.le_of_lt hlt)
  have cv := Lib.hid (named_ref AI AR cI cR _ b item _ (Nat.le_refl _) hI hR hs)
  have Hn := Lib.hid (show akR b item prop = if nmR b item = 0 then (if prop < 0 ∨ b.p ≤ prop then 5 else 0) else nmR b item from rfl)
  have HB := Lib.hid hb0
  have Hw := Lib.hid hw0
  generalize nmR b item = e0 at cv Hn
  clear h h' hs hI hR hb0 hw0
  by_cases he : e0 = 0
  · subst he
    have Hn2 := Lib.hid (show akR b item prop = if prop < 0 ∨ b.p ≤ prop then 5 else 0 by rw [Hn.out, if_pos rfl])
    by_cases h1 : prop < 0
    · have Hr := Lib.hid (show akR b item prop = 5 by rw [Hn2.out, if_pos (.inl h1)])
      go_enter Tryd.func87, Tryd.ntmps87
      go_wp2_with (go_at_call 69; refine cv.out.mono ?_; rintro e w1 ⟨rfl, hd⟩; have hx1 := HB.out.below hd hlt; have z1 := hx1.cell 0)
      go_ret
      exact ⟨by rw [Hr.out]; rfl, Hw.out.trans (hd.mono Hw.out.size)⟩
    · have h1d : decide (prop < 0) = false := by simpa using h1
      by_cases h2 : b.p ≤ prop
      · have Hr := Lib.hid (show akR b item prop = 5 by rw [Hn2.out, if_pos (.inr h2)])
        have h2d : decide (b.p ≤ prop) = true := by simpa using h2
        go_enter Tryd.func87, Tryd.ntmps87
        go_wp2_with (go_at_call 69; refine cv.out.mono ?_; rintro e w1 ⟨rfl, hd⟩; have hx1 := HB.out.below hd hlt; have z1 := hx1.cell 0)
        go_ret
        exact ⟨by rw [Hr.out]; rfl, Hw.out.trans (hd.mono Hw.out.size)⟩
      · have Hr := Lib.hid (show akR b item prop = 0 by rw [Hn2.out, if_neg (by omega)])
        have h2d : decide (b.p ≤ prop) = false := by simpa using h2
        go_enter Tryd.func87, Tryd.ntmps87
        go_wp2_with (go_at_call 69; refine cv.out.mono ?_; rintro e w1 ⟨rfl, hd⟩; have hx1 := HB.out.below hd hlt; have z1 := hx1.cell 0)
        go_ret
        exact ⟨by rw [Hr.out]; rfl, Hw.out.trans (hd.mono Hw.out.size)⟩
  · have Hr := Lib.hid (show akR b item prop = e0 by rw [Hn.out, if_neg he])
    have he1 : (e0 == 0) = false := by simpa using he
    have he2 : (e0 != 0) = true := by simpa using he
    go_enter Tryd.func87, Tryd.ntmps87
    go_wp2_with (go_at_call 69; refine cv.out.mono ?_; rintro e w1 ⟨rfl, hd⟩; have hx1 := HB.out.below hd hlt; have z1 := hx1.cell 0)
    go_ret
    exact ⟨by rw [Hr.out]; rfl, Hw.out.trans (hd.mono Hw.out.size)⟩

end Go.Proofs.YtgoojcjfhghmgaaDoor


namespace Go.Proofs.YtgoojcjfhghmgaaDoor
open Go.RowKit

def bsN (b : Bk) (C k : Nat) : Nat := (List.range k).foldl (fun m i => if C.testBit i then m ||| mk (hasL b i) else m) 0
theorem bsN_succ (b : Bk) (C k : Nat) : bsN b C (k + 1) = if C.testBit k then bsN b C k ||| mk (hasL b k) else bsN b C k := by
  unfold bsN
  rw [List.range_succ, List.foldl_append]; rfl
theorem bsN_all {b : Bk} (hv : VBk b) {item : Nat} (hi : item < b.its.length) : bsN b (cnS b item) b.its.length = bsS b item := by
  have hC : cnS b item < 2 ^ b.its.length := Nat.lt_of_lt_of_le (cnS_lt hv hi) (Nat.pow_le_pow_right (by decide) hi)
  unfold bsN bsS
  rw [bl_filter hC (by have := hv.ni; omega), List.foldl_filter]
theorem bsN_lt {b : Bk} (hv : VBk b) (C : Nat) : ∀ k, k ≤ b.its.length → bsN b C k < 2 ^ b.p.toNat
  | 0, _ => by simp [bsN]; exact Nat.two_pow_pos _
  | k + 1, hk => by
    have ih := bsN_lt hv C k (by omega)
    rw [bsN_succ]
    split
    · exact or_lt ih (mk_lt (hasL_lt hv (by omega)))
    · exact ih
theorem BB.far {g n x : Nat} {W : World} (h : BB g n x W) {p : Addr} (hp : g ≠ p.block) (u : Value) : BB g n x (W.setCell p u) := by
  obtain ⟨cs, h1, h2, h3⟩ := h
  exact ⟨cs, h1.far hp u, h2, h3⟩
theorem has_at {b : Bk} (hv : VBk b) {i : Nat} (hil : i < b.its.length) {B : Nat} {w : World} {A2 : Option Addr} (i2 : IntsAt B w A2 b.its[i].2) : IntsAt B w A2 (intL (hasL b i)) ∧ b.its[i].2.length = (hasL b i).length ∧ ∀ x ∈ hasL b i, x < b.p.toNat := by
  have hpr : hasL b i = natL b.its[i].2 := by simp [hasL, hil]
  have hin : intL (hasL b i) = b.its[i].2 := by rw [hpr]; exact int_nat fun x hx => (isS_mem (hv.parts i hil).2.2 x hx).1
  have hlen : b.its[i].2.length = (hasL b i).length := by rw [hpr, natL_length]
  exact ⟨by rw [hin]; exact i2, hlen, hasL_lt hv hil⟩

set_option maxRecDepth 100000 in
set_option maxHeartbeats 4000000 in
theorem base_ref (AI AR : Option Addr) (cI cR B : Nat) (b : Bk) (item : Nat) (w : World) (hB : B ≤ w.heap.size) (h : ItsAt B w AI b.its) (hs : Short b) (hv : VBk b) (hi : item < b.its.length) :
    Calls Tryd.prog 74 #[.agg #[.int .i64 b.p, .slice AI b.its.length cI, .slice AR b.rus.length cR], .int .i64 item] w fun e w' => e = .returned (.slice (some ⟨w.heap.size + 1, 0, none⟩) b.p.toNat b.p.toNat) ∧ BB (w.heap.size + 1) b.p.toNat (bsS b item) w' ∧ Below w.heap.size w w' := by
  obtain ⟨W0, hW0⟩ : ∃ W0, W0 = w.alloc (.cells #[.int .i64 b.p, .slice AI b.its.length cI, .slice AR b.rus.length cR] 25) := ⟨_, rfl⟩
  have hw0 : Below w.heap.size w W0 := by rw [hW0]; exact balloc (Below.refl _ _) _
  have hb0 : Blk W0 w.heap.size 25 #[.int .i64 b.p, .slice AI b.its.length cI, .slice AR b.rus.length cR] := by rw [hW0]; exact Blk.new w 25 _
  have hsz : W0.heap.size = w.heap.size + 1 := by rw [hW0]; simp only [World.size_alloc]
  have ni := hv.ni
  have hp1 := hv.p1
  have hp0 := hv.p0
  obtain ⟨cs, hs1, hz, mk0⟩ := make_bools b.p.toNat (by omega)
  rw [Int.toNat_of_nonneg hp0] at mk0
  have H := Lib.hid (h.below (Below.refl _ _) hB)
  have hbm : BB (w.heap.size + 1) b.p.toNat 0 (W0.alloc (.cells cs 4)) := by rw [← hsz]; exact BB.made W0 hs1 hz
  have HB0 := Lib.hid hbm
  have hw1 := hw0.alloc hw0.size (.cells cs 4)
  have Hw := Lib.hid hw1
  have hk1 := hb0.alloc (.cells cs 4)
  have HK := Lib.hid hk1
  have x0 := hb0.cell 0
  obtain ⟨z0, z1, z2, _⟩ := blk3 hk1
  have hg1 : (W0.alloc (.cells cs 4)).heap.size = w.heap.size + 1 + 1 := by simp only [World.size_alloc, hsz]
  have cin0 := inside_ref AI AR cI cR _ b item (W0.alloc (.cells cs 4)) (Nat.le_refl _) ((h.below (Below.refl _ _) hB).below hw1 hw1.size) hv hi
  rw [hg1] at cin0
  have cin := Lib.hid cin0
  clear cin0
  have Hall := Lib.hid (bsN_all hv hi)
  have Hlt := Lib.hid (bsN_lt hv (cnS b item))
  have Hsu := Lib.hid (bsN_succ b (cnS b item))
  have Hh := Lib.hid (fun i (hil : i < b.its.length) A2 (i2 : IntsAt w.heap.size w A2 b.its[i].2) => has_at hv hil i2)
  have Hl := Lib.hid hs.2.2.1
  have H0 := Lib.hid (show bsN b (cnS b item) 0 = 0 from rfl)
  generalize bsS b item = S at Hall ⊢
  generalize bsN b (cnS b item) = N at Hall Hlt Hsu H0
  generalize cnS b item = C at cin Hsu
  clear h hw0 hb0 hbm hs1 hz hv hB hsz hw1 hk1 hs hi
  subst hW0
  go_enter Tryd.func74, Tryd.ntmps74
  go_wp2_with (go_at_call 71; refine cin.out.mono ?_; rintro e w1 ⟨rfl, hbin, hd1⟩)
  have HI := Lib.hid hbin
  have HBo := Lib.hid (HB0.out.below hd1 (Nat.lt_succ_self _))
  have HKo := Lib.hid (HK.out.below hd1 (Nat.lt_succ_of_lt (Nat.lt_succ_self _)))
  have Hbo := Lib.hid (Hw.out.trans (hd1.mono (show w.heap.size ≤ w.heap.size + 1 + 1 by omega)))
  clear hbin hd1 HB0 HK Hw x0 z0 z1 z2 hg1
  go_loopw [7] (fun s7 wr => ∃ i : Nat, i ≤ b.its.length ∧ s7 = .int .i64 i ∧ Aside (BB (w.heap.size + 1) b.p.toNat (N i) wr) ∧ Aside (BB (w.heap.size + 1 + 1 + 1) b.its.length C wr) ∧ Below w.heap.size w wr ∧ Aside (Blk wr w.heap.size 25 #[.int .i64 b.p, .slice AI b.its.length cI, .slice AR b.rus.length cR])) (fun s7 _ => b.its.length - (intOf s7).toNat)
  case atStart => exact ⟨0, Nat.zero_le _, rfl, by rw [H0.out]; exact HBo.out, HI.out, Hbo.out, HKo.out⟩
  case round =>
    clear HI HBo HKo Hbo
    obtain ⟨i, hik, rfl, hbb, hbi, hb, hblk⟩ := hrel
    by_cases hil : i < b.its.length
    · obtain ⟨bb, off, A1, c1, A2, c2, rfl, hbB, _, e1, _, i2⟩ := H.out i hil
      obtain ⟨i2', hlen, hpl⟩ := Hh.out i hil A2 i2
      have hl40 := (Hl.out b.its[i] (List.getElem_mem hil)).2
      have HBB := Lib.hid hbb.out
      have HBI := Lib.hid hbi.out
      have HBK := Lib.hid hblk.out
      have Hb := Lib.hid hb
      have Hs := Lib.hid (Hsu.out i)
      have Hli := Lib.hid (Hlt.out i (by omega))
      rw [hlen] at e1 hl40
      clear hbb hbi hblk hb i2 hlen
      generalize hasL b i = L at i2' e1 hpl Hs hl40
      generalize N i = m at HBB Hs Hli
      obtain ⟨W1, hW1⟩ : ∃ W1, W1 = wr := ⟨_, rfl⟩
      subst hW1
      go_wp2_with fail
      go_loopw [8] (fun s8 wy => ∃ j : Nat, j ≤ L.length ∧ s8 = .int .i64 j ∧ Aside (C.testBit i = false → j = 0) ∧ Aside (BB (w.heap.size + 1) b.p.toNat (m ||| mkTo L j) wy) ∧ Aside (BB (w.heap.size + 1 + 1 + 1) b.its.length C wy) ∧ Below w.heap.size w wy ∧ Aside (Blk wy w.heap.size 25 #[.int .i64 b.p, .slice (some ⟨bb, off, none⟩) b.its.length cI, .slice AR b.rus.length cR])) (fun s8 _ => L.length - (intOf s8).toNat)
      case atStart => exact ⟨0, Nat.zero_le _, rfl, fun _ => rfl, by rw [mkTo_zero, Nat.or_zero]; exact HBB.out, HBI.out, Hb.out, HBK.out⟩
      case round =>
        obtain ⟨j, hj, rfl, hz, hbb, hbi, hb, hblk⟩ := hrel
        have z1 := hblk.out.cell 1
        have d1 := (hb.cell (p := ⟨bb, off + i * 2 + 1, none⟩) hbB).trans e1
        have b0 := hbi.out.cell hil
        have HBy := Lib.hid hbb.out
        have HIy := Lib.hid hbi.out
        have HKy := Lib.hid hblk.out
        have Hby := Lib.hid hb
        have Hz := Lib.hid hz.out
        clear hz hbb hbi hblk hb Hb HBB HBI HBK
        by_cases hjl : j < L.length
        · cases hbit : C.testBit i with
          | false =>
            have hj0 := Hz.out hbit
            subst hj0
            rw [hbit] at b0 Hs
            rw [mkTo_zero, Nat.or_zero] at HBy
            clear hbit Hz
            have jd : decide ((0 : Int) < (L.length : Int)) = true := by simp; omega
            go_wp2_with fail
            go_roundw
            case rel => exact ⟨i + 1, by omega, by go_num, by rw [Hs.out]; exact HBy.out, HIy.out, Hby.out, HKy.out⟩
            case measure => simp [intOf]; omega
          | true =>
            rw [hbit] at b0
            obtain ⟨b3, o3, rfl, hb3, c3⟩ := i2'.at (k := j) (by simp [intL]; omega)
            have e3 : (intL L)[j]'(by simp [intL]; omega) = ((L[j] : Nat) : Int) := by simp [intL]
            rw [e3] at c3
            have c3' := (Hby.out.cell (p := ⟨b3, o3 + j, none⟩) hb3).trans c3
            have hq := hpl L[j] (List.getElem_mem hjl)
            have hqm : ((L[j] : Nat) : Int) < max b.p 0 := by omega
            have y0 := HBy.out.cell hq
            have y1 := HBy.out.frozen L[j]
            have Hs2 := Lib.hid (mkTo_succ hjl)
            have hjd : decide ((j : Int) < (L.length : Int)) = true := by simp; omega
            clear c3 e3
            generalize L[j] = q at c3' hq hqm y0 y1 Hs2
            have HBp := Lib.hid (HBy.out.put q)
            rw [Nat.or_assoc] at HBp
            go_wp2_with fail
            go_roundw
            case rel => exact ⟨j + 1, by omega, by go_num, fun h => absurd h (by decide), by rw [Hs2.out]; exact HBp.out, HIy.out.far (show w.heap.size + 1 + 1 + 1 ≠ w.heap.size + 1 by omega) _, below_put Hby.out (Nat.le_succ _) _ _, HKy.out.far (show w.heap.size ≠ w.heap.size + 1 by omega) _⟩
            case measure => simp [intOf]; omega
        · obtain rfl : j = L.length := by omega
          have Ha := Lib.hid (mkTo_all L)
          have hjd : decide ((L.length : Int) < (L.length : Int)) = false := by simp
          clear b0
          go_wp2_with fail
          go_roundw
          case rel =>
            refine ⟨i + 1, by omega, by go_num, ?_, HIy.out, Hby.out, HKy.out⟩
            have hb9 : BB (w.heap.size + 1) b.p.toNat (m ||| mkTo L L.length) _ := HBy.out
            rw [Ha.out] at hb9
            rw [Hs.out]
            cases hbit : C.testBit i with
            | true => exact (show BB (w.heap.size + 1) b.p.toNat (if true = true then m ||| mk L else m) _ by simpa using hb9)
            | false =>
              have h0 := Hz.out hbit
              have hl0 : mk L = 0 := by rw [← Ha.out, h0, mkTo_zero]
              rw [hl0, Nat.or_zero] at hb9
              exact (show BB (w.heap.size + 1) b.p.toNat (if false = true then m ||| mk L else m) _ by simpa using hb9)
          case measure => simp [intOf]; omega
    · obtain rfl : i = b.its.length := by omega
      have HBB := Lib.hid hbb.out
      rw [Hall.out] at HBB
      clear hbb hbi hblk
      go_wp2_with fail
      go_ret
      exact ⟨by rfl, HBB.out, hb⟩
end Go.Proofs.YtgoojcjfhghmgaaDoor


namespace Go.Proofs.YtgoojcjfhghmgaaDoor
open Go.RowKit

/-- What Contains returns. -/
def CnR (b : Bk) (item : Int) (base : Nat) (v : Value) (w : World) : Prop :=
  if nmR b item = 0 then cnS b item.toNat < 2 ^ b.its.length ∧ b.its.length ≤ 20 ∧ w.ownsRow base 3 1 v (bl (cnS b item.toNat)).length (natV (bl (cnS b item.toNat))) else v = .slice none 0 0

set_option maxRecDepth 100000 in
set_option maxHeartbeats 4000000 in
theorem Contains_any (AI AR : Option Addr) (cI cR B : Nat) (b : Bk) (item : Int) (w : World) (hB : B ≤ w.heap.size) (h : ItsAt B w AI b.its) (h' : RusAt B w AR b.rus) (hs : Short b) (hT : Tab w) :
    Calls Tryd.prog 26 #[.agg #[.int .i64 b.p, .slice AI b.its.length cI, .slice AR b.rus.length cR], .int .i64 item] w fun e w' => ∃ v, e = .returned (.tuple #[v, .int .i64 (nmR b item)]) ∧ CnR b item w.heap.size v w' ∧ Below w.heap.size w w' := by
  have hb0 := Blk.new w 25 #[.int .i64 b.p, .slice AI b.its.length cI, .slice AR b.rus.length cR]
  have hw0 : Below w.heap.size w (w.alloc (.cells #[.int .i64 b.p, .slice AI b.its.length cI, .slice AR b.rus.length cR] 25)) := (Below.refl _ _).alloc (Nat.le_refl _) _
  obtain ⟨W0, hW0⟩ : ∃ W0, W0 = w.alloc (.cells #[.int .i64 b.p, .slice AI b.its.length cI, .slice AR b.rus.length cR] 25) := ⟨_, rfl⟩
  rw [← hW0] at hb0 hw0
  have hlt : w.heap.size < W0.heap.size := hb0.lt
  have hI := (h.below (Below.refl _ _) hB).below hw0 (Nat.le_of_lt hlt)
  have hR := (h'.below (Below.refl _ _) hB).below hw0 (Nat.le_of_lt hlt)
  have cn := Lib.hid (named_any AI AR cI cR _ b item W0 (Nat.le_refl _) hI hR hs)
  have HB := Lib.hid hb0
  have Hw := Lib.hid hw0
  by_cases h0 : nmR b item = 0
  · obtain ⟨hv0, hi0, hi1⟩ := nm_zero h0
    have hv := vl_zero hv0
    have hp1 := hv.p1
    have hp0 := hv.p0
    have ni := hv.ni
    have hit : item.toNat < b.its.length := by omega
    have hcn := Nat.lt_of_lt_of_le (cnS_lt hv hit) (Nat.pow_le_pow_right (show 0 < 2 by decide) hit)
    have Hn := Lib.hid (fun v W (h3 : W.ownsRow w.heap.size 3 1 v (bl (cnS b item.toNat)).length (natV (bl (cnS b item.toNat)))) => show CnR b item w.heap.size v W by rw [CnR, if_pos h0]; exact ⟨hcn, ni, h3⟩)
    have hT0 := hT.below hw0 hT.2
    have hC60 : cnS b item.toNat < 1152921504606846976 := Nat.lt_of_lt_of_le hcn (Nat.le_trans (Nat.pow_le_pow_right (by decide) (show b.its.length ≤ 60 by omega)) (by decide))
    have hC20 : (bl (cnS b item.toNat)).length ≤ 1000 := by have := bl_length hcn (by omega); omega
    have c1 := fun W (hW : Below W0.heap.size W0 W) => contained_any AI AR cI cR W0.heap.size b item.toNat W hW.size (hI.below hW (Nat.le_refl _)) hv hit
    rw [Int.toNat_of_nonneg hi0] at c1
    have cc := Lib.hid c1
    have cl := Lib.hid (fun W (hW : Below W0.heap.size W0 W) => list_any (cnS b item.toNat) hC60 W (hT0.below hW hT0.2) hC20)
    generalize cnS b item.toNat = C at *
    rw [h0] at cn
    have Hz := Lib.hid h0
    clear h h' hs hI hR hb0 hw0 hv hv0 h0 hi0 hi1 hit hcn hB hT hT0 hC60 hC20 c1
    have tok := Lib.hid (Nat.le_refl 0)
    go_enter Tryd.func26, Tryd.ntmps26
    go_wp2_with (first
      | (have tk := tok; clear tok; go_at_call 67; rw [← hW0]; clear hW0; refine cn.out.mono ?_; rintro e w1 ⟨rfl, hd⟩; have hd1 := hd; have tok2 := tk; have hx1 := HB.out.below hd1 hlt; have z0 := hx1.cell 0; have z1 := hx1.cell 1; have z2 := hx1.cell 2; clear hd)
      | (have tk := tok2; clear tok2; go_at_call 68; refine (cc.out _ hd1).mono ?_; rintro e w2 ⟨rfl, _, hd⟩; have hb2 := hd1.trans (hd.mono hd1.size); have tok3 := tk; clear hd)
      | (have tk := tok3; clear tok3; go_at_call 65; refine (cl.out _ hb2).mono ?_; rintro e w3 ⟨v3, rfl, ho, hd⟩; have hb3 := hb2.trans (hd.mono hb2.size)))
    go_ret2
    exact ⟨v3, by rw [Hz.out]; rfl, Hn.out v3 _ (own_base ho (Nat.le_trans (Nat.le_of_lt hlt) hb2.size)), Hw.out.trans (hb3.mono Hw.out.size)⟩
  · have Hn := Lib.hid (fun v W (hv : v = Value.slice none 0 0) => show CnR b item w.heap.size v W by rw [CnR, if_neg h0]; exact hv)
    have he2 : (nmR b item != 0) = true := by simpa using h0
    generalize nmR b item = e0 at cn he2 ⊢
    clear h h' hs hI hR hb0 hw0 hB h0
    go_enter Tryd.func26, Tryd.ntmps26
    go_wp2_with (go_at_call 67; rw [← hW0]; clear hW0; refine cn.out.mono ?_; rintro e w1 ⟨rfl, hd⟩; have hx1 := HB.out.below hd hlt; have z0 := hx1.cell 0; have z1 := hx1.cell 1; have z2 := hx1.cell 2)
    go_ret2
    exact ⟨_, rfl, Hn.out _ _ rfl, Hw.out.trans (hd.mono Hw.out.size)⟩

set_option maxRecDepth 100000 in
set_option maxHeartbeats 4000000 in
theorem Contains_ref (AI AR : Option Addr) (cI cR B : Nat) (b : Bk) (item : Int) (w : World) (hB : B ≤ w.heap.size) (h : ItsAt B w AI b.its) (h' : RusAt B w AR b.rus) (hs : Short b) :
    Calls Tryd.prog 27 #[.agg #[.int .i64 b.p, .slice AI b.its.length cI, .slice AR b.rus.length cR], .int .i64 item] w fun e w' => ∃ v, e = .returned (.tuple #[v, .int .i64 (nmR b item)]) ∧ CnR b item w.heap.size v w' ∧ Below w.heap.size w w' := by
  have hb0 := Blk.new w 25 #[.int .i64 b.p, .slice AI b.its.length cI, .slice AR b.rus.length cR]
  have hw0 : Below w.heap.size w (w.alloc (.cells #[.int .i64 b.p, .slice AI b.its.length cI, .slice AR b.rus.length cR] 25)) := (Below.refl _ _).alloc (Nat.le_refl _) _
  obtain ⟨W0, hW0⟩ : ∃ W0, W0 = w.alloc (.cells #[.int .i64 b.p, .slice AI b.its.length cI, .slice AR b.rus.length cR] 25) := ⟨_, rfl⟩
  rw [← hW0] at hb0 hw0
  have hlt : w.heap.size < W0.heap.size := hb0.lt
  have hI := (h.below (Below.refl _ _) hB).below hw0 (Nat.le_of_lt hlt)
  have hR := (h'.below (Below.refl _ _) hB).below hw0 (Nat.le_of_lt hlt)
  have cn := Lib.hid (named_ref AI AR cI cR _ b item W0 (Nat.le_refl _) hI hR hs)
  have HB := Lib.hid hb0
  have Hw := Lib.hid hw0
  by_cases h0 : nmR b item = 0
  · obtain ⟨hv0, hi0, hi1⟩ := nm_zero h0
    have hv := vl_zero hv0
    have hp1 := hv.p1
    have hp0 := hv.p0
    have ni := hv.ni
    have hit : item.toNat < b.its.length := by omega
    have hcn := Nat.lt_of_lt_of_le (cnS_lt hv hit) (Nat.pow_le_pow_right (show 0 < 2 by decide) hit)
    have Hn := Lib.hid (fun v W (h3 : W.ownsRow w.heap.size 3 1 v (bl (cnS b item.toNat)).length (natV (bl (cnS b item.toNat)))) => show CnR b item w.heap.size v W by rw [CnR, if_pos h0]; exact ⟨hcn, ni, h3⟩)
    have c1 := fun W (hW : Below W0.heap.size W0 W) => inside_ref AI AR cI cR W0.heap.size b item.toNat W hW.size (hI.below hW (Nat.le_refl _)) hv hit
    rw [Int.toNat_of_nonneg hi0] at c1
    have cc := Lib.hid c1
    have cl := Lib.hid (fun g0 W (hbr : BR g0 b.its.length (cnS b item.toNat) W) => places_ref g0 b.its.length (cnS b item.toNat) b.its.length W hbr (by omega) hcn)
    generalize cnS b item.toNat = C at *
    rw [h0] at cn
    have Hz := Lib.hid h0
    clear h h' hs hI hR hb0 hw0 hv hv0 h0 hi0 hi1 hit hcn hB c1
    have tok := Lib.hid (Nat.le_refl 0)
    go_enter Tryd.func27, Tryd.ntmps27
    go_wp2_with (first
      | (have tk := tok; clear tok; go_at_call 69; rw [← hW0]; clear hW0; refine cn.out.mono ?_; rintro e w1 ⟨rfl, hd⟩; have hd1 := hd; have tok2 := tk; have hx1 := HB.out.below hd1 hlt; have z0 := hx1.cell 0; have z1 := hx1.cell 1; have z2 := hx1.cell 2; clear hd)
      | (have tk := tok2; clear tok2; go_at_call 71; refine (cc.out _ hd1).mono ?_; rintro e w2 ⟨rfl, hbb, hd⟩; have hb2 := hd1.trans (hd.mono hd1.size); have tok3 := tk; have hbr := hbb.br; clear hd hbb)
      | (have tk := tok3; clear tok3; go_at_call 70; refine (cl.out _ _ hbr).mono ?_; rintro e w3 ⟨v3, rfl, ho, hd⟩; have hb3 := hb2.trans (hd.mono hb2.size)))
    go_ret2
    exact ⟨v3, by rw [Hz.out]; rfl, Hn.out v3 _ (own_base ho (Nat.le_trans (Nat.le_of_lt hlt) hb2.size)), Hw.out.trans (hb3.mono Hw.out.size)⟩
  · have Hn := Lib.hid (fun v W (hv : v = Value.slice none 0 0) => show CnR b item w.heap.size v W by rw [CnR, if_neg h0]; exact hv)
    have he2 : (nmR b item != 0) = true := by simpa using h0
    generalize nmR b item = e0 at cn he2 ⊢
    clear h h' hs hI hR hb0 hw0 hB h0
    go_enter Tryd.func27, Tryd.ntmps27
    go_wp2_with (go_at_call 69; rw [← hW0]; clear hW0; refine cn.out.mono ?_; rintro e w1 ⟨rfl, hd⟩; have hx1 := HB.out.below hd hlt; have z0 := hx1.cell 0; have z1 := hx1.cell 1; have z2 := hx1.cell 2)
    go_ret2
    exact ⟨_, rfl, Hn.out _ _ rfl, Hw.out.trans (hd.mono Hw.out.size)⟩

set_option maxRecDepth 100000 in
set_option maxHeartbeats 4000000 in
theorem Label_ref (AI AR : Option Addr) (cI cR B : Nat) (b : Bk) (item : Int) (w : World) (hB : B ≤ w.heap.size) (h : ItsAt B w AI b.its) (h' : RusAt B w AR b.rus) (hs : Short b) :
    Calls Tryd.prog 29 #[.agg #[.int .i64 b.p, .slice AI b.its.length cI, .slice AR b.rus.length cR], .int .i64 item] w fun e w' => ∃ v, e = .returned (.tuple #[v, .int .i64 (nmR b item)]) ∧ LbR b item w.heap.size v w' ∧ Below w.heap.size w w' := by
  have hb0 := Blk.new w 25 #[.int .i64 b.p, .slice AI b.its.length cI, .slice AR b.rus.length cR]
  have hw0 : Below w.heap.size w (w.alloc (.cells #[.int .i64 b.p, .slice AI b.its.length cI, .slice AR b.rus.length cR] 25)) := (Below.refl _ _).alloc (Nat.le_refl _) _
  obtain ⟨W0, hW0⟩ : ∃ W0, W0 = w.alloc (.cells #[.int .i64 b.p, .slice AI b.its.length cI, .slice AR b.rus.length cR] 25) := ⟨_, rfl⟩
  rw [← hW0] at hb0 hw0
  have hlt : w.heap.size < W0.heap.size := hb0.lt
  have hI := (h.below (Below.refl _ _) hB).below hw0 (Nat.le_of_lt hlt)
  have hR := (h'.below (Below.refl _ _) hB).below hw0 (Nat.le_of_lt hlt)
  have cn := Lib.hid (named_ref AI AR cI cR _ b item W0 (Nat.le_refl _) hI hR hs)
  have HB := Lib.hid hb0
  have Hw := Lib.hid hw0
  by_cases h0 : nmR b item = 0
  · obtain ⟨hv0, hi0, hi1⟩ := nm_zero h0
    have hv := vl_zero hv0
    have hp1 := hv.p1
    have hp0 := hv.p0
    have ni := hv.ni
    have hit : item.toNat < b.its.length := by omega
    have hcn := Nat.lt_of_lt_of_le (cnS_lt hv hit) (Nat.pow_le_pow_right (show 0 < 2 by decide) hit)
    have Hn := Lib.hid (fun v W x (h1 : Cl b.rus (bsS b item.toNat) allW x) (h2 : x < 2 ^ b.p.toNat) (h3 : W.ownsRow w.heap.size 3 1 v (bl x).length (natV (bl x))) => show LbR b item w.heap.size v W by rw [LbR, if_pos h0]; exact ⟨x, ⟨h1, h2⟩, h3⟩)
    have c1 := fun W (hW : Below W0.heap.size W0 W) => base_ref AI AR cI cR W0.heap.size b item.toNat W hW.size (hI.below hW (Nat.le_refl _)) hs hv hit
    rw [Int.toNat_of_nonneg hi0] at c1
    have cm := Lib.hid c1
    have cc := Lib.hid (fun g0 W (hW : Below W0.heap.size W0 W) (hbr : BR g0 b.p.toNat (bsS b item.toNat) W) => closed_ref AR cR W0.heap.size g0 b.p.toNat b.p.toNat (bsS b item.toNat) b.rus W hW.size (hR.below hW (Nat.le_refl _)) hbr hs.2.1 hs.2.2.2 (fun x hx => by have := hv.rules x hx; rwa [Int.toNat_of_nonneg hp0]) (by omega) (bsS_lt hv hit))
    have cl := Lib.hid (fun g0 c0 x (hx : x < 2 ^ b.p.toNat) W (hbr : BR g0 b.p.toNat x W) => places_ref g0 c0 x b.p.toNat W hbr (by omega) hx)
    generalize bsS b item.toNat = m at *
    rw [h0] at cn
    have Hz := Lib.hid h0
    clear h h' hs hI hR hb0 hw0 hv hv0 h0 hi0 hi1 hit hcn hB c1
    have tok := Lib.hid (Nat.le_refl 0)
    go_enter Tryd.func29, Tryd.ntmps29
    go_wp2_with (have tk := tok; clear tok; go_at_call 69; rw [← hW0]; clear hW0; refine cn.out.mono ?_; rintro e w1 ⟨rfl, hd⟩; have hb2 := hd; clear hd; have tok2 := tk)
    go_region_held3 (fun W => W.cell? ⟨w.heap.size, 0, none⟩ = some (.int .i64 b.p) ∧ W.cell? ⟨w.heap.size, 1, none⟩ = some (.slice AI b.its.length cI) ∧ W.cell? ⟨w.heap.size, 2, none⟩ = some (.slice AR b.rus.length cR) ∧ Below W0.heap.size W0 W)
      ((refine keepB hlt ⟨HB.out.cell 0, HB.out.cell 1, HB.out.cell 2⟩ ?_; repeat (first | exact Below.refl _ _ | assumption | refine Below.drew ?_)))
      (first
        | (go_at_call 74; have tk := tok2; clear tok2; refine (cm.out _ (by repeat (first | exact Below.refl _ _ | assumption | refine Below.drew ?_))).mono ?_; rintro e w5 ⟨rfl, hbb5, hd5⟩; have tok3 := tk; have hb5 : Below W0.heap.size W0 w5 := Below.trans (by repeat (first | exact Below.refl _ _ | assumption | refine Below.drew ?_)) (hd5.mono (Below.size (w := W0) (B := W0.heap.size) (by repeat (first | exact Below.refl _ _ | assumption | refine Below.drew ?_)))))
        | (go_at_call 73; have tk := tok3; clear tok3; refine (cc.out _ _ (by repeat (first | exact Below.refl _ _ | assumption | refine Below.drew ?_)) (BR.below (B := w5.heap.size) hbb5.br (by repeat (first | exact Below.refl _ _ | assumption | refine Below.drew ?_)) hbb5.lt)).mono ?_; rintro e w6 ⟨g6, k6, x, rfl, hcl, hxl, hbb6, hg6, hd6⟩; have tok4 := tk; have hb6 : Below W0.heap.size W0 w6 := Below.trans (by repeat (first | exact Below.refl _ _ | assumption | refine Below.drew ?_)) (hd6.mono (Below.size (w := W0) (B := W0.heap.size) (by repeat (first | exact Below.refl _ _ | assumption | refine Below.drew ?_)))))
        | (go_at_call 70; have tk := tok4; clear tok4; refine (cl.out _ _ x hxl _ (BR.below (B := w6.heap.size) hbb6.br (by repeat (first | exact Below.refl _ _ | assumption | refine Below.drew ?_)) hbb6.lt)).mono ?_; rintro e w7 ⟨v, rfl, ho7, hd7⟩; have hb7 : Below W0.heap.size W0 w7 := Below.trans (by repeat (first | exact Below.refl _ _ | assumption | refine Below.drew ?_)) (hd7.mono (Below.size (w := W0) (B := W0.heap.size) (by repeat (first | exact Below.refl _ _ | assumption | refine Below.drew ?_)))); have ho8 := own_base ho7 (Below.size (w := W0) (B := W0.heap.size) (by repeat (first | exact Below.refl _ _ | assumption | refine Below.drew ?_))); clear ho7))
    all_goals
      have HB7 := Lib.hid (Hw.out.trans (hb7.mono Hw.out.size))
      have HR7 := Lib.hid (Hn.out _ _ _ hcl hxl (own_base ho8 (Nat.le_of_lt hlt)))
      clear hcl hxl hb6 hb7 ho8
      go_wp2_with fail
      go_ret2
      exact ⟨_, by rw [Hz.out]; rfl, HR7.out, HB7.out⟩
  · have Hn := Lib.hid (fun v W (hv : v = Value.slice none 0 0) => show LbR b item w.heap.size v W by rw [LbR, if_neg h0]; exact hv)
    have he2 : (nmR b item != 0) = true := by simpa using h0
    generalize nmR b item = e0 at cn he2 ⊢
    clear h h' hs hI hR hb0 hw0 hB h0
    go_enter Tryd.func29, Tryd.ntmps29
    go_wp2_with (go_at_call 69; rw [← hW0]; clear hW0; refine cn.out.mono ?_; rintro e w1 ⟨rfl, hd⟩; have hx1 := HB.out.below hd hlt; have z0 := hx1.cell 0; have z1 := hx1.cell 1; have z2 := hx1.cell 2)
    go_ret2
    exact ⟨_, rfl, Hn.out _ _ rfl, Hw.out.trans (hd.mono Hw.out.size)⟩

end Go.Proofs.YtgoojcjfhghmgaaDoor


namespace Go.Proofs.YtgoojcjfhghmgaaDoor
open Go.RowKit

theorem cnF_keep {b : Bk} (hv : VBk b) : ∀ (k m q : Nat), k ≤ b.its.length → k ≤ q → (cnF b k m).testBit q = m.testBit q
  | 0, m, q, _, _ => rfl
  | k + 1, m, q, hk, hq => by
    simp only [cnF]
    rw [cnF_keep hv k _ q (by omega) (by omega)]
    split
    · rw [Nat.testBit_or, mk_bit]
      cases hc : (prt b k).contains q with
      | false => simp
      | true =>
        have := prt_lt hv (show k < b.its.length by omega) q (List.contains_iff_mem.1 hc)
        omega
    · rfl
theorem cnF_sub (b : Bk) : ∀ (k m : Nat), Sub m (cnF b k m)
  | 0, m => fun q h => h
  | k + 1, m => fun q h => by
    simp only [cnF]
    refine cnF_sub b k _ q ?_
    split
    · rw [Nat.testBit_or, h]; rfl
    · exact h
theorem mk_sub {l : List Nat} {x : Nat} : (∀ q ∈ l, x.testBit q = true) → Sub (mk l) x := fun h q hq => by
  rw [mk_bit, List.contains_iff_mem] at hq
  exact h q hq
theorem cnF_shut {b : Bk} (hv : VBk b) : ∀ (k m i : Nat), k ≤ b.its.length → i < k → (cnF b k m).testBit i = true → ∀ x ∈ prt b i, (cnF b k m).testBit x = true
  | 0, m, i, _, hi, _, x, _ => absurd hi (Nat.not_lt_zero i)
  | k + 1, m, i, hk, hi, hb, x, hx => by
    simp only [cnF] at hb ⊢
    by_cases e : i = k
    · subst e
      rw [cnF_keep hv i _ i (by omega) (Nat.le_refl _)] at hb
      refine cnF_sub b i _ x ?_
      cases hm : m.testBit i with
      | true =>
        simp only [if_true]
        rw [Nat.testBit_or, mk_bit, List.contains_iff_mem.2 hx, Bool.or_true]
      | false =>
        rw [hm] at hb
        simp only [Bool.false_eq_true, if_false] at hb
        rw [hm] at hb; cases hb
    · exact cnF_shut hv k _ i (by omega) (by omega) hb x hx
theorem cnF_least {b : Bk} : ∀ (k m Z : Nat), Sub m Z → (∀ i, i < k → Z.testBit i = true → ∀ x ∈ prt b i, Z.testBit x = true) → Sub (cnF b k m) Z
  | 0, m, Z, h, _ => h
  | k + 1, m, Z, h, hz => by
    simp only [cnF]
    refine cnF_least k _ Z ?_ fun i hi => hz i (by omega)
    cases hm : m.testBit k with
    | true =>
      simp only [if_true]
      intro q hq
      rw [Nat.testBit_or, Bool.or_eq_true] at hq
      rcases hq with hq | hq
      · exact h q hq
      · exact mk_sub (hz k (by omega) (h k hm)) q hq
    | false => simpa using h
/-- What an item contains contains no more. -/
theorem cnS_sub {b : Bk} (hv : VBk b) {item i : Nat} (hi : item < b.its.length) (h : (cnS b item).testBit i = true) : Sub (cnS b i) (cnS b item) := by
  have hlt : i < item + 1 := by
    apply Classical.byContradiction
    intro hn
    rw [Nat.testBit_lt_two_pow (Nat.lt_of_lt_of_le (cnS_lt hv hi) (Nat.pow_le_pow_right (by decide) (by omega)))] at h
    cases h
  unfold cnS at h ⊢
  refine cnF_least (i + 1) _ _ (fun q hq => ?_) fun j hj hb => cnF_shut hv (item + 1) _ j (by omega) (by omega) hb
  rw [Nat.testBit_two_pow, decide_eq_true_eq] at hq
  subst hq; exact h
theorem bsF_bit (b : Bk) (q : Nat) : ∀ (l : List Nat) (m : Nat), (l.foldl (fun m i => m ||| mk (hasL b i)) m).testBit q = (m.testBit q || l.any fun i => (mk (hasL b i)).testBit q)
  | [], m => by simp
  | i :: l, m => by
    rw [List.foldl_cons, bsF_bit b q l, Nat.testBit_or, List.any_cons, Bool.or_assoc]
theorem bsS_sub {b : Bk} (hv : VBk b) {item i : Nat} (hi : item < b.its.length) (h : (cnS b item).testBit i = true) : Sub (bsS b i) (bsS b item) := by
  have hil : i < b.its.length := by
    apply Classical.byContradiction
    intro hn
    rw [Nat.testBit_lt_two_pow (Nat.lt_of_lt_of_le (cnS_lt hv hi) (Nat.pow_le_pow_right (by decide) (by omega)))] at h
    cases h
  have ni := hv.ni
  have e1 : cnS b item < 18446744073709551616 := Nat.lt_of_lt_of_le (cnS_lt hv hi) (Nat.le_trans (Nat.pow_le_pow_right (by decide) (show item + 1 ≤ 60 by omega)) (by decide))
  have e2 : cnS b i < 18446744073709551616 := Nat.lt_of_lt_of_le (cnS_lt hv hil) (Nat.le_trans (Nat.pow_le_pow_right (by decide) (show i + 1 ≤ 60 by omega)) (by decide))
  intro q hq
  unfold bsS at hq ⊢
  rw [bsF_bit, Nat.zero_testBit, Bool.false_or, List.any_eq_true] at hq ⊢
  obtain ⟨j, hj, hb⟩ := hq
  exact ⟨j, (mem_bl _ e1 j).2 (cnS_sub hv hi h j ((mem_bl _ e2 j).1 hj)), hb⟩
theorem Lbl.sub {b : Bk} (hv : VBk b) {item i x y : Nat} (hi : item < b.its.length) (h : (cnS b item).testBit i = true) (hx : Lbl b item x) (hy : Lbl b i y) : Sub y x :=
  hy.1.1.2 x (fun q hq => hx.1.1.1 q (bsS_sub hv hi h q hq)) hx.1.2

/-- The lists of Contains and Label. -/
def cnL (b : Bk) (item : Int) : List Int := if nmR b item = 0 then intL (bl (cnS b item.toNat)) else []
theorem CnR.ints {b : Bk} {item : Int} {base : Nat} {v : Value} {W : World} (h : CnR b item base v W) : ∃ A c, v = .slice A (cnL b item).length c ∧ IntsAt W.heap.size W A (cnL b item) ∧ (cnL b item).length ≤ 20 := by
  unfold CnR at h
  split at h
  · rename_i h0
    obtain ⟨h1, h2, h3⟩ := h
    obtain ⟨A, c, e, i⟩ := IntsAt.of_nat h3
    have := bl_length h1 (by omega)
    rw [cnL, if_pos h0]
    exact ⟨A, c, e, i, by simp [intL]; omega⟩
  · rename_i h0
    rw [cnL, if_neg h0]
    exact ⟨none, 0, h, IntsAt.nil _ _ _, by simp⟩
def LbL (b : Bk) (item : Int) (L : List Int) : Prop := if nmR b item = 0 then ∃ x : Nat, Lbl b item.toNat x ∧ L = intL (bl x) else L = []
theorem LbR.ints {b : Bk} {item : Int} {base : Nat} {v : Value} {W : World} (h : LbR b item base v W) : ∃ L A c, v = .slice A (List.length L) c ∧ IntsAt W.heap.size W A L ∧ LbL b item L ∧ L.length ≤ 10 := by
  unfold LbR at h
  split at h
  · rename_i h0
    obtain ⟨x, h1, h3⟩ := h
    obtain ⟨A, c, e, i⟩ := IntsAt.of_nat h3
    have := (vl_zero (nm_zero h0).1).p1
    have := bl_short h1.2 (by omega)
    exact ⟨_, A, c, e, i, by rw [LbL, if_pos h0]; exact ⟨x, h1, rfl⟩, by simpa [intL] using this⟩
  · rename_i h0
    exact ⟨[], none, 0, h, IntsAt.nil _ _ _, by rw [LbL, if_neg h0], by simp⟩
theorem LbL.unique {b : Bk} {item : Int} {L L' : List Int} (h : LbL b item L) (h' : LbL b item L') : L = L' := by
  unfold LbL at h h'
  split at h
  · obtain ⟨x, h1, rfl⟩ := h
    rename_i h0
    rw [if_pos h0] at h'
    obtain ⟨y, g1, rfl⟩ := h'
    rw [h1.1.unique g1.1]
  · rename_i h0
    rw [if_neg h0] at h'
    rw [h, h']
/-- Each thing that an item contains: its label is there, and lies in the item's. -/
theorem label_part {b : Bk} {item z : Int} {L : List Int} (hz : z ∈ cnL b item) (hL : LbL b item L) : nmR b z = 0 ∧ ∀ L', LbL b z L' → ∀ q ∈ L', L.contains q = true := by
  unfold cnL at hz
  split at hz
  · rename_i h0
    obtain ⟨hv0, hi0, hi1⟩ := nm_zero h0
    have hv := vl_zero hv0
    have hp1 := hv.p1
    have ni := hv.ni
    obtain ⟨i, hi, rfl⟩ := List.mem_map.1 hz
    have hlt := cnS_lt hv (item := item.toNat) (by omega)
    have e1 : cnS b item.toNat < 18446744073709551616 := Nat.lt_of_lt_of_le hlt (Nat.le_trans (Nat.pow_le_pow_right (by decide) (show item.toNat + 1 ≤ 60 by omega)) (by decide))
    have hbit := (mem_bl _ e1 i).1 hi
    have hil := bl_lt hlt (by omega) hi
    have hn : nmR b (i : Int) = 0 := by rw [nmR, if_pos hv0, if_neg (by omega)]
    refine ⟨hn, fun L' h' q hq => ?_⟩
    rw [LbL, if_pos h0] at hL
    rw [LbL, if_pos hn] at h'
    obtain ⟨x, hx, rfl⟩ := hL
    obtain ⟨y, hy, rfl⟩ := h'
    obtain ⟨t, ht, rfl⟩ := List.mem_map.1 hq
    rw [List.contains_iff_mem]
    refine List.mem_map.2 ⟨t, ?_, rfl⟩
    rw [mem_bl x (p64 hx.2 (by omega))]
    rw [mem_bl y (p64 hy.2 (by omega))] at ht
    exact Lbl.sub hv (by omega) hbit hx hy t ht
  · simp at hz
end Go.Proofs.YtgoojcjfhghmgaaDoor


namespace Go.Proofs.YtgoojcjfhghmgaaDoor
open Go.RowKit

/-- The properties of steps. -/
def kS (l : List St) : Nat := l.foldl (fun m s => m ||| 2 ^ s.1.toNat) 0
theorem kS_snoc (l : List St) (s : St) : kS (l ++ [s]) = kS l ||| 2 ^ s.1.toNat := by simp [kS]
theorem kS_take {l : List St} {i : Nat} (hi : i < l.length) : kS (l.take (i + 1)) = kS (l.take i) ||| 2 ^ l[i].1.toNat := by
  rw [List.take_succ_eq_append_getElem hi, kS_snoc]
/-- The number of bits below n. -/
def cntB (x : Nat) : Nat → Nat
  | 0 => 0
  | n + 1 => cntB x n + if x.testBit n then 1 else 0
theorem cntB_le (x : Nat) : ∀ n, cntB x n ≤ n
  | 0 => Nat.le_refl _
  | n + 1 => by unfold cntB; have := cntB_le x n; split <;> omega
theorem cntB_far {x t : Nat} : ∀ n, n ≤ t → cntB (x ||| 2 ^ t) n = cntB x n
  | 0, _ => rfl
  | n + 1, h => by
    unfold cntB
    rw [cntB_far n (by omega), Nat.testBit_or, Nat.testBit_two_pow]
    have : decide (t = n) = false := by simp; omega
    rw [this, Bool.or_false]
theorem cntB_or {x t : Nat} (hx : x.testBit t = false) : ∀ n, t < n → cntB (x ||| 2 ^ t) n = cntB x n + 1
  | n + 1, h => by
    unfold cntB
    by_cases e : t = n
    · subst e
      rw [cntB_far t (Nat.le_refl _), Nat.testBit_or, Nat.testBit_two_pow, hx]
      simp
    · rw [cntB_or hx n (by omega), Nat.testBit_or, Nat.testBit_two_pow]
      have : decide (t = n) = false := by simp; omega
      rw [this, Bool.or_false]; omega
theorem cntB_full {x : Nat} : ∀ n, n ≤ cntB x n → ∀ q, q < n → x.testBit q = true
  | n + 1, h, q, hq => by
    unfold cntB at h
    have h1 := cntB_le x n
    split at h
    · rename_i hb
      by_cases e : q = n
      · subst e; exact hb
      · exact cntB_full n (by omega) q (by omega)
    · omega
/-- Each step is right. -/
def Prf (b : Bk) (item : Nat) (l : List St) : Prop := ∀ i (hi : i < l.length), rgR b item l[i] (kS (l.take i)) = true
theorem Prf.nil (b : Bk) (item : Nat) : Prf b item [] := fun i hi => by simp at hi
theorem Prf.snoc {b : Bk} {item : Nat} {l : List St} {s : St} (h : Prf b item l) (hs : rgR b item s (kS l) = true) : Prf b item (l ++ [s]) := fun i hi => by
  rw [List.length_append, List.length_singleton] at hi
  by_cases e : i < l.length
  · rw [List.getElem_append_left e, List.take_append_of_le_length (by omega)]
    exact h i e
  · obtain rfl : i = l.length := by omega
    rw [List.getElem_append_right (Nat.le_refl _), List.take_append_of_le_length (Nat.le_refl _), List.take_length]
    simpa using hs
theorem rg_prop {b : Bk} {item K : Nat} {s : St} (h : rgR b item s K = true) : 0 ≤ s.1 ∧ s.1 < b.p := by
  unfold rgR at h
  split at h
  · exact absurd h (by decide)
  · omega
/-- What a right step proves is in the label, if what was known is. -/
theorem rg_label {b : Bk} (hv : VBk b) {item K x : Nat} (hi : item < b.its.length) {s : St} (hx : Lbl b item x) (hK : Sub K x) (h : rgR b item s K = true) : x.testBit s.1.toNat = true := by
  have hp := rg_prop h
  unfold rgR at h
  rw [if_neg (by omega)] at h
  split at h
  · simp only [Bool.and_eq_true, decide_eq_true_eq] at h
    obtain ⟨⟨⟨h0, h1⟩, h2⟩, h3⟩ := h
    refine hx.1.1.1 _ ?_
    unfold bsS
    rw [bsF_bit, Nat.zero_testBit, Bool.false_or, List.any_eq_true]
    have hlt : cnS b item < 18446744073709551616 := Nat.lt_of_lt_of_le (cnS_lt hv hi) (Nat.le_trans (Nat.pow_le_pow_right (by decide) (show item + 1 ≤ 60 by have := hv.ni; omega)) (by decide))
    refine ⟨s.2.1.toNat, (mem_bl _ hlt _).2 h2, ?_⟩
    rw [mk_bit, List.contains_iff_mem]
    exact List.mem_map_of_mem (List.contains_iff_mem.1 h3)
  · simp only [Bool.and_eq_true, decide_eq_true_eq] at h
    obtain ⟨⟨⟨⟨_, h0⟩, h1⟩, h2⟩, h3⟩ := h
    have hlt : s.2.2.toNat < b.rus.length := by omega
    rw [List.getElem?_eq_getElem hlt, Option.getD_some] at h2 h3
    have := hx.1.2 b.rus[s.2.2.toNat] (List.getElem_mem hlt) (allB_sub hK h3) rfl
    rw [h2] at this
    exact this
theorem Prf.sub {b : Bk} (hv : VBk b) {item x : Nat} (hit : item < b.its.length) {l : List St} (h : Prf b item l) (hx : Lbl b item x) : ∀ i, i ≤ l.length → Sub (kS (l.take i)) x
  | 0, _ => fun q hq => by simp [kS] at hq
  | i + 1, hi => fun q hq => by
    have ih := h.sub hv hit hx i (by omega)
    rw [kS_take (by omega), Nat.testBit_or, Bool.or_eq_true] at hq
    rcases hq with hq | hq
    · exact ih q hq
    · rw [Nat.testBit_two_pow, decide_eq_true_eq] at hq
      subst hq
      exact rg_label hv hit hx ih (h i (by omega))
theorem Prf.all {b : Bk} (hv : VBk b) {item x : Nat} (hit : item < b.its.length) {l : List St} (h : Prf b item l) (hx : Lbl b item x) : Sub (kS l) x := by
  have := h.sub hv hit hx l.length (Nat.le_refl _)
  rwa [List.take_length] at this

/-- What adding a step leaves. -/
def addS (prop : Nat) (l : List St) (s : St) : List St := if (kS l).testBit prop || (kS l).testBit s.1.toNat then l else l ++ [s]
structure Gr (b : Bk) (item prop : Nat) (l : List St) : Prop where
  prf : Prf b item l
  len : l.length = cntB (kS l) b.p.toNat
  last : (kS l).testBit prop = true → ∃ s, l.getLast? = some s ∧ s.1.toNat = prop
theorem Gr.nil (b : Bk) (item prop : Nat) : Gr b item prop [] := by
  refine ⟨Prf.nil b item, ?_, fun h => by simp [kS] at h⟩
  have : ∀ n, cntB 0 n = 0 := fun n => by
    induction n with
    | zero => rfl
    | succ n ih => unfold cntB; rw [ih]; simp
  exact (this _).symm
theorem Gr.add {b : Bk} {item prop : Nat} {l : List St} {s : St} (h : Gr b item prop l) (hs : rgR b item s (kS l) = true) : Gr b item prop (addS prop l s) := by
  have hp := rg_prop hs
  unfold addS
  split
  · exact h
  · rename_i hc
    rw [Bool.or_eq_true, not_or, Bool.not_eq_true, Bool.not_eq_true] at hc
    refine ⟨h.prf.snoc hs, ?_, fun hb => ⟨s, by simp, ?_⟩⟩
    · rw [kS_snoc, cntB_or hc.2 _ (by omega), List.length_append, h.len]; rfl
    · rw [kS_snoc, Nat.testBit_or, hc.1, Bool.false_or, Nat.testBit_two_pow, decide_eq_true_eq] at hb
      exact hb
/-- What is known of M, unless the property is. -/
def Cov (prop : Nat) (l : List St) (M : Nat) : Prop := (kS l).testBit prop = true ∨ Sub M (kS l)
theorem addS_sub (prop : Nat) (l : List St) (s : St) : Sub (kS l) (kS (addS prop l s)) := fun q hq => by
  unfold addS
  split
  · exact hq
  · rw [kS_snoc, Nat.testBit_or, hq]; rfl
theorem addS_has {prop : Nat} {l : List St} {s : St} (h : (kS l).testBit prop = false) : (kS (addS prop l s)).testBit s.1.toNat = true := by
  unfold addS
  split
  · rename_i hc
    rw [h, Bool.false_or] at hc
    exact hc
  · rw [kS_snoc, Nat.testBit_or]; simp
theorem Cov.start (prop : Nat) (l : List St) : Cov prop l 0 := .inr fun q hq => by simp at hq
theorem Cov.add {prop M : Nat} {l : List St} {s : St} (h : Cov prop l M) : Cov prop (addS prop l s) (M ||| 2 ^ s.1.toNat) := by
  by_cases hb : (kS l).testBit prop = true
  · exact .inl (addS_sub prop l s _ hb)
  · rw [Bool.not_eq_true] at hb
    rcases h with h | h
    · rw [hb] at h; cases h
    · refine .inr fun q hq => ?_
      rw [Nat.testBit_or, Bool.or_eq_true] at hq
      rcases hq with hq | hq
      · exact addS_sub prop l s _ (h q hq)
      · rw [Nat.testBit_two_pow, decide_eq_true_eq] at hq
        subst hq
        exact addS_has hb
/-- After j rounds over the rules, and i rules of the next one. -/
def Cov2 (b : Bk) (item prop j i : Nat) (l : List St) : Prop :=
  (kS l).testBit prop = true ∨ (Sub (bsS b item) (kS l) ∧ (Shut b.rus allW (kS l) ∨ j + 1 ≤ cntB (kS l) b.p.toNat ∨ (j ≤ cntB (kS l) b.p.toNat ∧ Off b.rus allW (kS l) i)))
theorem Cov2.start {b : Bk} {item prop : Nat} {l : List St} (h : Cov prop l (bsS b item)) : Cov2 b item prop 0 0 l := by
  rcases h with h | h
  · exact .inl h
  · exact .inr ⟨h, .inr (.inr ⟨Nat.zero_le _, fun j _ hj => by omega⟩)⟩
theorem Cov2.next {b : Bk} {item prop j : Nat} {l : List St} (h : Cov2 b item prop j b.rus.length l) : Cov2 b item prop (j + 1) 0 l := by
  rcases h with h | ⟨h, h1 | h1 | ⟨_, h1⟩⟩
  · exact .inl h
  · exact .inr ⟨h, .inl h1⟩
  · exact .inr ⟨h, .inr (.inr ⟨h1, fun j _ hj => by omega⟩)⟩
  · exact .inr ⟨h, .inl h1.all⟩
theorem Cov2.skip {b : Bk} {item prop j i : Nat} {l : List St} (h : Cov2 b item prop j i l) (hi : i < b.rus.length) (ha : allB (kS l) (natL b.rus[i].1) = false) : Cov2 b item prop j (i + 1) l := by
  rcases h with h | ⟨h, h1 | h1 | ⟨h2, h1⟩⟩
  · exact .inl h
  · exact .inr ⟨h, .inl h1⟩
  · exact .inr ⟨h, .inr (.inl h1)⟩
  · exact .inr ⟨h, .inr (.inr ⟨h2, h1.succ fun _ ht _ => by rw [ha] at ht; cases ht⟩)⟩
theorem Cov2.step {b : Bk} {item prop j i : Nat} {l : List St} {s : St} (h : Cov2 b item prop j i l) (hi : i < b.rus.length) (hs : s.1.toNat = b.rus[i].2.toNat) (hp : s.1.toNat < b.p.toNat) (ha : allB (kS l) (natL b.rus[i].1) = true) : Cov2 b item prop j (i + 1) (addS prop l s) := by
  by_cases hb : (kS l).testBit prop = true
  · exact .inl (addS_sub prop l s _ hb)
  · rw [Bool.not_eq_true] at hb
    rcases h with h | ⟨h, h1⟩
    · rw [hb] at h; cases h
    · by_cases hk : (kS l).testBit s.1.toNat = true
      · have e : addS prop l s = l := by unfold addS; rw [hk, Bool.or_true, if_pos rfl]
        rw [e]
        rcases h1 with h1 | h1 | ⟨h2, h1⟩
        · exact .inr ⟨h, .inl h1⟩
        · exact .inr ⟨h, .inr (.inl h1)⟩
        · exact .inr ⟨h, .inr (.inr ⟨h2, h1.succ fun _ _ _ => by rw [← hs]; exact hk⟩)⟩
      · rw [Bool.not_eq_true] at hk
        have e : addS prop l s = l ++ [s] := by unfold addS; rw [hk, hb]; rfl
        have hc := cntB_or hk b.p.toNat hp
        refine .inr ⟨fun q hq => addS_sub prop l s _ (h q hq), ?_⟩
        rw [e, kS_snoc]
        rcases h1 with h1 | h1 | ⟨h2, h1⟩
        · have := h1 b.rus[i] (List.getElem_mem hi) ha rfl
          rw [← hs, hk] at this; cases this
        · exact .inr (.inl (by omega))
        · exact .inr (.inl (by omega))
/-- At the end the property is known exactly if it is in the label. -/
theorem Cov2.done {b : Bk} {item prop x : Nat} {l : List St} (h : Cov2 b item prop b.p.toNat 0 l) (hg : Gr b item prop l) (hv : VBk b) (hit : item < b.its.length) (hx : Lbl b item x) (hp : prop < b.p.toNat) : (kS l).testBit prop = x.testBit prop := by
  rw [Bool.eq_iff_iff]
  refine ⟨hg.prf.all hv hit hx prop, fun hq => ?_⟩
  rcases h with h | ⟨h, h1 | h1 | ⟨h2, _⟩⟩
  · exact h
  · exact hx.1.1.2 _ h h1 prop hq
  · have := cntB_le (kS l) b.p.toNat; omega
  · exact cntB_full _ h2 prop hp
end Go.Proofs.YtgoojcjfhghmgaaDoor


namespace Go.Proofs.YtgoojcjfhghmgaaDoor
open Go.RowKit

def prfB (b : Bk) (item : Nat) (l : List St) : Bool := (List.range l.length).all fun i => rgR b item (l[i]?.getD (0, 0, 0)) (kS (l.take i))
theorem prfB_iff {b : Bk} {item : Nat} {l : List St} : prfB b item l = true ↔ Prf b item l := by
  unfold prfB Prf
  rw [List.all_eq_true]
  refine ⟨fun h i hi => ?_, fun h i hi => ?_⟩
  · have := h i (List.mem_range.2 hi)
    rwa [List.getElem?_eq_getElem hi, Option.getD_some] at this
  · have hi' := List.mem_range.1 hi
    rw [List.getElem?_eq_getElem hi', Option.getD_some]
    exact h i hi'
/-- The property of the last step. -/
def lastP (l : List St) : Int := (l.getLast?.map (·.1)).getD (-1)
theorem lastP_snoc (l : List St) (s : St) : lastP (l ++ [s]) = s.1 := by simp [lastP]
theorem lastP_take {l : List St} {i : Nat} (hi : i < l.length) : lastP (l.take (i + 1)) = l[i].1 := by
  rw [List.take_succ_eq_append_getElem hi, lastP_snoc]
theorem lastP_at {l : List St} {i : Nat} (hi : i + 1 = l.length) : lastP l = (l[i]'(by omega)).1 := by
  have := lastP_take (l := l) (i := i) (by omega)
  rwa [hi, List.take_length] at this
/-- What CheckProof returns. -/
def cpR (b : Bk) (item prop : Int) (l : List St) : Int :=
  if akR b item prop = 0 then (if 40 < l.length then 4 else if prfB b item.toNat l = true ∧ lastP l = prop then 0 else 8) else akR b item prop
theorem cp_ak {b : Bk} {item prop : Int} {l : List St} (h : akR b item prop ≠ 0) : cpR b item prop l = akR b item prop := if_neg h
theorem cp_long {b : Bk} {item prop : Int} {l : List St} (h : akR b item prop = 0) (hl : 40 < l.length) : cpR b item prop l = 4 := by
  rw [cpR, if_pos h, if_pos hl]
theorem cp_bad {b : Bk} {item prop : Int} {l : List St} (h : akR b item prop = 0) (hl : l.length ≤ 40) {k : Nat} (hk : k < l.length) (hb : rgR b item.toNat l[k] (kS (l.take k)) = false) : cpR b item prop l = 8 := by
  rw [cpR, if_pos h, if_neg (by omega), if_neg]
  rintro ⟨hp, _⟩
  have := prfB_iff.1 hp k hk
  rw [hb] at this
  cases this
theorem cp_good {b : Bk} {item prop : Int} {l : List St} (h : akR b item prop = 0) (hl : l.length ≤ 40) (hp : Prf b item.toNat l) (hq : lastP l = prop) : cpR b item prop l = 0 := by
  rw [cpR, if_pos h, if_neg (by omega), if_pos ⟨prfB_iff.2 hp, hq⟩]
theorem cp_other {b : Bk} {item prop : Int} {l : List St} (h : akR b item prop = 0) (hl : l.length ≤ 40) (hq : lastP l ≠ prop) : cpR b item prop l = 8 := by
  rw [cpR, if_pos h, if_neg (by omega), if_neg fun h => hq h.2]
theorem cp_zero {b : Bk} {item prop : Int} {l : List St} (h : cpR b item prop l = 0) : akR b item prop = 0 ∧ Prf b item.toNat l ∧ lastP l = prop := by
  unfold cpR at h
  split at h
  · rename_i h0
    split at h
    · cases h
    · split at h
      · rename_i h1
        exact ⟨h0, prfB_iff.1 h1.1, h1.2⟩
      · cases h
  · rename_i h0
    exact absurd h h0
theorem kS_mem {l : List St} {s : St} (h : s ∈ l) : (kS l).testBit s.1.toNat = true := by
  have key : ∀ (l : List St) (m : Nat), ((l.foldl (fun m s => m ||| 2 ^ s.1.toNat) m).testBit s.1.toNat = true) ↔ (m.testBit s.1.toNat = true ∨ ∃ t ∈ l, t.1.toNat = s.1.toNat) := fun l => by
    induction l with
    | nil => intro m; simp
    | cons a l ih =>
      intro m
      rw [List.foldl_cons, ih, Nat.testBit_or, Bool.or_eq_true, Nat.testBit_two_pow, decide_eq_true_eq]
      simp only [List.mem_cons, exists_eq_or_imp]
      rw [or_assoc]
  exact (key l 0).2 (.inr ⟨s, h, rfl⟩)
theorem lastP_mem {l : List St} {p : Int} (h : lastP l = p) (h0 : 0 ≤ p) : ∃ s ∈ l, s.1 = p := by
  unfold lastP at h
  cases hl : l.getLast? with
  | none => rw [hl] at h; simp at h; omega
  | some s =>
    rw [hl] at h
    exact ⟨s, List.mem_of_getLast? hl, by simpa using h⟩
/-- The property of an accepted proof is in the label. -/
theorem proof_label {b : Bk} {item prop : Int} {l : List St} (h : cpR b item prop l = 0) : nmR b item = 0 ∧ ∀ L, LbL b item L → L.contains prop = true := by
  obtain ⟨h1, h2, h3⟩ := cp_zero h
  obtain ⟨h0, hp0, hp1⟩ := ak_zero h1
  obtain ⟨hv0, hi0, hi1⟩ := nm_zero h0
  have hv := vl_zero hv0
  refine ⟨h0, fun L hL => ?_⟩
  rw [LbL, if_pos h0] at hL
  obtain ⟨x, hx, rfl⟩ := hL
  obtain ⟨s, hs, rfl⟩ := lastP_mem h3 hp0
  have := h2.all hv (by omega) hx _ (kS_mem hs)
  rw [List.contains_iff_mem]
  refine List.mem_map.2 ⟨s.1.toNat, ?_, by simpa using Int.toNat_of_nonneg hp0⟩
  rw [mem_bl x (p64 hx.2 (by have := hv.p1; omega))]
  exact this
theorem kS_lt {b : Bk} {item : Nat} {l : List St} (h : Prf b item l) : ∀ i, i ≤ l.length → kS (l.take i) < 2 ^ b.p.toNat
  | 0, _ => by simp [kS]; exact Nat.two_pow_pos _
  | i + 1, hi => by
    rw [kS_take (by omega)]
    refine Nat.or_lt_two_pow (kS_lt h i (by omega)) (Nat.pow_lt_pow_right (by decide) ?_)
    have := rg_prop (h i (by omega))
    omega
theorem kS_lt' {b : Bk} {item : Nat} {l : List St} (h : Prf b item l) : kS l < 2 ^ b.p.toNat := by
  have := kS_lt h l.length (Nat.le_refl _)
  rwa [List.take_length] at this
theorem Prf.take_succ {b : Bk} {item i : Nat} {l : List St} (hi : i < l.length) (h : Prf b item (l.take i)) (hs : rgR b item l[i] (kS (l.take i)) = true) : Prf b item (l.take (i + 1)) := by
  rw [List.take_succ_eq_append_getElem hi]
  exact h.snoc hs
end Go.Proofs.YtgoojcjfhghmgaaDoor


set_option linter.unusedSimpArgs false
namespace Go.Proofs.YtgoojcjfhghmgaaDoor
open Go.RowKit

theorem info73 : (Tryd.prog.info? 73).map (fun i => (i.zero, i.size, i.bytes)) = some (some (.agg #[.int .i64 0, .int .i64 0, .int .i64 0]), 3, 24) := by kernel_rfl
def flatS (l : List St) : List Value := l.flatMap fun s => [.int .i64 s.1, .int .i64 s.2.1, .int .i64 s.2.2]
theorem flatS_snoc (l : List St) (s : St) : flatS (l ++ [s]) = flatS l ++ [.int .i64 s.1, .int .i64 s.2.1, .int .i64 s.2.2] := by simp [flatS]
theorem own_slice {w : World} {base e size n : Nat} {v : Value} {xs : List Value} (h : w.ownsRow base e size v n xs) : ∃ A c, v = .slice A n c := by
  rcases h.2 with ⟨e1, e2⟩ | ⟨g, cap, cur, e1, _⟩
  · exact ⟨none, 0, by rw [e1, e2]⟩
  · exact ⟨some ⟨g, 0, none⟩, cap, e1⟩
/-- Of the blocks below lo only two may have turned. -/
structure Two (X Y lo : Nat) (a w : World) : Prop where
  os : w.os = a.os
  tape : w.tape = a.tape
  output : w.output = a.output
  size : a.heap.size ≤ w.heap.size
  block : ∀ i, i < lo → i ≠ X → i ≠ Y → w.heap[i]? = a.heap[i]?
namespace Two
variable {X Y lo : Nat} {a w w' : World}
theorem refl (X Y lo : Nat) (a : World) : Two X Y lo a a := ⟨rfl, rfl, rfl, Nat.le_refl _, fun _ _ _ _ => rfl⟩
theorem of_below {B : Nat} (h : Below B a w) (hB : lo ≤ B) : Two X Y lo a w := ⟨h.os, h.tape, h.output, h.size, fun i hi _ _ => h.block i (by omega)⟩
theorem trans (h : Two X Y lo a w) (h' : Two X Y lo w w') : Two X Y lo a w' :=
  ⟨h'.os.trans h.os, h'.tape.trans h.tape, h'.output.trans h.output, Nat.le_trans h.size h'.size, fun i hi h1 h2 => (h'.block i hi h1 h2).trans (h.block i hi h1 h2)⟩
theorem below {n : Nat} (h : Two X Y lo a w) (hX : n ≤ X) (hY : n ≤ Y) (hl : n ≤ lo) : Below n a w := ⟨h.os, h.tape, h.output, h.size, fun i hi => h.block i (by omega) (by omega) (by omega)⟩
theorem blk {g : Nat} {t : TypeId} {cs : Array Value} (h : Two X Y lo a w) (hb : Blk a g t cs) (hg : g < lo) (h1 : g ≠ X) (h2 : g ≠ Y) : Blk w g t cs := (h.block g hg h1 h2).trans hb
theorem cell {g i : Nat} {v : Value} (h : Two X Y lo a w) (hb : a.cell? ⟨g, i, none⟩ = some v) (hg : g < lo) (h1 : g ≠ X) (h2 : g ≠ Y) : w.cell? ⟨g, i, none⟩ = some v := (World.cell?_of_block (h.block g hg h1 h2)).trans hb
theorem grown {row : Option Nat} (h : Two X Y lo a w) (hg : w.grownBy w' row) (hr : ∀ k, row = some k → lo ≤ k) (hw : lo ≤ w.heap.size) : Two X Y lo a w' := by
  have hb : Below lo w w' := (Below.refl lo w).grown hg hw hr
  exact h.trans (of_below hb (Nat.le_refl _))
theorem put1 (h : Two X Y lo a w) (i : Nat) (u : Value) : Two X Y lo a (w.setCell ⟨X, i, none⟩ u) := by
  refine h.trans ?_
  have o := (Only.refl X w).put i u
  refine ⟨o.os, o.tape, o.output, o.size, fun k _ h1 _ => ?_⟩
  exact Below.heap_setCell w ⟨X, i, none⟩ u k h1
theorem put2 (h : Two X Y lo a w) (i : Nat) (u : Value) : Two X Y lo a (w.setCell ⟨Y, i, none⟩ u) := by
  refine h.trans ?_
  have o := (Only.refl Y w).put i u
  refine ⟨o.os, o.tape, o.output, o.size, fun k _ _ h1 => ?_⟩
  exact Below.heap_setCell w ⟨Y, i, none⟩ u k h1
theorem drew (h : Two X Y lo a w) : Two X Y lo a w.drew := ⟨h.os, h.tape, h.output, h.size, h.block⟩
end Two
/-- The variables of Explain. -/
structure ExAt (X lo : Nat) (l : List St) (W : World) : Prop where
  row : ∃ v, Blk W X 53 #[v] ∧ W.ownsRow lo 73 3 v l.length (flatS l)
  bn : Blk W (X + 1) 3 #[.int .i64 (kS l)]
namespace ExAt
variable {X lo : Nat} {l : List St} {W : World}
theorem alloc (h : ExAt X lo l W) (o : Obj) : ExAt X lo l (W.alloc o) := by
  obtain ⟨⟨v, h3, h4⟩, h5⟩ := h
  exact ⟨⟨v, h3.alloc o, h4.alloc o⟩, h5.alloc o⟩
theorem drew (h : ExAt X lo l W) : ExAt X lo l W.drew := by
  obtain ⟨⟨v, h3, h4⟩, h5⟩ := h
  exact ⟨⟨v, h3.drew, World.ownsRow.drew h4⟩, h5.drew⟩
end ExAt
/-- The row has grown by a step, and both variables are stored anew. -/
theorem ExAt.snoc {X lo : Nat} {q : Nat} {f r : Int} {l : List St} {V w7 : World} {v v' : Value} (hX : X + 1 < lo) (hr : Blk V X 53 #[v]) (hn : Blk V (X + 1) 3 #[.int .i64 (kS l)])
    (hown : V.ownsRow lo 73 3 v l.length (flatS l)) (hg : V.grownBy w7 v.ownBlock) (hown7 : w7.ownsRow lo 73 3 v' (l.length + 1) (flatS l ++ [.int .i64 q, .int .i64 f, .int .i64 r])) :
    ExAt X lo (l ++ [((q : Int), f, r)]) ((w7.setCell ⟨X, 0, none⟩ v').setCell ⟨X + 1, 0, none⟩ (.int .i64 ((kS l ||| 2 ^ q : Nat) : Int))).drew := by
  have n3 := own_ne hown (show X < lo by omega)
  have n4 := own_ne hown (show X + 1 < lo by omega)
  have g3 := hr.grown hg n3
  have g4 := hn.grown hg n4
  refine ⟨⟨v', ?_, ?_⟩, ?_⟩
  · exact ((g3.put 0 v').far (show X ≠ X + 1 by omega) _).drew
  · have e1 := ((Only.refl X w7).put 0 v').own hown7 (own_ne hown7 (show X < lo by omega))
    have e2 := ((Only.refl (X + 1) _).put 0 (.int .i64 ((kS l ||| 2 ^ q : Nat) : Int))).own e1 (own_ne e1 (show X + 1 < lo by omega))
    rw [List.length_append, List.length_singleton, flatS_snoc]
    exact World.ownsRow.drew e2
  · rw [kS_snoc]
    exact ((g4.far (show X + 1 ≠ X by omega) v').put 0 _).drew
theorem or_pow' {m x : Nat} (hm : m < 2 ^ 60) (hx : x < 60) : bits BinOp.or IntKind.i64 (m : Int) (IntKind.i64.wrap ((2 : Int) ^ x)) = ((m ||| 2 ^ x : Nat) : Int) := by
  have e : IntKind.i64.wrap ((2 : Int) ^ x) = wrap64 ((2 : Int) ^ x) := by rw [IntKind.wrap_i64]; unfold wrap64; omega
  rw [e]; exact or_pow hm hx

set_option maxRecDepth 100000 in
set_option maxHeartbeats 4000000 in
theorem add_any (gp X lo : Nat) (prop q : Nat) (f r : Int) (l : List St) (w : World) (hX : X + 1 < lo) (hlo : lo ≤ w.heap.size) (hgp : Blk w gp 3 #[.int .i64 prop]) (hK : kS l < 2 ^ 10) (hpr : prop < 10) (hq : q < 10) (hl : l.length ≤ 40) (h : ExAt X lo l w) :
    Calls Tryd.prog 86 #[.agg #[.int .i64 q, .int .i64 f, .int .i64 r], .pointer (some ⟨X + 1, 0, none⟩), .pointer (some ⟨gp, 0, none⟩), .pointer (some ⟨X, 0, none⟩)] w
      fun e w' => e = .returned (.tuple #[]) ∧ ExAt X lo (addS prop l ((q : Int), f, r)) w' ∧ Two X (X + 1) lo w w' := by
  obtain ⟨j0, hj, hy0, hy1, hy2⟩ := info_parts info73
  have hK60 : kS l < 2 ^ 60 := Nat.lt_of_lt_of_le hK (by decide)
  have hba : Two X (X + 1) lo w (w.alloc (.cells #[.int .i64 q, .int .i64 f, .int .i64 r] 73)) := Two.of_below ((Below.refl _ w).alloc (Nat.le_refl _) _) hlo
  have hA := h.alloc (.cells #[.int .i64 q, .int .i64 f, .int .i64 r] 73)
  have Hb := Lib.hid hba
  have HA := Lib.hid hA
  have HS := Lib.hid (Blk.new w 73 #[.int .i64 q, .int .i64 f, .int .i64 r])
  obtain ⟨s0, s1, s2, _⟩ := blk3 HS.out
  obtain ⟨⟨v, b3, b4⟩, b5⟩ := h
  have a2 := hgp.alloc (.cells #[.int .i64 q, .int .i64 f, .int .i64 r] 73)
  have a3 := b3.alloc (.cells #[.int .i64 q, .int .i64 f, .int .i64 r] 73)
  have a4 := b4.alloc (.cells #[.int .i64 q, .int .i64 f, .int .i64 r] 73)
  have a5 := b5.alloc (.cells #[.int .i64 q, .int .i64 f, .int .i64 r] 73)
  have HNE := Lib.hid (show some w.heap.size ≠ v.ownBlock from fun e => by have := (b4.lt _ e.symm).2; omega)
  have hXw : X + 1 < w.heap.size := b5.lt
  obtain ⟨z0, _⟩ := blk1 a5
  obtain ⟨z1, _⟩ := blk1 a2
  obtain ⟨z2, _⟩ := blk1 a3
  have A3 := Lib.hid a3
  have A4 := Lib.hid a4
  have A5 := Lib.hid a5
  have hm1 : min prop 64 = prop := by omega
  have hm2 : min q 64 = q := by omega
  have k1 := bit_test hK60 (i := prop)
  have k2 := bit_test hK60 (i := q)
  have key := or_pow hK60 (show q < 60 by omega)
  have key2 := or_pow' hK60 (show q < 60 by omega)
  have Hx := Lib.hid (show addS prop l ((q : Int), f, r) = if (kS l).testBit prop || (kS l).testBit q then l else l ++ [((q : Int), f, r)] from rfl)
  clear hba hA a2 a3 a4 a5 b3 b4 b5 hgp
  generalize hKe : kS l = K at *
  cases hb1 : K.testBit prop with
  | true =>
    rw [hb1] at k1 Hx
    simp only [if_true] at k1
    have Hy := Lib.hid (show addS prop l ((q : Int), f, r) = l from Hx.out)
    clear Hx hb1 k2
    go_enter Tryd.func86, Tryd.ntmps86
    go_wp2_with fail
    refine bodyPost_end (results_none rfl _ _ _) rfl ?_
    exact ⟨rfl, by rw [Hy.out]; exact HA.out, Hb.out⟩
  | false =>
    rw [hb1] at k1 Hx
    simp only [Bool.false_eq_true, if_false] at k1
    cases hb2 : K.testBit q with
    | true =>
      rw [hb2] at k2 Hx
      simp only [if_true] at k2
      have Hy := Lib.hid (show addS prop l ((q : Int), f, r) = l from Hx.out)
      clear Hx hb1 hb2
      go_enter Tryd.func86, Tryd.ntmps86
      go_wp2_with fail
      refine bodyPost_end (results_none rfl _ _ _) rfl ?_
      exact ⟨rfl, by rw [Hy.out]; exact HA.out, Hb.out⟩
    | false =>
      rw [hb2] at k2 Hx
      simp only [Bool.false_eq_true, if_false] at k2
      have Hy := Lib.hid (show addS prop l ((q : Int), f, r) = l ++ [((q : Int), f, r)] from Hx.out)
      clear Hx hb1 hb2
      go_enter Tryd.func86, Tryd.ntmps86
      go_wp2_with (at_builtin; refine wpList_append_own _ rfl _ _ 53 rfl lo 73 j0 _ 3 24 Tryd.underlying53 hj hy0 hy1 hy2 rfl (by decide) _ _ _ rfl (A4.out.alloc _) ⟨w.heap.size + 1, 0, none⟩ 1 1 _ rfl rfl (cells_new' _ _ (by simp only [World.size_alloc]) [.int .i64 q, .int .i64 f, .int .i64 r] 73) (by simp [Value.oneCell']) (by simp only [maxLen]; omega) (by omega) (by simp only [World.size_alloc]; omega) ?_; intro v' w7 hown7 hg7 _; obtain ⟨A7, c7, rfl⟩ := own_slice hown7; have HR7 := (A3.out.alloc (.cells #[.int .i64 q, .int .i64 f, .int .i64 r] 73)).grown hg7 (own_ne A4.out (show X < lo by omega)); obtain ⟨q0, q1⟩ := blk1 HR7)
      have H7 := Lib.hid hown7
      have G7 := Lib.hid hg7
      have HN8 := ((A5.out.alloc (.cells #[.int .i64 q, .int .i64 f, .int .i64 r] 73)).grown hg7 (own_ne A4.out (show X + 1 < lo by omega))).far (show X + 1 ≠ X by omega) (p := ⟨X, 0, none⟩) (.slice A7 (l.length + 1) c7)
      have HS8 := ((HS.out.alloc (.cells #[.int .i64 q, .int .i64 f, .int .i64 r] 73)).grown hg7 HNE.out).far (show w.heap.size ≠ X by omega) (p := ⟨X, 0, none⟩) (.slice A7 (l.length + 1) c7)
      obtain ⟨y0, y1⟩ := blk1 HN8
      obtain ⟨x0, _⟩ := blk3 HS8
      have HD := Lib.hid (show Two X (X + 1) lo w w7 from (Hb.out.trans (Two.of_below ((Below.refl lo _).alloc (by simp only [World.size_alloc]; omega) (.cells #[.int .i64 q, .int .i64 f, .int .i64 r] 73)) (Nat.le_refl _))).grown hg7 (fun k hk => (A4.out.lt k hk).1) (by simp only [World.size_alloc]; omega))
      clear hown7 hg7 HR7 HN8 HS8 z0 z1 z2 s0 s1 s2 q0 q1 k1 k2
      go_region_with fail
      all_goals
        go_wp2_with fail
        refine bodyPost_end (results_none rfl _ _ _) rfl ?_
        refine ⟨rfl, by rw [Hy.out]; subst hKe; exact ExAt.snoc hX (A3.out.alloc _) (A5.out.alloc _) (A4.out.alloc _) G7.out H7.out, ((HD.out.put1 0 _).put2 0 _).drew⟩
end Go.Proofs.YtgoojcjfhghmgaaDoor


set_option linter.unusedSimpArgs false
namespace Go.Proofs.YtgoojcjfhghmgaaDoor
open Go.RowKit

theorem rg_out {b : Bk} {item K : Nat} {p f r : Int} (h : p < 0 ∨ b.p ≤ p) : rgR b item (p, f, r) K = false := by unfold rgR; exact if_pos h
theorem rg_own {b : Bk} {item K : Nat} {p f r : Int} (h : ¬ (p < 0 ∨ b.p ≤ p)) (hr : r = -1) : rgR b item (p, f, r) K = (decide (0 ≤ f) && decide (f < b.its.length) && (cnS b item).testBit f.toNat && ((b.its[f.toNat]?.getD ([], [])).2).contains p) := by
  unfold rgR; exact (if_neg h).trans (if_pos hr)
theorem rg_rule {b : Bk} {item K : Nat} {p f r : Int} (h : ¬ (p < 0 ∨ b.p ≤ p)) (hr : r ≠ -1) : rgR b item (p, f, r) K = (decide (f = -1) && decide (0 ≤ r) && decide (r < b.rus.length) && decide ((b.rus[r.toNat]?.getD ([], 0)).2 = p) && allB K (natL (b.rus[r.toNat]?.getD ([], 0)).1)) := by
  unfold rgR; exact (if_neg h).trans (if_neg hr)

set_option maxRecDepth 100000 in
set_option maxHeartbeats 2000000 in
theorem right_ref (AI AR : Option Addr) (cI cR B g c' n : Nat) (b : Bk) (item : Nat) (p f r : Int) (K : Nat) (w : World) (hn : b.p = (n : Int)) (hB : B ≤ w.heap.size) (h : ItsAt B w AI b.its) (h' : RusAt B w AR b.rus) (hbr : BR g n K w) (hs : Short b) (hv : VBk b) (hi : item < b.its.length) :
    Calls Tryd.prog 88 #[.agg #[.int .i64 b.p, .slice AI b.its.length cI, .slice AR b.rus.length cR], .int .i64 item, .agg #[.int .i64 p, .int .i64 f, .int .i64 r], .slice (some ⟨g, 0, none⟩) n c'] w fun e w' => e = .returned (.bool (rgR b item (p, f, r) K)) ∧ Below w.heap.size w w' := by
  rw [hn]
  have HN := Lib.hid hn
  clear hn
  obtain ⟨W0, hW0⟩ : ∃ W0, W0 = (w.alloc (.cells #[.int .i64 n, .slice AI b.its.length cI, .slice AR b.rus.length cR] 25)).alloc (.cells #[.int .i64 p, .int .i64 f, .int .i64 r] 73) := ⟨_, rfl⟩
  have hw0 : Below w.heap.size w W0 := by rw [hW0]; exact balloc (balloc (Below.refl _ _) _) _
  have hb0 : Blk W0 w.heap.size 25 #[.int .i64 n, .slice AI b.its.length cI, .slice AR b.rus.length cR] := by rw [hW0]; exact (Blk.new w 25 _).alloc _
  have hb1 : Blk W0 (w.heap.size + 1) 73 #[.int .i64 p, .int .i64 f, .int .i64 r] := by rw [hW0]; exact blk_new' (by simp only [World.size_alloc])
  have hlt : w.heap.size < W0.heap.size := hb0.lt
  have hI := (h.below (Below.refl _ _) hB).below hw0 (Nat.le_of_lt hlt)
  have hR := (h'.below (Below.refl _ _) hB).below hw0 (Nat.le_of_lt hlt)
  have hK := hbr.below hw0 hbr.1
  have Hw := Lib.hid hw0
  have Keep := Lib.hid (fun W (hW : Below W0.heap.size W0 W) => show W.cell? ⟨w.heap.size, 0, none⟩ = some (.int .i64 n) ∧ W.cell? ⟨w.heap.size, 1, none⟩ = some (.slice AI b.its.length cI) ∧ W.cell? ⟨w.heap.size, 2, none⟩ = some (.slice AR b.rus.length cR) ∧ W.cell? ⟨w.heap.size + 1, 0, none⟩ = some (.int .i64 p) ∧ W.cell? ⟨w.heap.size + 1, 1, none⟩ = some (.int .i64 f) ∧ W.cell? ⟨w.heap.size + 1, 2, none⟩ = some (.int .i64 r) ∧ Below W0.heap.size W0 W from by
    obtain ⟨z0, z1, z2, _⟩ := blk3 (hb0.below hW hlt)
    obtain ⟨y0, y1, y2, _⟩ := blk3 (hb1.below hW hb1.lt)
    exact ⟨z0, z1, z2, y0, y1, y2, hW⟩)
  by_cases h1 : p < 0
  · have Hr := Lib.hid (rg_out (b := b) (item := item) (K := K) (f := f) (r := r) (.inl h1))
    rw [Hr.out]
    have h1d : decide (p < 0) = true := by simpa using h1
    clear h h' hI hR hK hbr hs hv hi hb0 hb1 hw0 hW0
    go_enter Tryd.func88, Tryd.ntmps88
    go_wp2_with fail
    go_ret
    exact ⟨rfl, balloc (balloc (Below.refl _ _) _) _⟩
  have h1d : decide (p < 0) = false := by simpa using h1
  by_cases h2 : (n : Int) ≤ p
  · have Hr := Lib.hid (rg_out (b := b) (item := item) (K := K) (f := f) (r := r) (.inr (show b.p ≤ p by rw [HN.out]; exact h2)))
    rw [Hr.out]
    have h2d : decide ((n : Int) ≤ p) = true := by simpa using h2
    clear h h' hI hR hK hbr hs hv hi hb0 hb1 hw0 hW0
    go_enter Tryd.func88, Tryd.ntmps88
    go_wp2_with fail
    go_ret
    exact ⟨rfl, balloc (balloc (Below.refl _ _) _) _⟩
  have h2d : decide ((n : Int) ≤ p) = false := by simpa using h2
  have h12 : ¬ (p < 0 ∨ b.p ≤ p) := by rw [HN.out]; omega
  by_cases h3 : r = -1
  · subst h3
    rw [rg_own h12 rfl]
    by_cases h4 : f < 0
    · have e1 : decide (0 ≤ f) = false := by simp; omega
      rw [e1, Bool.false_and, Bool.false_and, Bool.false_and]
      clear h h' hI hR hK hbr hs hv hi hb0 hb1 hw0
      go_enter Tryd.func88, Tryd.ntmps88
      go_wp2_with fail
      rw [← hW0]
      clear hW0
      have hS := Keep.out _ (Below.refl W0.heap.size W0).drew
      refine wp_region_E (S := fun W => W.cell? ⟨w.heap.size, 0, none⟩ = some (.int .i64 n) ∧ W.cell? ⟨w.heap.size, 1, none⟩ = some (.slice AI b.its.length cI) ∧ W.cell? ⟨w.heap.size, 2, none⟩ = some (.slice AR b.rus.length cR) ∧ W.cell? ⟨w.heap.size + 1, 0, none⟩ = some (.int .i64 p) ∧ W.cell? ⟨w.heap.size + 1, 1, none⟩ = some (.int .i64 f) ∧ W.cell? ⟨w.heap.size + 1, 2, none⟩ = some (.int .i64 (-1)) ∧ Below W0.heap.size W0 W) (E := fun _ => false) (by kernel_rfl) ?_
      refine anyE_tk 0 22 (oi := ?oi1) (v := ?v1) ?hi1 ?hd1 (by kernel_rfl) (by kernel_rfl) (by kernel_rfl) ?hQ1 ?hy1 hS ?rest1
      case hi1 => simp only [List.getElem?_toArray, List.getElem?_cons_zero, List.getElem?_cons_succ]; rfl
      case hd1 => rfl
      case hQ1 => exact fun _ _ _ h => h
      case hy1 => (refine Or.inl ⟨by rfl, ?_⟩; intro w hSw; (try dsimp only at hSw); go_simp; try with_reducible rfl)
      simp only [List.setIfInBounds_toArray, List.set_cons_zero, List.set_cons_succ]
      refine anyE_tk 1 23 (oi := ?oi2) (v := ?v2) ?hi2 ?hd2 (by kernel_rfl) (by kernel_rfl) (by kernel_rfl) ?hQ2 ?hy2 hS ?rest2
      case hi2 => simp only [List.getElem?_toArray, List.getElem?_cons_zero, List.getElem?_cons_succ]; rfl
      case hd2 => rfl
      case hQ2 => exact fun _ _ _ h => h
      case hy2 => (refine Or.inl ⟨by rfl, ?_⟩; intro w hSw; (try dsimp only at hSw); go_simp; try with_reducible rfl)
      simp only [List.setIfInBounds_toArray, List.set_cons_zero, List.set_cons_succ]
      refine anyE_tk 2 24 (oi := ?oi3) (v := ?v3) ?hi3 ?hd3 (by kernel_rfl) (by kernel_rfl) (by kernel_rfl) ?hQ3 ?hy3 hS ?rest3
      case hi3 => simp only [List.getElem?_toArray, List.getElem?_cons_zero, List.getElem?_cons_succ]; rfl
      case hd3 => rfl
      case hQ3 => exact fun _ _ _ h => h
      case hy3 => (refine Or.inl ⟨by rfl, ?_⟩; intro w hSw; (try dsimp only at hSw); go_simp; try with_reducible rfl)
      simp only [List.setIfInBounds_toArray, List.set_cons_zero, List.set_cons_succ]
      refine anyE_tk 3 25 (oi := ?oi4) (v := ?v4) ?hi4 ?hd4 (by kernel_rfl) (by kernel_rfl) (by kernel_rfl) ?hQ4 ?hy4 hS ?rest4
      case hi4 => simp only [List.getElem?_toArray, List.getElem?_cons_zero, List.getElem?_cons_succ]; rfl
      case hd4 => rfl
      case hQ4 => exact fun _ _ _ h => h
      case hy4 => (refine Or.inl ⟨by rfl, ?_⟩; intro w hSw; (try dsimp only at hSw); go_simp; try with_reducible rfl)
      simp only [List.setIfInBounds_toArray, List.set_cons_zero, List.set_cons_succ]
      refine anyE_tk 4 26 (oi := ?oi5) (v := undef) ?hi5 ?hd5 (by kernel_rfl) (by kernel_rfl) (by kernel_rfl) ?hQ5 ?hy5 hS ?rest5
      case hi5 => simp only [List.getElem?_toArray, List.getElem?_cons_zero, List.getElem?_cons_succ]; rfl
      case hd5 => rfl
      case hQ5 => exact fun _ _ _ h => h
      case hy5 => exact Or.inr ⟨by rfl, rfl⟩
      simp only [List.setIfInBounds_toArray, List.set_cons_zero, List.set_cons_succ]
      refine anyE_tk 5 27 (oi := ?oi6) (v := undef) ?hi6 ?hd6 (by kernel_rfl) (by kernel_rfl) (by kernel_rfl) ?hQ6 ?hy6 hS ?rest6
      case hi6 => simp only [List.getElem?_toArray, List.getElem?_cons_zero, List.getElem?_cons_succ]; rfl
      case hd6 => rfl
      case hQ6 => exact fun _ _ _ h => h
      case hy6 => exact Or.inr ⟨by rfl, rfl⟩
      simp only [List.setIfInBounds_toArray, List.set_cons_zero, List.set_cons_succ]
      refine anyE_tk 6 28 (oi := ?oi7) (v := undef) ?hi7 ?hd7 (by kernel_rfl) (by kernel_rfl) (by kernel_rfl) ?hQ7 ?hy7 hS ?rest7
      case hi7 => simp only [List.getElem?_toArray, List.getElem?_cons_zero, List.getElem?_cons_succ]; rfl
      case hd7 => rfl
      case hQ7 => exact fun _ _ _ h => h
      case hy7 => exact Or.inr ⟨by rfl, rfl⟩
      simp only [List.setIfInBounds_toArray, List.set_cons_zero, List.set_cons_succ]
      refine anyE_tk 7 29 (oi := ?oi8) (v := undef) ?hi8 ?hd8 (by kernel_rfl) (by kernel_rfl) (by kernel_rfl) ?hQ8 ?hy8 hS ?rest8
      case hi8 => simp only [List.getElem?_toArray, List.getElem?_cons_zero, List.getElem?_cons_succ]; rfl
      case hd8 => rfl
      case hQ8 => exact fun _ _ _ h => h
      case hy8 => exact Or.inr ⟨by rfl, rfl⟩
      simp only [List.setIfInBounds_toArray, List.set_cons_zero, List.set_cons_succ]
      refine anyE_tk 8 30 (oi := ?oi9) (v := undef) ?hi9 ?hd9 (by kernel_rfl) (by kernel_rfl) (by kernel_rfl) ?hQ9 ?hy9 hS ?rest9
      case hi9 => simp only [List.getElem?_toArray, List.getElem?_cons_zero, List.getElem?_cons_succ]; rfl
      case hd9 => rfl
      case hQ9 => exact fun _ _ _ h => h
      case hy9 => exact Or.inr ⟨by rfl, rfl⟩
      simp only [List.setIfInBounds_toArray, List.set_cons_zero, List.set_cons_succ]
      refine anyE_tk 9 31 (oi := ?oi10) (v := undef) ?hi10 ?hd10 (by kernel_rfl) (by kernel_rfl) (by kernel_rfl) ?hQ10 ?hy10 hS ?rest10
      case hi10 => simp only [List.getElem?_toArray, List.getElem?_cons_zero, List.getElem?_cons_succ]; rfl
      case hd10 => rfl
      case hQ10 => exact fun _ _ _ h => h
      case hy10 => exact Or.inr ⟨by rfl, rfl⟩
      simp only [List.setIfInBounds_toArray, List.set_cons_zero, List.set_cons_succ]
      refine anyE_tk 10 32 (oi := ?oi11) (v := ?v11) ?hi11 ?hd11 (by kernel_rfl) (by kernel_rfl) (by kernel_rfl) ?hQ11 ?hy11 hS ?rest11
      case hi11 => simp only [List.getElem?_toArray, List.getElem?_cons_zero, List.getElem?_cons_succ]; rfl
      case hd11 => rfl
      case hQ11 => exact fun _ _ _ h => h
      case hy11 => (refine Or.inl ⟨by rfl, ?_⟩; intro w hSw; (try dsimp only at hSw); go_simp; try with_reducible rfl)
      simp only [List.setIfInBounds_toArray, List.set_cons_zero, List.set_cons_succ]
      refine anyE_tk 11 33 (oi := ?oi12) (v := ?v12) ?hi12 ?hd12 (by kernel_rfl) (by kernel_rfl) (by kernel_rfl) ?hQ12 ?hy12 hS ?rest12
      case hi12 => simp only [List.getElem?_toArray, List.getElem?_cons_zero, List.getElem?_cons_succ]; rfl
      case hd12 => rfl
      case hQ12 => exact fun _ _ _ h => h
      case hy12 => (refine Or.inl ⟨by rfl, ?_⟩; intro w hSw; (try dsimp only at hSw); go_simp; try with_reducible rfl)
      simp only [List.setIfInBounds_toArray, List.set_cons_zero, List.set_cons_succ]
      refine anyE_tk 12 34 (oi := ?oi13) (v := undef) ?hi13 ?hd13 (by kernel_rfl) (by kernel_rfl) (by kernel_rfl) ?hQ13 ?hy13 hS ?rest13
      case hi13 => simp only [List.getElem?_toArray, List.getElem?_cons_zero, List.getElem?_cons_succ]; rfl
      case hd13 => rfl
      case hQ13 => exact fun _ _ _ h => h
      case hy13 => exact Or.inr ⟨by rfl, rfl⟩
      simp only [List.setIfInBounds_toArray, List.set_cons_zero, List.set_cons_succ]
      refine anyE_tk 13 35 (oi := ?oi14) (v := undef) ?hi14 ?hd14 (by kernel_rfl) (by kernel_rfl) (by kernel_rfl) ?hQ14 ?hy14 hS ?rest14
      case hi14 => simp only [List.getElem?_toArray, List.getElem?_cons_zero, List.getElem?_cons_succ]; rfl
      case hd14 => rfl
      case hQ14 => exact fun _ _ _ h => h
      case hy14 => exact Or.inr ⟨by rfl, rfl⟩
      simp only [List.setIfInBounds_toArray, List.set_cons_zero, List.set_cons_succ]
      refine anyE_tk 14 36 (oi := ?oi15) (v := undef) ?hi15 ?hd15 (by kernel_rfl) (by kernel_rfl) (by kernel_rfl) ?hQ15 ?hy15 hS ?rest15
      case hi15 => simp only [List.getElem?_toArray, List.getElem?_cons_zero, List.getElem?_cons_succ]; rfl
      case hd15 => rfl
      case hQ15 => exact fun _ _ _ h => h
      case hy15 => exact Or.inr ⟨by rfl, rfl⟩
      simp only [List.setIfInBounds_toArray, List.set_cons_zero, List.set_cons_succ]
      refine anyE_tk 15 37 (oi := ?oi16) (v := undef) ?hi16 ?hd16 (by kernel_rfl) (by kernel_rfl) (by kernel_rfl) ?hQ16 ?hy16 hS ?rest16
      case hi16 => simp only [List.getElem?_toArray, List.getElem?_cons_zero, List.getElem?_cons_succ]; rfl
      case hd16 => rfl
      case hQ16 => exact fun _ _ _ h => h
      case hy16 => exact Or.inr ⟨by rfl, rfl⟩
      simp only [List.setIfInBounds_toArray, List.set_cons_zero, List.set_cons_succ]
      refine anyE_tk 16 38 (oi := ?oi17) (v := undef) ?hi17 ?hd17 (by kernel_rfl) (by kernel_rfl) (by kernel_rfl) ?hQ17 ?hy17 hS ?rest17
      case hi17 => simp only [List.getElem?_toArray, List.getElem?_cons_zero, List.getElem?_cons_succ]; rfl
      case hd17 => rfl
      case hQ17 => exact fun _ _ _ h => h
      case hy17 => exact Or.inr ⟨by rfl, rfl⟩
      simp only [List.setIfInBounds_toArray, List.set_cons_zero, List.set_cons_succ]
      refine anyE_tk 17 39 (oi := ?oi18) (v := undef) ?hi18 ?hd18 (by kernel_rfl) (by kernel_rfl) (by kernel_rfl) ?hQ18 ?hy18 hS ?rest18
      case hi18 => simp only [List.getElem?_toArray, List.getElem?_cons_zero, List.getElem?_cons_succ]; rfl
      case hd18 => rfl
      case hQ18 => exact fun _ _ _ h => h
      case hy18 => exact Or.inr ⟨by rfl, rfl⟩
      simp only [List.setIfInBounds_toArray, List.set_cons_zero, List.set_cons_succ]
      refine anyE_tk 18 40 (oi := ?oi19) (v := undef) ?hi19 ?hd19 (by kernel_rfl) (by kernel_rfl) (by kernel_rfl) ?hQ19 ?hy19 hS ?rest19
      case hi19 => simp only [List.getElem?_toArray, List.getElem?_cons_zero, List.getElem?_cons_succ]; rfl
      case hd19 => rfl
      case hQ19 => exact fun _ _ _ h => h
      case hy19 => exact Or.inr ⟨by rfl, rfl⟩
      simp only [List.setIfInBounds_toArray, List.set_cons_zero, List.set_cons_succ]
      refine anyE_tk 19 41 (oi := ?oi20) (v := ?v20) ?hi20 ?hd20 (by kernel_rfl) (by kernel_rfl) (by kernel_rfl) ?hQ20 ?hy20 hS ?rest20
      case hi20 => simp only [List.getElem?_toArray, List.getElem?_cons_zero, List.getElem?_cons_succ]; rfl
      case hd20 => rfl
      case hQ20 => exact fun _ _ _ h => h
      case hy20 => (refine Or.inl ⟨by rfl, ?_⟩; intro w hSw; (try dsimp only at hSw); go_simp; try with_reducible rfl)
      simp only [List.setIfInBounds_toArray, List.set_cons_zero, List.set_cons_succ]
      refine anyE_tk 20 42 (oi := ?oi21) (v := ?v21) ?hi21 ?hd21 (by kernel_rfl) (by kernel_rfl) (by kernel_rfl) ?hQ21 ?hy21 hS ?rest21
      case hi21 => simp only [List.getElem?_toArray, List.getElem?_cons_zero, List.getElem?_cons_succ]; rfl
      case hd21 => rfl
      case hQ21 => exact fun _ _ _ h => h
      case hy21 => (refine Or.inl ⟨by rfl, ?_⟩; intro w hSw; (try dsimp only at hSw); go_simp; try with_reducible rfl)
      simp only [List.setIfInBounds_toArray, List.set_cons_zero, List.set_cons_succ]
      refine anyE_tk 21 43 (oi := ?oi22) (v := undef) ?hi22 ?hd22 (by kernel_rfl) (by kernel_rfl) (by kernel_rfl) ?hQ22 ?hy22 hS ?rest22
      case hi22 => simp only [List.getElem?_toArray, List.getElem?_cons_zero, List.getElem?_cons_succ]; rfl
      case hd22 => rfl
      case hQ22 => exact fun _ _ _ h => h
      case hy22 => exact Or.inr ⟨by rfl, rfl⟩
      simp only [List.setIfInBounds_toArray, List.set_cons_zero, List.set_cons_succ]
      refine anyE_tk 22 44 (oi := ?oi23) (v := undef) ?hi23 ?hd23 (by kernel_rfl) (by kernel_rfl) (by kernel_rfl) ?hQ23 ?hy23 hS ?rest23
      case hi23 => simp only [List.getElem?_toArray, List.getElem?_cons_zero, List.getElem?_cons_succ]; rfl
      case hd23 => rfl
      case hQ23 => exact fun _ _ _ h => h
      case hy23 => exact Or.inr ⟨by rfl, rfl⟩
      simp only [List.setIfInBounds_toArray, List.set_cons_zero, List.set_cons_succ]
      refine anyE_tk 23 45 (oi := ?oi24) (v := undef) ?hi24 ?hd24 (by kernel_rfl) (by kernel_rfl) (by kernel_rfl) ?hQ24 ?hy24 hS ?rest24
      case hi24 => simp only [List.getElem?_toArray, List.getElem?_cons_zero, List.getElem?_cons_succ]; rfl
      case hd24 => rfl
      case hQ24 => exact fun _ _ _ h => h
      case hy24 => exact Or.inr ⟨by rfl, rfl⟩
      simp only [List.setIfInBounds_toArray, List.set_cons_zero, List.set_cons_succ]
      refine anyE_tk 24 46 (oi := ?oi25) (v := undef) ?hi25 ?hd25 (by kernel_rfl) (by kernel_rfl) (by kernel_rfl) ?hQ25 ?hy25 hS ?rest25
      case hi25 => simp only [List.getElem?_toArray, List.getElem?_cons_zero, List.getElem?_cons_succ]; rfl
      case hd25 => rfl
      case hQ25 => exact fun _ _ _ h => h
      case hy25 => exact Or.inr ⟨by rfl, rfl⟩
      simp only [List.setIfInBounds_toArray, List.set_cons_zero, List.set_cons_succ]
      refine anyE_tk 25 47 (oi := ?oi26) (v := undef) ?hi26 ?hd26 (by kernel_rfl) (by kernel_rfl) (by kernel_rfl) ?hQ26 ?hy26 hS ?rest26
      case hi26 => simp only [List.getElem?_toArray, List.getElem?_cons_zero, List.getElem?_cons_succ]; rfl
      case hd26 => rfl
      case hQ26 => exact fun _ _ _ h => h
      case hy26 => exact Or.inr ⟨by rfl, rfl⟩
      simp only [List.setIfInBounds_toArray, List.set_cons_zero, List.set_cons_succ]
      refine anyE_tk 26 48 (oi := ?oi27) (v := undef) ?hi27 ?hd27 (by kernel_rfl) (by kernel_rfl) (by kernel_rfl) ?hQ27 ?hy27 hS ?rest27
      case hi27 => simp only [List.getElem?_toArray, List.getElem?_cons_zero, List.getElem?_cons_succ]; rfl
      case hd27 => rfl
      case hQ27 => exact fun _ _ _ h => h
      case hy27 => exact Or.inr ⟨by rfl, rfl⟩
      simp only [List.setIfInBounds_toArray, List.set_cons_zero, List.set_cons_succ]
      refine anyE_tk 27 49 (oi := ?oi28) (v := undef) ?hi28 ?hd28 (by kernel_rfl) (by kernel_rfl) (by kernel_rfl) ?hQ28 ?hy28 hS ?rest28
      case hi28 => simp only [List.getElem?_toArray, List.getElem?_cons_zero, List.getElem?_cons_succ]; rfl
      case hd28 => rfl
      case hQ28 => exact fun _ _ _ h => h
      case hy28 => exact Or.inr ⟨by rfl, rfl⟩
      simp only [List.setIfInBounds_toArray, List.set_cons_zero, List.set_cons_succ]
      refine anyE_tk 28 50 (oi := ?oi29) (v := undef) ?hi29 ?hd29 (by kernel_rfl) (by kernel_rfl) (by kernel_rfl) ?hQ29 ?hy29 hS ?rest29
      case hi29 => simp only [List.getElem?_toArray, List.getElem?_cons_zero, List.getElem?_cons_succ]; rfl
      case hd29 => rfl
      case hQ29 => exact fun _ _ _ h => h
      case hy29 => exact Or.inr ⟨by rfl, rfl⟩
      simp only [List.setIfInBounds_toArray, List.set_cons_zero, List.set_cons_succ]
      refine anyE_tk 29 51 (oi := ?oi30) (v := undef) ?hi30 ?hd30 (by kernel_rfl) (by kernel_rfl) (by kernel_rfl) ?hQ30 ?hy30 hS ?rest30
      case hi30 => simp only [List.getElem?_toArray, List.getElem?_cons_zero, List.getElem?_cons_succ]; rfl
      case hd30 => rfl
      case hQ30 => exact fun _ _ _ h => h
      case hy30 => exact Or.inr ⟨by rfl, rfl⟩
      simp only [List.setIfInBounds_toArray, List.set_cons_zero, List.set_cons_succ]
      refine anyE_tk 30 52 (oi := ?oi31) (v := undef) ?hi31 ?hd31 (by kernel_rfl) (by kernel_rfl) (by kernel_rfl) ?hQ31 ?hy31 hS ?rest31
      case hi31 => simp only [List.getElem?_toArray, List.getElem?_cons_zero, List.getElem?_cons_succ]; rfl
      case hd31 => rfl
      case hQ31 => exact fun _ _ _ h => h
      case hy31 => exact Or.inr ⟨by rfl, rfl⟩
      simp only [List.setIfInBounds_toArray, List.set_cons_zero, List.set_cons_succ]
      refine anyE_tk 31 53 (oi := ?oi32) (v := ?v32) ?hi32 ?hd32 (by kernel_rfl) (by kernel_rfl) (by kernel_rfl) ?hQ32 ?hy32 hS ?rest32
      case hi32 => simp only [List.getElem?_toArray, List.getElem?_cons_zero, List.getElem?_cons_succ]; rfl
      case hd32 => rfl
      case hQ32 => exact fun _ _ _ h => h
      case hy32 => (refine Or.inl ⟨by rfl, ?_⟩; intro w hSw; (try dsimp only at hSw); go_simp; try with_reducible rfl)
      simp only [List.setIfInBounds_toArray, List.set_cons_zero, List.set_cons_succ]
      refine anyE_tk 32 8 (oi := ?oi33) (v := ?v33) ?hi33 ?hd33 (by kernel_rfl) (by kernel_rfl) (by kernel_rfl) ?hQ33 ?hy33 hS ?rest33
      case hi33 => simp only [List.getElem?_toArray, List.getElem?_cons_zero, List.getElem?_cons_succ]; rfl
      case hd33 => rfl
      case hQ33 => exact fun _ _ _ h => h
      case hy33 => (refine Or.inl ⟨by rfl, ?_⟩; intro w hSw; (try dsimp only at hSw); go_simp; try with_reducible rfl)
      simp only [List.setIfInBounds_toArray, List.set_cons_zero, List.set_cons_succ]
      refine anyE_done (by kernel_rfl) ?_ _
      go_wp2_with fail
      go_ret
      exact ⟨rfl, Hw.out.trans (Below.mono ((Below.refl W0.heap.size W0).drew) Hw.out.size)⟩
    have e1 : decide (0 ≤ f) = true := by simp; omega
    rw [e1, Bool.true_and]
    by_cases h5 : (b.its.length : Int) ≤ f
    · have e2 : decide (f < (b.its.length : Int)) = false := by simp; omega
      rw [e2, Bool.false_and, Bool.false_and]
      clear h h' hI hR hK hbr hs hv hi hb0 hb1 hw0
      go_enter Tryd.func88, Tryd.ntmps88
      go_wp2_with fail
      rw [← hW0]
      clear hW0
      have hS := Keep.out _ (Below.refl W0.heap.size W0).drew
      refine wp_region_E (S := fun W => W.cell? ⟨w.heap.size, 0, none⟩ = some (.int .i64 n) ∧ W.cell? ⟨w.heap.size, 1, none⟩ = some (.slice AI b.its.length cI) ∧ W.cell? ⟨w.heap.size, 2, none⟩ = some (.slice AR b.rus.length cR) ∧ W.cell? ⟨w.heap.size + 1, 0, none⟩ = some (.int .i64 p) ∧ W.cell? ⟨w.heap.size + 1, 1, none⟩ = some (.int .i64 f) ∧ W.cell? ⟨w.heap.size + 1, 2, none⟩ = some (.int .i64 (-1)) ∧ Below W0.heap.size W0 W) (E := fun _ => false) (by kernel_rfl) ?_
      refine anyE_tk 0 22 (oi := ?oi34) (v := ?v34) ?hi34 ?hd34 (by kernel_rfl) (by kernel_rfl) (by kernel_rfl) ?hQ34 ?hy34 hS ?rest34
      case hi34 => simp only [List.getElem?_toArray, List.getElem?_cons_zero, List.getElem?_cons_succ]; rfl
      case hd34 => rfl
      case hQ34 => exact fun _ _ _ h => h
      case hy34 => (refine Or.inl ⟨by rfl, ?_⟩; intro w hSw; (try dsimp only at hSw); go_simp; try with_reducible rfl)
      simp only [List.setIfInBounds_toArray, List.set_cons_zero, List.set_cons_succ]
      refine anyE_tk 1 23 (oi := ?oi35) (v := ?v35) ?hi35 ?hd35 (by kernel_rfl) (by kernel_rfl) (by kernel_rfl) ?hQ35 ?hy35 hS ?rest35
      case hi35 => simp only [List.getElem?_toArray, List.getElem?_cons_zero, List.getElem?_cons_succ]; rfl
      case hd35 => rfl
      case hQ35 => exact fun _ _ _ h => h
      case hy35 => (refine Or.inl ⟨by rfl, ?_⟩; intro w hSw; (try dsimp only at hSw); go_simp; try with_reducible rfl)
      simp only [List.setIfInBounds_toArray, List.set_cons_zero, List.set_cons_succ]
      refine anyE_tk 2 24 (oi := ?oi36) (v := ?v36) ?hi36 ?hd36 (by kernel_rfl) (by kernel_rfl) (by kernel_rfl) ?hQ36 ?hy36 hS ?rest36
      case hi36 => simp only [List.getElem?_toArray, List.getElem?_cons_zero, List.getElem?_cons_succ]; rfl
      case hd36 => rfl
      case hQ36 => exact fun _ _ _ h => h
      case hy36 => (refine Or.inl ⟨by rfl, ?_⟩; intro w hSw; (try dsimp only at hSw); go_simp; try with_reducible rfl)
      simp only [List.setIfInBounds_toArray, List.set_cons_zero, List.set_cons_succ]
      refine anyE_tk 3 25 (oi := ?oi37) (v := ?v37) ?hi37 ?hd37 (by kernel_rfl) (by kernel_rfl) (by kernel_rfl) ?hQ37 ?hy37 hS ?rest37
      case hi37 => simp only [List.getElem?_toArray, List.getElem?_cons_zero, List.getElem?_cons_succ]; rfl
      case hd37 => rfl
      case hQ37 => exact fun _ _ _ h => h
      case hy37 => (refine Or.inl ⟨by rfl, ?_⟩; intro w hSw; (try dsimp only at hSw); go_simp; try with_reducible rfl)
      simp only [List.setIfInBounds_toArray, List.set_cons_zero, List.set_cons_succ]
      refine anyE_tk 4 26 (oi := ?oi38) (v := ?v38) ?hi38 ?hd38 (by kernel_rfl) (by kernel_rfl) (by kernel_rfl) ?hQ38 ?hy38 hS ?rest38
      case hi38 => simp only [List.getElem?_toArray, List.getElem?_cons_zero, List.getElem?_cons_succ]; rfl
      case hd38 => rfl
      case hQ38 => exact fun _ _ _ h => h
      case hy38 => (refine Or.inl ⟨by rfl, ?_⟩; intro w hSw; (try dsimp only at hSw); go_simp; try with_reducible rfl)
      simp only [List.setIfInBounds_toArray, List.set_cons_zero, List.set_cons_succ]
      refine anyE_tk 5 27 (oi := ?oi39) (v := ?v39) ?hi39 ?hd39 (by kernel_rfl) (by kernel_rfl) (by kernel_rfl) ?hQ39 ?hy39 hS ?rest39
      case hi39 => simp only [List.getElem?_toArray, List.getElem?_cons_zero, List.getElem?_cons_succ]; rfl
      case hd39 => rfl
      case hQ39 => exact fun _ _ _ h => h
      case hy39 => (refine Or.inl ⟨by rfl, ?_⟩; intro w hSw; (try dsimp only at hSw); go_simp; try with_reducible rfl)
      simp only [List.setIfInBounds_toArray, List.set_cons_zero, List.set_cons_succ]
      refine anyE_tk 6 28 (oi := ?oi40) (v := ?v40) ?hi40 ?hd40 (by kernel_rfl) (by kernel_rfl) (by kernel_rfl) ?hQ40 ?hy40 hS ?rest40
      case hi40 => simp only [List.getElem?_toArray, List.getElem?_cons_zero, List.getElem?_cons_succ]; rfl
      case hd40 => rfl
      case hQ40 => exact fun _ _ _ h => h
      case hy40 => (refine Or.inl ⟨by rfl, ?_⟩; intro w hSw; (try dsimp only at hSw); go_simp; try with_reducible rfl)
      simp only [List.setIfInBounds_toArray, List.set_cons_zero, List.set_cons_succ]
      refine anyE_tk 7 29 (oi := ?oi41) (v := ?v41) ?hi41 ?hd41 (by kernel_rfl) (by kernel_rfl) (by kernel_rfl) ?hQ41 ?hy41 hS ?rest41
      case hi41 => simp only [List.getElem?_toArray, List.getElem?_cons_zero, List.getElem?_cons_succ]; rfl
      case hd41 => rfl
      case hQ41 => exact fun _ _ _ h => h
      case hy41 => (refine Or.inl ⟨by rfl, ?_⟩; intro w hSw; (try dsimp only at hSw); go_simp; try with_reducible rfl)
      simp only [List.setIfInBounds_toArray, List.set_cons_zero, List.set_cons_succ]
      refine anyE_tk 8 30 (oi := ?oi42) (v := ?v42) ?hi42 ?hd42 (by kernel_rfl) (by kernel_rfl) (by kernel_rfl) ?hQ42 ?hy42 hS ?rest42
      case hi42 => simp only [List.getElem?_toArray, List.getElem?_cons_zero, List.getElem?_cons_succ]; rfl
      case hd42 => rfl
      case hQ42 => exact fun _ _ _ h => h
      case hy42 => (refine Or.inl ⟨by rfl, ?_⟩; intro w hSw; (try dsimp only at hSw); go_simp; try with_reducible rfl)
      simp only [List.setIfInBounds_toArray, List.set_cons_zero, List.set_cons_succ]
      refine anyE_tk 9 31 (oi := ?oi43) (v := ?v43) ?hi43 ?hd43 (by kernel_rfl) (by kernel_rfl) (by kernel_rfl) ?hQ43 ?hy43 hS ?rest43
      case hi43 => simp only [List.getElem?_toArray, List.getElem?_cons_zero, List.getElem?_cons_succ]; rfl
      case hd43 => rfl
      case hQ43 => exact fun _ _ _ h => h
      case hy43 => (refine Or.inl ⟨by rfl, ?_⟩; intro w hSw; (try dsimp only at hSw); go_simp; try with_reducible rfl)
      simp only [List.setIfInBounds_toArray, List.set_cons_zero, List.set_cons_succ]
      refine anyE_tk 10 32 (oi := ?oi44) (v := ?v44) ?hi44 ?hd44 (by kernel_rfl) (by kernel_rfl) (by kernel_rfl) ?hQ44 ?hy44 hS ?rest44
      case hi44 => simp only [List.getElem?_toArray, List.getElem?_cons_zero, List.getElem?_cons_succ]; rfl
      case hd44 => rfl
      case hQ44 => exact fun _ _ _ h => h
      case hy44 => (refine Or.inl ⟨by rfl, ?_⟩; intro w hSw; (try dsimp only at hSw); go_simp; try with_reducible rfl)
      simp only [List.setIfInBounds_toArray, List.set_cons_zero, List.set_cons_succ]
      refine anyE_tk 11 33 (oi := ?oi45) (v := ?v45) ?hi45 ?hd45 (by kernel_rfl) (by kernel_rfl) (by kernel_rfl) ?hQ45 ?hy45 hS ?rest45
      case hi45 => simp only [List.getElem?_toArray, List.getElem?_cons_zero, List.getElem?_cons_succ]; rfl
      case hd45 => rfl
      case hQ45 => exact fun _ _ _ h => h
      case hy45 => (refine Or.inl ⟨by rfl, ?_⟩; intro w hSw; (try dsimp only at hSw); go_simp; try with_reducible rfl)
      simp only [List.setIfInBounds_toArray, List.set_cons_zero, List.set_cons_succ]
      refine anyE_tk 12 34 (oi := ?oi46) (v := undef) ?hi46 ?hd46 (by kernel_rfl) (by kernel_rfl) (by kernel_rfl) ?hQ46 ?hy46 hS ?rest46
      case hi46 => simp only [List.getElem?_toArray, List.getElem?_cons_zero, List.getElem?_cons_succ]; rfl
      case hd46 => rfl
      case hQ46 => exact fun _ _ _ h => h
      case hy46 => exact Or.inr ⟨by rfl, rfl⟩
      simp only [List.setIfInBounds_toArray, List.set_cons_zero, List.set_cons_succ]
      refine anyE_tk 13 35 (oi := ?oi47) (v := undef) ?hi47 ?hd47 (by kernel_rfl) (by kernel_rfl) (by kernel_rfl) ?hQ47 ?hy47 hS ?rest47
      case hi47 => simp only [List.getElem?_toArray, List.getElem?_cons_zero, List.getElem?_cons_succ]; rfl
      case hd47 => rfl
      case hQ47 => exact fun _ _ _ h => h
      case hy47 => exact Or.inr ⟨by rfl, rfl⟩
      simp only [List.setIfInBounds_toArray, List.set_cons_zero, List.set_cons_succ]
      refine anyE_tk 14 36 (oi := ?oi48) (v := undef) ?hi48 ?hd48 (by kernel_rfl) (by kernel_rfl) (by kernel_rfl) ?hQ48 ?hy48 hS ?rest48
      case hi48 => simp only [List.getElem?_toArray, List.getElem?_cons_zero, List.getElem?_cons_succ]; rfl
      case hd48 => rfl
      case hQ48 => exact fun _ _ _ h => h
      case hy48 => exact Or.inr ⟨by rfl, rfl⟩
      simp only [List.setIfInBounds_toArray, List.set_cons_zero, List.set_cons_succ]
      refine anyE_tk 15 37 (oi := ?oi49) (v := undef) ?hi49 ?hd49 (by kernel_rfl) (by kernel_rfl) (by kernel_rfl) ?hQ49 ?hy49 hS ?rest49
      case hi49 => simp only [List.getElem?_toArray, List.getElem?_cons_zero, List.getElem?_cons_succ]; rfl
      case hd49 => rfl
      case hQ49 => exact fun _ _ _ h => h
      case hy49 => exact Or.inr ⟨by rfl, rfl⟩
      simp only [List.setIfInBounds_toArray, List.set_cons_zero, List.set_cons_succ]
      refine anyE_tk 16 38 (oi := ?oi50) (v := undef) ?hi50 ?hd50 (by kernel_rfl) (by kernel_rfl) (by kernel_rfl) ?hQ50 ?hy50 hS ?rest50
      case hi50 => simp only [List.getElem?_toArray, List.getElem?_cons_zero, List.getElem?_cons_succ]; rfl
      case hd50 => rfl
      case hQ50 => exact fun _ _ _ h => h
      case hy50 => exact Or.inr ⟨by rfl, rfl⟩
      simp only [List.setIfInBounds_toArray, List.set_cons_zero, List.set_cons_succ]
      refine anyE_tk 17 39 (oi := ?oi51) (v := undef) ?hi51 ?hd51 (by kernel_rfl) (by kernel_rfl) (by kernel_rfl) ?hQ51 ?hy51 hS ?rest51
      case hi51 => simp only [List.getElem?_toArray, List.getElem?_cons_zero, List.getElem?_cons_succ]; rfl
      case hd51 => rfl
      case hQ51 => exact fun _ _ _ h => h
      case hy51 => exact Or.inr ⟨by rfl, rfl⟩
      simp only [List.setIfInBounds_toArray, List.set_cons_zero, List.set_cons_succ]
      refine anyE_tk 18 40 (oi := ?oi52) (v := undef) ?hi52 ?hd52 (by kernel_rfl) (by kernel_rfl) (by kernel_rfl) ?hQ52 ?hy52 hS ?rest52
      case hi52 => simp only [List.getElem?_toArray, List.getElem?_cons_zero, List.getElem?_cons_succ]; rfl
      case hd52 => rfl
      case hQ52 => exact fun _ _ _ h => h
      case hy52 => exact Or.inr ⟨by rfl, rfl⟩
      simp only [List.setIfInBounds_toArray, List.set_cons_zero, List.set_cons_succ]
      refine anyE_tk 19 41 (oi := ?oi53) (v := ?v53) ?hi53 ?hd53 (by kernel_rfl) (by kernel_rfl) (by kernel_rfl) ?hQ53 ?hy53 hS ?rest53
      case hi53 => simp only [List.getElem?_toArray, List.getElem?_cons_zero, List.getElem?_cons_succ]; rfl
      case hd53 => rfl
      case hQ53 => exact fun _ _ _ h => h
      case hy53 => (refine Or.inl ⟨by rfl, ?_⟩; intro w hSw; (try dsimp only at hSw); go_simp; try with_reducible rfl)
      simp only [List.setIfInBounds_toArray, List.set_cons_zero, List.set_cons_succ]
      refine anyE_tk 20 42 (oi := ?oi54) (v := ?v54) ?hi54 ?hd54 (by kernel_rfl) (by kernel_rfl) (by kernel_rfl) ?hQ54 ?hy54 hS ?rest54
      case hi54 => simp only [List.getElem?_toArray, List.getElem?_cons_zero, List.getElem?_cons_succ]; rfl
      case hd54 => rfl
      case hQ54 => exact fun _ _ _ h => h
      case hy54 => (refine Or.inl ⟨by rfl, ?_⟩; intro w hSw; (try dsimp only at hSw); go_simp; try with_reducible rfl)
      simp only [List.setIfInBounds_toArray, List.set_cons_zero, List.set_cons_succ]
      refine anyE_tk 21 43 (oi := ?oi55) (v := undef) ?hi55 ?hd55 (by kernel_rfl) (by kernel_rfl) (by kernel_rfl) ?hQ55 ?hy55 hS ?rest55
      case hi55 => simp only [List.getElem?_toArray, List.getElem?_cons_zero, List.getElem?_cons_succ]; rfl
      case hd55 => rfl
      case hQ55 => exact fun _ _ _ h => h
      case hy55 => exact Or.inr ⟨by rfl, rfl⟩
      simp only [List.setIfInBounds_toArray, List.set_cons_zero, List.set_cons_succ]
      refine anyE_tk 22 44 (oi := ?oi56) (v := undef) ?hi56 ?hd56 (by kernel_rfl) (by kernel_rfl) (by kernel_rfl) ?hQ56 ?hy56 hS ?rest56
      case hi56 => simp only [List.getElem?_toArray, List.getElem?_cons_zero, List.getElem?_cons_succ]; rfl
      case hd56 => rfl
      case hQ56 => exact fun _ _ _ h => h
      case hy56 => exact Or.inr ⟨by rfl, rfl⟩
      simp only [List.setIfInBounds_toArray, List.set_cons_zero, List.set_cons_succ]
      refine anyE_tk 23 45 (oi := ?oi57) (v := undef) ?hi57 ?hd57 (by kernel_rfl) (by kernel_rfl) (by kernel_rfl) ?hQ57 ?hy57 hS ?rest57
      case hi57 => simp only [List.getElem?_toArray, List.getElem?_cons_zero, List.getElem?_cons_succ]; rfl
      case hd57 => rfl
      case hQ57 => exact fun _ _ _ h => h
      case hy57 => exact Or.inr ⟨by rfl, rfl⟩
      simp only [List.setIfInBounds_toArray, List.set_cons_zero, List.set_cons_succ]
      refine anyE_tk 24 46 (oi := ?oi58) (v := undef) ?hi58 ?hd58 (by kernel_rfl) (by kernel_rfl) (by kernel_rfl) ?hQ58 ?hy58 hS ?rest58
      case hi58 => simp only [List.getElem?_toArray, List.getElem?_cons_zero, List.getElem?_cons_succ]; rfl
      case hd58 => rfl
      case hQ58 => exact fun _ _ _ h => h
      case hy58 => exact Or.inr ⟨by rfl, rfl⟩
      simp only [List.setIfInBounds_toArray, List.set_cons_zero, List.set_cons_succ]
      refine anyE_tk 25 47 (oi := ?oi59) (v := undef) ?hi59 ?hd59 (by kernel_rfl) (by kernel_rfl) (by kernel_rfl) ?hQ59 ?hy59 hS ?rest59
      case hi59 => simp only [List.getElem?_toArray, List.getElem?_cons_zero, List.getElem?_cons_succ]; rfl
      case hd59 => rfl
      case hQ59 => exact fun _ _ _ h => h
      case hy59 => exact Or.inr ⟨by rfl, rfl⟩
      simp only [List.setIfInBounds_toArray, List.set_cons_zero, List.set_cons_succ]
      refine anyE_tk 26 48 (oi := ?oi60) (v := undef) ?hi60 ?hd60 (by kernel_rfl) (by kernel_rfl) (by kernel_rfl) ?hQ60 ?hy60 hS ?rest60
      case hi60 => simp only [List.getElem?_toArray, List.getElem?_cons_zero, List.getElem?_cons_succ]; rfl
      case hd60 => rfl
      case hQ60 => exact fun _ _ _ h => h
      case hy60 => exact Or.inr ⟨by rfl, rfl⟩
      simp only [List.setIfInBounds_toArray, List.set_cons_zero, List.set_cons_succ]
      refine anyE_tk 27 49 (oi := ?oi61) (v := undef) ?hi61 ?hd61 (by kernel_rfl) (by kernel_rfl) (by kernel_rfl) ?hQ61 ?hy61 hS ?rest61
      case hi61 => simp only [List.getElem?_toArray, List.getElem?_cons_zero, List.getElem?_cons_succ]; rfl
      case hd61 => rfl
      case hQ61 => exact fun _ _ _ h => h
      case hy61 => exact Or.inr ⟨by rfl, rfl⟩
      simp only [List.setIfInBounds_toArray, List.set_cons_zero, List.set_cons_succ]
      refine anyE_tk 28 50 (oi := ?oi62) (v := undef) ?hi62 ?hd62 (by kernel_rfl) (by kernel_rfl) (by kernel_rfl) ?hQ62 ?hy62 hS ?rest62
      case hi62 => simp only [List.getElem?_toArray, List.getElem?_cons_zero, List.getElem?_cons_succ]; rfl
      case hd62 => rfl
      case hQ62 => exact fun _ _ _ h => h
      case hy62 => exact Or.inr ⟨by rfl, rfl⟩
      simp only [List.setIfInBounds_toArray, List.set_cons_zero, List.set_cons_succ]
      refine anyE_tk 29 51 (oi := ?oi63) (v := undef) ?hi63 ?hd63 (by kernel_rfl) (by kernel_rfl) (by kernel_rfl) ?hQ63 ?hy63 hS ?rest63
      case hi63 => simp only [List.getElem?_toArray, List.getElem?_cons_zero, List.getElem?_cons_succ]; rfl
      case hd63 => rfl
      case hQ63 => exact fun _ _ _ h => h
      case hy63 => exact Or.inr ⟨by rfl, rfl⟩
      simp only [List.setIfInBounds_toArray, List.set_cons_zero, List.set_cons_succ]
      refine anyE_tk 30 52 (oi := ?oi64) (v := undef) ?hi64 ?hd64 (by kernel_rfl) (by kernel_rfl) (by kernel_rfl) ?hQ64 ?hy64 hS ?rest64
      case hi64 => simp only [List.getElem?_toArray, List.getElem?_cons_zero, List.getElem?_cons_succ]; rfl
      case hd64 => rfl
      case hQ64 => exact fun _ _ _ h => h
      case hy64 => exact Or.inr ⟨by rfl, rfl⟩
      simp only [List.setIfInBounds_toArray, List.set_cons_zero, List.set_cons_succ]
      refine anyE_tk 31 53 (oi := ?oi65) (v := ?v65) ?hi65 ?hd65 (by kernel_rfl) (by kernel_rfl) (by kernel_rfl) ?hQ65 ?hy65 hS ?rest65
      case hi65 => simp only [List.getElem?_toArray, List.getElem?_cons_zero, List.getElem?_cons_succ]; rfl
      case hd65 => rfl
      case hQ65 => exact fun _ _ _ h => h
      case hy65 => (refine Or.inl ⟨by rfl, ?_⟩; intro w hSw; (try dsimp only at hSw); go_simp; try with_reducible rfl)
      simp only [List.setIfInBounds_toArray, List.set_cons_zero, List.set_cons_succ]
      refine anyE_tk 32 8 (oi := ?oi66) (v := ?v66) ?hi66 ?hd66 (by kernel_rfl) (by kernel_rfl) (by kernel_rfl) ?hQ66 ?hy66 hS ?rest66
      case hi66 => simp only [List.getElem?_toArray, List.getElem?_cons_zero, List.getElem?_cons_succ]; rfl
      case hd66 => rfl
      case hQ66 => exact fun _ _ _ h => h
      case hy66 => (refine Or.inl ⟨by rfl, ?_⟩; intro w hSw; (try dsimp only at hSw); go_simp; try with_reducible rfl)
      simp only [List.setIfInBounds_toArray, List.set_cons_zero, List.set_cons_succ]
      refine anyE_done (by kernel_rfl) ?_ _
      go_wp2_with fail
      go_ret
      exact ⟨rfl, Hw.out.trans (Below.mono ((Below.refl W0.heap.size W0).drew) Hw.out.size)⟩
    obtain ⟨fk, rfl⟩ := Int.eq_ofNat_of_zero_le (show 0 ≤ f by omega)
    have e2 : decide ((fk : Int) < (b.its.length : Int)) = true := by simp; omega
    rw [e2, Bool.true_and, show ((fk : Int)).toNat = fk from rfl]
    have hfl : fk < b.its.length := by omega
    have c71 := Lib.hid (fun W (hW : Below W0.heap.size W0 W) => inside_ref AI AR cI cR W0.heap.size b item W hW.size (hI.below hW (Nat.le_refl _)) hv hi)
    rw [HN.out] at c71
    rw [List.getElem?_eq_getElem hfl, Option.getD_some]
    obtain ⟨bb, off, A1, c1, A2, c2, rfl, hbB, _, q1, _, i2⟩ := hI fk hfl
    have hl2 := (hs.2.2.1 b.its[fk] (List.getElem_mem hfl)).2
    have c30 := Lib.hid (fun W (hW : Below W0.heap.size W0 W) => Has_ref A2 c2 W0.heap.size b.its[fk].2 p W (i2.below hW (Nat.le_refl _)) (by omega))
    generalize b.its[fk].2.contains p = hz at c30 ⊢
    generalize b.its[fk].2.length = n2 at c30 q1
    have KeepH := Lib.hid (fun W (hW : Below W0.heap.size W0 W) => show W.cell? ⟨w.heap.size, 0, none⟩ = some (.int .i64 n) ∧ W.cell? ⟨w.heap.size, 1, none⟩ = some (.slice (some ⟨bb, off, none⟩) b.its.length cI) ∧ W.cell? ⟨w.heap.size, 2, none⟩ = some (.slice AR b.rus.length cR) ∧ W.cell? ⟨w.heap.size + 1, 0, none⟩ = some (.int .i64 p) ∧ W.cell? ⟨w.heap.size + 1, 1, none⟩ = some (.int .i64 (fk : Int)) ∧ W.cell? ⟨w.heap.size + 1, 2, none⟩ = some (.int .i64 (-1)) ∧ Below W0.heap.size W0 W ∧ W.cell? ⟨bb, off + fk * 2 + 1, none⟩ = some (.slice A2 n2 c2) from by
      obtain ⟨z0, z1, z2, y0, y1, y2, h7⟩ := Keep.out W hW
      exact ⟨z0, z1, z2, y0, y1, y2, h7, (hW.cell (p := ⟨bb, off + fk * 2 + 1, none⟩) hbB).trans q1⟩)
    generalize hbit : (cnS b item).testBit fk = bt
    have k0 : (0 : Int) ≤ (fk : Int) := by omega
    have k1 : (fk : Int) < (b.its.length : Int) := by omega
    clear h h' hR hK hbr hs hv hi hb0 hb1 hw0 q1 i2 hl2 Keep
    go_enter Tryd.func88, Tryd.ntmps88
    go_wp2_with fail
    rw [← hW0]
    clear hW0
    have hS := KeepH.out _ (Below.refl W0.heap.size W0).drew
    refine wp_region_E (S := fun W => W.cell? ⟨w.heap.size, 0, none⟩ = some (.int .i64 n) ∧ W.cell? ⟨w.heap.size, 1, none⟩ = some (.slice (some ⟨bb, off, none⟩) b.its.length cI) ∧ W.cell? ⟨w.heap.size, 2, none⟩ = some (.slice AR b.rus.length cR) ∧ W.cell? ⟨w.heap.size + 1, 0, none⟩ = some (.int .i64 p) ∧ W.cell? ⟨w.heap.size + 1, 1, none⟩ = some (.int .i64 (fk : Int)) ∧ W.cell? ⟨w.heap.size + 1, 2, none⟩ = some (.int .i64 (-1)) ∧ Below W0.heap.size W0 W ∧ W.cell? ⟨bb, off + fk * 2 + 1, none⟩ = some (.slice A2 n2 c2)) (E := fun _ => false) (by kernel_rfl) ?_
    refine anyE_tk 0 22 (oi := ?oi67) (v := ?v67) ?hi67 ?hd67 (by kernel_rfl) (by kernel_rfl) (by kernel_rfl) ?hQ67 ?hy67 hS ?rest67
    case hi67 => simp only [List.getElem?_toArray, List.getElem?_cons_zero, List.getElem?_cons_succ]; rfl
    case hd67 => rfl
    case hQ67 => exact fun _ _ _ h => h
    case hy67 => (refine Or.inl ⟨by rfl, ?_⟩; intro w hSw; (try dsimp only at hSw); go_simp; try with_reducible rfl)
    simp only [List.setIfInBounds_toArray, List.set_cons_zero, List.set_cons_succ]
    refine anyE_tk 1 23 (oi := ?oi68) (v := ?v68) ?hi68 ?hd68 (by kernel_rfl) (by kernel_rfl) (by kernel_rfl) ?hQ68 ?hy68 hS ?rest68
    case hi68 => simp only [List.getElem?_toArray, List.getElem?_cons_zero, List.getElem?_cons_succ]; rfl
    case hd68 => rfl
    case hQ68 => exact fun _ _ _ h => h
    case hy68 => (refine Or.inl ⟨by rfl, ?_⟩; intro w hSw; (try dsimp only at hSw); go_simp; try with_reducible rfl)
    simp only [List.setIfInBounds_toArray, List.set_cons_zero, List.set_cons_succ]
    refine anyE_tk 2 24 (oi := ?oi69) (v := ?v69) ?hi69 ?hd69 (by kernel_rfl) (by kernel_rfl) (by kernel_rfl) ?hQ69 ?hy69 hS ?rest69
    case hi69 => simp only [List.getElem?_toArray, List.getElem?_cons_zero, List.getElem?_cons_succ]; rfl
    case hd69 => rfl
    case hQ69 => exact fun _ _ _ h => h
    case hy69 => (refine Or.inl ⟨by rfl, ?_⟩; intro w hSw; (try dsimp only at hSw); go_simp; try with_reducible rfl)
    simp only [List.setIfInBounds_toArray, List.set_cons_zero, List.set_cons_succ]
    refine anyE_tk 3 25 (oi := ?oi70) (v := ?v70) ?hi70 ?hd70 (by kernel_rfl) (by kernel_rfl) (by kernel_rfl) ?hQ70 ?hy70 hS ?rest70
    case hi70 => simp only [List.getElem?_toArray, List.getElem?_cons_zero, List.getElem?_cons_succ]; rfl
    case hd70 => rfl
    case hQ70 => exact fun _ _ _ h => h
    case hy70 => (refine Or.inl ⟨by rfl, ?_⟩; intro w hSw; (try dsimp only at hSw); go_simp; try with_reducible rfl)
    simp only [List.setIfInBounds_toArray, List.set_cons_zero, List.set_cons_succ]
    refine anyE_tk 4 26 (oi := ?oi71) (v := ?v71) ?hi71 ?hd71 (by kernel_rfl) (by kernel_rfl) (by kernel_rfl) ?hQ71 ?hy71 hS ?rest71
    case hi71 => simp only [List.getElem?_toArray, List.getElem?_cons_zero, List.getElem?_cons_succ]; rfl
    case hd71 => rfl
    case hQ71 => exact fun _ _ _ h => h
    case hy71 => (refine Or.inl ⟨by rfl, ?_⟩; intro w hSw; (try dsimp only at hSw); go_simp; try with_reducible rfl)
    simp only [List.setIfInBounds_toArray, List.set_cons_zero, List.set_cons_succ]
    refine anyE_tk 5 27 (oi := ?oi72) (v := ?v72) ?hi72 ?hd72 (by kernel_rfl) (by kernel_rfl) (by kernel_rfl) ?hQ72 ?hy72 hS ?rest72
    case hi72 => simp only [List.getElem?_toArray, List.getElem?_cons_zero, List.getElem?_cons_succ]; rfl
    case hd72 => rfl
    case hQ72 => exact fun _ _ _ h => h
    case hy72 => (refine Or.inl ⟨by rfl, ?_⟩; intro w hSw; (try dsimp only at hSw); go_simp; try with_reducible rfl)
    simp only [List.setIfInBounds_toArray, List.set_cons_zero, List.set_cons_succ]
    refine anyE_tk 6 28 (oi := ?oi73) (v := ?v73) ?hi73 ?hd73 (by kernel_rfl) (by kernel_rfl) (by kernel_rfl) ?hQ73 ?hy73 hS ?rest73
    case hi73 => simp only [List.getElem?_toArray, List.getElem?_cons_zero, List.getElem?_cons_succ]; rfl
    case hd73 => rfl
    case hQ73 => exact fun _ _ _ h => h
    case hy73 => (refine Or.inl ⟨by rfl, ?_⟩; intro w hSw; (try dsimp only at hSw); go_simp; try with_reducible rfl)
    simp only [List.setIfInBounds_toArray, List.set_cons_zero, List.set_cons_succ]
    refine anyE_tk 7 29 (oi := ?oi74) (v := ?v74) ?hi74 ?hd74 (by kernel_rfl) (by kernel_rfl) (by kernel_rfl) ?hQ74 ?hy74 hS ?rest74
    case hi74 => simp only [List.getElem?_toArray, List.getElem?_cons_zero, List.getElem?_cons_succ]; rfl
    case hd74 => rfl
    case hQ74 => exact fun _ _ _ h => h
    case hy74 => (refine Or.inl ⟨by rfl, ?_⟩; intro w hSw; (try dsimp only at hSw); go_simp; try with_reducible rfl)
    simp only [List.setIfInBounds_toArray, List.set_cons_zero, List.set_cons_succ]
    refine anyE_tk 8 30 (oi := ?oi75) (v := ?v75) ?hi75 ?hd75 (by kernel_rfl) (by kernel_rfl) (by kernel_rfl) ?hQ75 ?hy75 hS ?rest75
    case hi75 => simp only [List.getElem?_toArray, List.getElem?_cons_zero, List.getElem?_cons_succ]; rfl
    case hd75 => rfl
    case hQ75 => exact fun _ _ _ h => h
    case hy75 => (refine Or.inl ⟨by rfl, ?_⟩; intro w hSw; (try dsimp only at hSw); go_simp; try with_reducible rfl)
    simp only [List.setIfInBounds_toArray, List.set_cons_zero, List.set_cons_succ]
    refine anyE_tk 9 31 (oi := ?oi76) (v := ?v76) ?hi76 ?hd76 (by kernel_rfl) (by kernel_rfl) (by kernel_rfl) ?hQ76 ?hy76 hS ?rest76
    case hi76 => simp only [List.getElem?_toArray, List.getElem?_cons_zero, List.getElem?_cons_succ]; rfl
    case hd76 => rfl
    case hQ76 => exact fun _ _ _ h => h
    case hy76 => (refine Or.inl ⟨by rfl, ?_⟩; intro w hSw; (try dsimp only at hSw); go_simp; try with_reducible rfl)
    simp only [List.setIfInBounds_toArray, List.set_cons_zero, List.set_cons_succ]
    refine anyE_tk 10 32 (oi := ?oi77) (v := ?v77) ?hi77 ?hd77 (by kernel_rfl) (by kernel_rfl) (by kernel_rfl) ?hQ77 ?hy77 hS ?rest77
    case hi77 => simp only [List.getElem?_toArray, List.getElem?_cons_zero, List.getElem?_cons_succ]; rfl
    case hd77 => rfl
    case hQ77 => exact fun _ _ _ h => h
    case hy77 => (refine Or.inl ⟨by rfl, ?_⟩; intro w hSw; (try dsimp only at hSw); go_simp; try with_reducible rfl)
    simp only [List.setIfInBounds_toArray, List.set_cons_zero, List.set_cons_succ]
    refine anyE_tk 11 33 (oi := ?oi78) (v := ?v78) ?hi78 ?hd78 (by kernel_rfl) (by kernel_rfl) (by kernel_rfl) ?hQ78 ?hy78 hS ?rest78
    case hi78 => simp only [List.getElem?_toArray, List.getElem?_cons_zero, List.getElem?_cons_succ]; rfl
    case hd78 => rfl
    case hQ78 => exact fun _ _ _ h => h
    case hy78 => (refine Or.inl ⟨by rfl, ?_⟩; intro w hSw; (try dsimp only at hSw); go_simp; try with_reducible rfl)
    simp only [List.setIfInBounds_toArray, List.set_cons_zero, List.set_cons_succ]
    refine anyE_tk 12 34 (oi := ?oi79) (v := ?v79) ?hi79 ?hd79 (by kernel_rfl) (by kernel_rfl) (by kernel_rfl) ?hQ79 ?hy79 hS ?rest79
    case hi79 => simp only [List.getElem?_toArray, List.getElem?_cons_zero, List.getElem?_cons_succ]; rfl
    case hd79 => rfl
    case hQ79 => exact fun _ _ _ h => h
    case hy79 => (refine Or.inl ⟨by rfl, ?_⟩; intro w hSw; (try dsimp only at hSw); go_simp; try with_reducible rfl)
    simp only [List.setIfInBounds_toArray, List.set_cons_zero, List.set_cons_succ]
    refine anyE_tk 13 35 (oi := ?oi80) (v := ?v80) ?hi80 ?hd80 (by kernel_rfl) (by kernel_rfl) (by kernel_rfl) ?hQ80 ?hy80 hS ?rest80
    case hi80 => simp only [List.getElem?_toArray, List.getElem?_cons_zero, List.getElem?_cons_succ]; rfl
    case hd80 => rfl
    case hQ80 => exact fun _ _ _ h => h
    case hy80 => (refine Or.inl ⟨by rfl, ?_⟩; intro w hSw; (try dsimp only at hSw); go_simp; try with_reducible rfl)
    simp only [List.setIfInBounds_toArray, List.set_cons_zero, List.set_cons_succ]
    refine anyE_tk 15 37 (oi := ?oi81) (v := ?v81) ?hi81 ?hd81 (by kernel_rfl) (by kernel_rfl) (by kernel_rfl) ?hQ81 ?hy81 hS ?rest81
    case hi81 => simp only [List.getElem?_toArray, List.getElem?_cons_zero, List.getElem?_cons_succ]; rfl
    case hd81 => rfl
    case hQ81 => exact fun _ _ _ h => h
    case hy81 => (refine Or.inl ⟨by rfl, ?_⟩; intro w hSw; (try dsimp only at hSw); go_simp; try with_reducible rfl)
    simp only [List.setIfInBounds_toArray, List.set_cons_zero, List.set_cons_succ]
    refine anyE_tk 16 38 (oi := ?oi82) (v := ?v82) ?hi82 ?hd82 (by kernel_rfl) (by kernel_rfl) (by kernel_rfl) ?hQ82 ?hy82 hS ?rest82
    case hi82 => simp only [List.getElem?_toArray, List.getElem?_cons_zero, List.getElem?_cons_succ]; rfl
    case hd82 => rfl
    case hQ82 => exact fun _ _ _ h => h
    case hy82 => (refine Or.inl ⟨by rfl, ?_⟩; intro w hSw; (try dsimp only at hSw); go_simp; try with_reducible rfl)
    simp only [List.setIfInBounds_toArray, List.set_cons_zero, List.set_cons_succ]
    refine anyE_one (i := 14) (o := ?oi83) (by kernel_rfl) ?hi83 (fun K hK => ?step83)
    case hi83 => simp only [List.getElem?_toArray, List.getElem?_cons_zero, List.getElem?_cons_succ]; rfl
    go_simp
    refine (c71.out _ ((Below.refl W0.heap.size W0).drew)).mono ?_
    rintro e w5 ⟨rfl, hbb, hd5⟩
    have hb5 := Below.trans (Below.refl W0.heap.size W0).drew hd5
    have hc := hbb.cell hfl
    rw [hbit] at hc
    have hg := hbb.lt
    go_wp2_with fail
    refine hK.out _ _ (fun _ => KeepH.out _ hb5) ?_
    clear hK K
    try simp only [Act.put, List.setIfInBounds_toArray, List.set_cons_zero, List.set_cons_succ]
    refine anyE_more (fun W => W.cell? ⟨W0.heap.size + 1, fk, none⟩ = some (.bool bt)) ?_
    have hS := And.intro (KeepH.out _ hb5) (show w5.cell? ⟨W0.heap.size + 1, fk, none⟩ = some (.bool bt) from hc)
    cases bt with
    | false =>
      refine anyE_tk 17 39 (oi := ?oi84) (v := ?v84) ?hi84 ?hd84 (by kernel_rfl) (by kernel_rfl) (by kernel_rfl) ?hQ84 ?hy84 hS ?rest84
      case hi84 => simp only [List.getElem?_toArray, List.getElem?_cons_zero, List.getElem?_cons_succ]; rfl
      case hd84 => rfl
      case hQ84 => exact fun _ _ _ h => h
      case hy84 => (refine Or.inl ⟨by rfl, ?_⟩; intro w hSw; (try dsimp only at hSw); go_simp; try with_reducible rfl)
      simp only [List.setIfInBounds_toArray, List.set_cons_zero, List.set_cons_succ]
      refine anyE_tk 18 40 (oi := ?oi85) (v := ?v85) ?hi85 ?hd85 (by kernel_rfl) (by kernel_rfl) (by kernel_rfl) ?hQ85 ?hy85 hS ?rest85
      case hi85 => simp only [List.getElem?_toArray, List.getElem?_cons_zero, List.getElem?_cons_succ]; rfl
      case hd85 => rfl
      case hQ85 => exact fun _ _ _ h => h
      case hy85 => (refine Or.inl ⟨by rfl, ?_⟩; intro w hSw; (try dsimp only at hSw); go_simp; try with_reducible rfl)
      simp only [List.setIfInBounds_toArray, List.set_cons_zero, List.set_cons_succ]
      refine anyE_tk 19 41 (oi := ?oi86) (v := ?v86) ?hi86 ?hd86 (by kernel_rfl) (by kernel_rfl) (by kernel_rfl) ?hQ86 ?hy86 hS ?rest86
      case hi86 => simp only [List.getElem?_toArray, List.getElem?_cons_zero, List.getElem?_cons_succ]; rfl
      case hd86 => rfl
      case hQ86 => exact fun _ _ _ h => h
      case hy86 => (refine Or.inl ⟨by rfl, ?_⟩; intro w hSw; (try dsimp only at hSw); go_simp; try with_reducible rfl)
      simp only [List.setIfInBounds_toArray, List.set_cons_zero, List.set_cons_succ]
      refine anyE_tk 20 42 (oi := ?oi87) (v := ?v87) ?hi87 ?hd87 (by kernel_rfl) (by kernel_rfl) (by kernel_rfl) ?hQ87 ?hy87 hS ?rest87
      case hi87 => simp only [List.getElem?_toArray, List.getElem?_cons_zero, List.getElem?_cons_succ]; rfl
      case hd87 => rfl
      case hQ87 => exact fun _ _ _ h => h
      case hy87 => (refine Or.inl ⟨by rfl, ?_⟩; intro w hSw; (try dsimp only at hSw); go_simp; try with_reducible rfl)
      simp only [List.setIfInBounds_toArray, List.set_cons_zero, List.set_cons_succ]
      refine anyE_tk 21 43 (oi := ?oi88) (v := undef) ?hi88 ?hd88 (by kernel_rfl) (by kernel_rfl) (by kernel_rfl) ?hQ88 ?hy88 hS ?rest88
      case hi88 => simp only [List.getElem?_toArray, List.getElem?_cons_zero, List.getElem?_cons_succ]; rfl
      case hd88 => rfl
      case hQ88 => exact fun _ _ _ h => h
      case hy88 => exact Or.inr ⟨by rfl, rfl⟩
      simp only [List.setIfInBounds_toArray, List.set_cons_zero, List.set_cons_succ]
      refine anyE_tk 22 44 (oi := ?oi89) (v := undef) ?hi89 ?hd89 (by kernel_rfl) (by kernel_rfl) (by kernel_rfl) ?hQ89 ?hy89 hS ?rest89
      case hi89 => simp only [List.getElem?_toArray, List.getElem?_cons_zero, List.getElem?_cons_succ]; rfl
      case hd89 => rfl
      case hQ89 => exact fun _ _ _ h => h
      case hy89 => exact Or.inr ⟨by rfl, rfl⟩
      simp only [List.setIfInBounds_toArray, List.set_cons_zero, List.set_cons_succ]
      refine anyE_tk 23 45 (oi := ?oi90) (v := undef) ?hi90 ?hd90 (by kernel_rfl) (by kernel_rfl) (by kernel_rfl) ?hQ90 ?hy90 hS ?rest90
      case hi90 => simp only [List.getElem?_toArray, List.getElem?_cons_zero, List.getElem?_cons_succ]; rfl
      case hd90 => rfl
      case hQ90 => exact fun _ _ _ h => h
      case hy90 => exact Or.inr ⟨by rfl, rfl⟩
      simp only [List.setIfInBounds_toArray, List.set_cons_zero, List.set_cons_succ]
      refine anyE_tk 24 46 (oi := ?oi91) (v := undef) ?hi91 ?hd91 (by kernel_rfl) (by kernel_rfl) (by kernel_rfl) ?hQ91 ?hy91 hS ?rest91
      case hi91 => simp only [List.getElem?_toArray, List.getElem?_cons_zero, List.getElem?_cons_succ]; rfl
      case hd91 => rfl
      case hQ91 => exact fun _ _ _ h => h
      case hy91 => exact Or.inr ⟨by rfl, rfl⟩
      simp only [List.setIfInBounds_toArray, List.set_cons_zero, List.set_cons_succ]
      refine anyE_tk 25 47 (oi := ?oi92) (v := undef) ?hi92 ?hd92 (by kernel_rfl) (by kernel_rfl) (by kernel_rfl) ?hQ92 ?hy92 hS ?rest92
      case hi92 => simp only [List.getElem?_toArray, List.getElem?_cons_zero, List.getElem?_cons_succ]; rfl
      case hd92 => rfl
      case hQ92 => exact fun _ _ _ h => h
      case hy92 => exact Or.inr ⟨by rfl, rfl⟩
      simp only [List.setIfInBounds_toArray, List.set_cons_zero, List.set_cons_succ]
      refine anyE_tk 26 48 (oi := ?oi93) (v := undef) ?hi93 ?hd93 (by kernel_rfl) (by kernel_rfl) (by kernel_rfl) ?hQ93 ?hy93 hS ?rest93
      case hi93 => simp only [List.getElem?_toArray, List.getElem?_cons_zero, List.getElem?_cons_succ]; rfl
      case hd93 => rfl
      case hQ93 => exact fun _ _ _ h => h
      case hy93 => exact Or.inr ⟨by rfl, rfl⟩
      simp only [List.setIfInBounds_toArray, List.set_cons_zero, List.set_cons_succ]
      refine anyE_tk 27 49 (oi := ?oi94) (v := undef) ?hi94 ?hd94 (by kernel_rfl) (by kernel_rfl) (by kernel_rfl) ?hQ94 ?hy94 hS ?rest94
      case hi94 => simp only [List.getElem?_toArray, List.getElem?_cons_zero, List.getElem?_cons_succ]; rfl
      case hd94 => rfl
      case hQ94 => exact fun _ _ _ h => h
      case hy94 => exact Or.inr ⟨by rfl, rfl⟩
      simp only [List.setIfInBounds_toArray, List.set_cons_zero, List.set_cons_succ]
      refine anyE_tk 28 50 (oi := ?oi95) (v := undef) ?hi95 ?hd95 (by kernel_rfl) (by kernel_rfl) (by kernel_rfl) ?hQ95 ?hy95 hS ?rest95
      case hi95 => simp only [List.getElem?_toArray, List.getElem?_cons_zero, List.getElem?_cons_succ]; rfl
      case hd95 => rfl
      case hQ95 => exact fun _ _ _ h => h
      case hy95 => exact Or.inr ⟨by rfl, rfl⟩
      simp only [List.setIfInBounds_toArray, List.set_cons_zero, List.set_cons_succ]
      refine anyE_tk 29 51 (oi := ?oi96) (v := undef) ?hi96 ?hd96 (by kernel_rfl) (by kernel_rfl) (by kernel_rfl) ?hQ96 ?hy96 hS ?rest96
      case hi96 => simp only [List.getElem?_toArray, List.getElem?_cons_zero, List.getElem?_cons_succ]; rfl
      case hd96 => rfl
      case hQ96 => exact fun _ _ _ h => h
      case hy96 => exact Or.inr ⟨by rfl, rfl⟩
      simp only [List.setIfInBounds_toArray, List.set_cons_zero, List.set_cons_succ]
      refine anyE_tk 30 52 (oi := ?oi97) (v := undef) ?hi97 ?hd97 (by kernel_rfl) (by kernel_rfl) (by kernel_rfl) ?hQ97 ?hy97 hS ?rest97
      case hi97 => simp only [List.getElem?_toArray, List.getElem?_cons_zero, List.getElem?_cons_succ]; rfl
      case hd97 => rfl
      case hQ97 => exact fun _ _ _ h => h
      case hy97 => exact Or.inr ⟨by rfl, rfl⟩
      simp only [List.setIfInBounds_toArray, List.set_cons_zero, List.set_cons_succ]
      refine anyE_tk 31 53 (oi := ?oi98) (v := ?v98) ?hi98 ?hd98 (by kernel_rfl) (by kernel_rfl) (by kernel_rfl) ?hQ98 ?hy98 hS ?rest98
      case hi98 => simp only [List.getElem?_toArray, List.getElem?_cons_zero, List.getElem?_cons_succ]; rfl
      case hd98 => rfl
      case hQ98 => exact fun _ _ _ h => h
      case hy98 => (refine Or.inl ⟨by rfl, ?_⟩; intro w hSw; (try dsimp only at hSw); go_simp; try with_reducible rfl)
      simp only [List.setIfInBounds_toArray, List.set_cons_zero, List.set_cons_succ]
      refine anyE_tk 32 8 (oi := ?oi99) (v := ?v99) ?hi99 ?hd99 (by kernel_rfl) (by kernel_rfl) (by kernel_rfl) ?hQ99 ?hy99 hS ?rest99
      case hi99 => simp only [List.getElem?_toArray, List.getElem?_cons_zero, List.getElem?_cons_succ]; rfl
      case hd99 => rfl
      case hQ99 => exact fun _ _ _ h => h
      case hy99 => (refine Or.inl ⟨by rfl, ?_⟩; intro w hSw; (try dsimp only at hSw); go_simp; try with_reducible rfl)
      simp only [List.setIfInBounds_toArray, List.set_cons_zero, List.set_cons_succ]
      refine anyE_done (by kernel_rfl) ?_ _
      go_wp2_with fail
      go_ret
      exact ⟨rfl, Hw.out.trans (Below.mono (hb5) Hw.out.size)⟩
    | true =>
      refine anyE_tk 17 39 (oi := ?oi100) (v := ?v100) ?hi100 ?hd100 (by kernel_rfl) (by kernel_rfl) (by kernel_rfl) ?hQ100 ?hy100 hS ?rest100
      case hi100 => simp only [List.getElem?_toArray, List.getElem?_cons_zero, List.getElem?_cons_succ]; rfl
      case hd100 => rfl
      case hQ100 => exact fun _ _ _ h => h
      case hy100 => (refine Or.inl ⟨by rfl, ?_⟩; intro w hSw; (try dsimp only at hSw); go_simp; try with_reducible rfl)
      simp only [List.setIfInBounds_toArray, List.set_cons_zero, List.set_cons_succ]
      refine anyE_tk 18 40 (oi := ?oi101) (v := ?v101) ?hi101 ?hd101 (by kernel_rfl) (by kernel_rfl) (by kernel_rfl) ?hQ101 ?hy101 hS ?rest101
      case hi101 => simp only [List.getElem?_toArray, List.getElem?_cons_zero, List.getElem?_cons_succ]; rfl
      case hd101 => rfl
      case hQ101 => exact fun _ _ _ h => h
      case hy101 => (refine Or.inl ⟨by rfl, ?_⟩; intro w hSw; (try dsimp only at hSw); go_simp; try with_reducible rfl)
      simp only [List.setIfInBounds_toArray, List.set_cons_zero, List.set_cons_succ]
      refine anyE_tk 19 41 (oi := ?oi102) (v := ?v102) ?hi102 ?hd102 (by kernel_rfl) (by kernel_rfl) (by kernel_rfl) ?hQ102 ?hy102 hS ?rest102
      case hi102 => simp only [List.getElem?_toArray, List.getElem?_cons_zero, List.getElem?_cons_succ]; rfl
      case hd102 => rfl
      case hQ102 => exact fun _ _ _ h => h
      case hy102 => (refine Or.inl ⟨by rfl, ?_⟩; intro w hSw; (try dsimp only at hSw); go_simp; try with_reducible rfl)
      simp only [List.setIfInBounds_toArray, List.set_cons_zero, List.set_cons_succ]
      refine anyE_tk 20 42 (oi := ?oi103) (v := ?v103) ?hi103 ?hd103 (by kernel_rfl) (by kernel_rfl) (by kernel_rfl) ?hQ103 ?hy103 hS ?rest103
      case hi103 => simp only [List.getElem?_toArray, List.getElem?_cons_zero, List.getElem?_cons_succ]; rfl
      case hd103 => rfl
      case hQ103 => exact fun _ _ _ h => h
      case hy103 => (refine Or.inl ⟨by rfl, ?_⟩; intro w hSw; (try dsimp only at hSw); go_simp; try with_reducible rfl)
      simp only [List.setIfInBounds_toArray, List.set_cons_zero, List.set_cons_succ]
      refine anyE_tk 21 43 (oi := ?oi104) (v := ?v104) ?hi104 ?hd104 (by kernel_rfl) (by kernel_rfl) (by kernel_rfl) ?hQ104 ?hy104 hS ?rest104
      case hi104 => simp only [List.getElem?_toArray, List.getElem?_cons_zero, List.getElem?_cons_succ]; rfl
      case hd104 => rfl
      case hQ104 => exact fun _ _ _ h => h
      case hy104 => (refine Or.inl ⟨by rfl, ?_⟩; intro w hSw; (try dsimp only at hSw); go_simp; try with_reducible rfl)
      simp only [List.setIfInBounds_toArray, List.set_cons_zero, List.set_cons_succ]
      refine anyE_tk 22 44 (oi := ?oi105) (v := ?v105) ?hi105 ?hd105 (by kernel_rfl) (by kernel_rfl) (by kernel_rfl) ?hQ105 ?hy105 hS ?rest105
      case hi105 => simp only [List.getElem?_toArray, List.getElem?_cons_zero, List.getElem?_cons_succ]; rfl
      case hd105 => rfl
      case hQ105 => exact fun _ _ _ h => h
      case hy105 => (refine Or.inl ⟨by rfl, ?_⟩; intro w hSw; (try dsimp only at hSw); go_simp; try with_reducible rfl)
      simp only [List.setIfInBounds_toArray, List.set_cons_zero, List.set_cons_succ]
      refine anyE_tk 23 45 (oi := ?oi106) (v := ?v106) ?hi106 ?hd106 (by kernel_rfl) (by kernel_rfl) (by kernel_rfl) ?hQ106 ?hy106 hS ?rest106
      case hi106 => simp only [List.getElem?_toArray, List.getElem?_cons_zero, List.getElem?_cons_succ]; rfl
      case hd106 => rfl
      case hQ106 => exact fun _ _ _ h => h
      case hy106 => (refine Or.inl ⟨by rfl, ?_⟩; intro w hSw; (try dsimp only at hSw); go_simp; try with_reducible rfl)
      simp only [List.setIfInBounds_toArray, List.set_cons_zero, List.set_cons_succ]
      refine anyE_tk 24 46 (oi := ?oi107) (v := ?v107) ?hi107 ?hd107 (by kernel_rfl) (by kernel_rfl) (by kernel_rfl) ?hQ107 ?hy107 hS ?rest107
      case hi107 => simp only [List.getElem?_toArray, List.getElem?_cons_zero, List.getElem?_cons_succ]; rfl
      case hd107 => rfl
      case hQ107 => exact fun _ _ _ h => h
      case hy107 => (refine Or.inl ⟨by rfl, ?_⟩; intro w hSw; (try dsimp only at hSw); go_simp; try with_reducible rfl)
      simp only [List.setIfInBounds_toArray, List.set_cons_zero, List.set_cons_succ]
      refine anyE_tk 25 47 (oi := ?oi108) (v := ?v108) ?hi108 ?hd108 (by kernel_rfl) (by kernel_rfl) (by kernel_rfl) ?hQ108 ?hy108 hS ?rest108
      case hi108 => simp only [List.getElem?_toArray, List.getElem?_cons_zero, List.getElem?_cons_succ]; rfl
      case hd108 => rfl
      case hQ108 => exact fun _ _ _ h => h
      case hy108 => (refine Or.inl ⟨by rfl, ?_⟩; intro w hSw; (try dsimp only at hSw); go_simp; try with_reducible rfl)
      simp only [List.setIfInBounds_toArray, List.set_cons_zero, List.set_cons_succ]
      refine anyE_tk 26 48 (oi := ?oi109) (v := ?v109) ?hi109 ?hd109 (by kernel_rfl) (by kernel_rfl) (by kernel_rfl) ?hQ109 ?hy109 hS ?rest109
      case hi109 => simp only [List.getElem?_toArray, List.getElem?_cons_zero, List.getElem?_cons_succ]; rfl
      case hd109 => rfl
      case hQ109 => exact fun _ _ _ h => h
      case hy109 => (refine Or.inl ⟨by rfl, ?_⟩; intro w hSw; (try dsimp only at hSw); go_simp; try with_reducible rfl)
      simp only [List.setIfInBounds_toArray, List.set_cons_zero, List.set_cons_succ]
      refine anyE_tk 27 49 (oi := ?oi110) (v := ?v110) ?hi110 ?hd110 (by kernel_rfl) (by kernel_rfl) (by kernel_rfl) ?hQ110 ?hy110 hS ?rest110
      case hi110 => simp only [List.getElem?_toArray, List.getElem?_cons_zero, List.getElem?_cons_succ]; rfl
      case hd110 => rfl
      case hQ110 => exact fun _ _ _ h => h
      case hy110 => (refine Or.inl ⟨by rfl, ?_⟩; intro w hSw; (try dsimp only at hSw); go_simp; try with_reducible rfl)
      simp only [List.setIfInBounds_toArray, List.set_cons_zero, List.set_cons_succ]
      refine anyE_tk 28 50 (oi := ?oi111) (v := ?v111) ?hi111 ?hd111 (by kernel_rfl) (by kernel_rfl) (by kernel_rfl) ?hQ111 ?hy111 hS ?rest111
      case hi111 => simp only [List.getElem?_toArray, List.getElem?_cons_zero, List.getElem?_cons_succ]; rfl
      case hd111 => rfl
      case hQ111 => exact fun _ _ _ h => h
      case hy111 => (refine Or.inl ⟨by rfl, ?_⟩; intro w hSw; (try dsimp only at hSw); go_simp; try with_reducible rfl)
      simp only [List.setIfInBounds_toArray, List.set_cons_zero, List.set_cons_succ]
      refine anyE_tk 29 51 (oi := ?oi112) (v := ?v112) ?hi112 ?hd112 (by kernel_rfl) (by kernel_rfl) (by kernel_rfl) ?hQ112 ?hy112 hS ?rest112
      case hi112 => simp only [List.getElem?_toArray, List.getElem?_cons_zero, List.getElem?_cons_succ]; rfl
      case hd112 => rfl
      case hQ112 => exact fun _ _ _ h => h
      case hy112 => (refine Or.inl ⟨by rfl, ?_⟩; intro w hSw; (try dsimp only at hSw); go_simp; try with_reducible rfl)
      simp only [List.setIfInBounds_toArray, List.set_cons_zero, List.set_cons_succ]
      refine anyE_one (i := 30) (o := ?oi113) (by kernel_rfl) ?hi113 (fun K hK => ?step113)
      case hi113 => simp only [List.getElem?_toArray, List.getElem?_cons_zero, List.getElem?_cons_succ]; rfl
      go_simp
      refine (c30.out _ hb5).mono ?_
      rintro e w6 ⟨rfl, rfl⟩
      go_wp2_with fail
      refine hK.out _ _ (fun _ => hS) ?_
      clear hK K
      try simp only [Act.put, List.setIfInBounds_toArray, List.set_cons_zero, List.set_cons_succ]
      refine anyE_tk 31 53 (oi := ?oi114) (v := ?v114) ?hi114 ?hd114 (by kernel_rfl) (by kernel_rfl) (by kernel_rfl) ?hQ114 ?hy114 hS ?rest114
      case hi114 => simp only [List.getElem?_toArray, List.getElem?_cons_zero, List.getElem?_cons_succ]; rfl
      case hd114 => rfl
      case hQ114 => exact fun _ _ _ h => h
      case hy114 => (refine Or.inl ⟨by rfl, ?_⟩; intro w hSw; (try dsimp only at hSw); go_simp; try with_reducible rfl)
      simp only [List.setIfInBounds_toArray, List.set_cons_zero, List.set_cons_succ]
      refine anyE_tk 32 8 (oi := ?oi115) (v := ?v115) ?hi115 ?hd115 (by kernel_rfl) (by kernel_rfl) (by kernel_rfl) ?hQ115 ?hy115 hS ?rest115
      case hi115 => simp only [List.getElem?_toArray, List.getElem?_cons_zero, List.getElem?_cons_succ]; rfl
      case hd115 => rfl
      case hQ115 => exact fun _ _ _ h => h
      case hy115 => (refine Or.inl ⟨by rfl, ?_⟩; intro w hSw; (try dsimp only at hSw); go_simp; try with_reducible rfl)
      simp only [List.setIfInBounds_toArray, List.set_cons_zero, List.set_cons_succ]
      refine anyE_done (by kernel_rfl) ?_ _
      go_wp2_with fail
      go_ret
      exact ⟨rfl, Hw.out.trans (Below.mono (hb5) Hw.out.size)⟩
  · rw [rg_rule h12 h3]
    have h3d : decide (r = -1) = false := by simpa using h3
    have h3e : (r == -1) = false := by simpa using h3
    by_cases h4 : f = -1
    case neg =>
      have e1 : decide (f = -1) = false := by simpa using h4
      have e2 : (f == -1) = false := by simpa using h4
      rw [e1, Bool.false_and, Bool.false_and, Bool.false_and, Bool.false_and]
      clear h h' hI hR hK hbr hs hv hi hb0 hb1 hw0
      go_enter Tryd.func88, Tryd.ntmps88
      go_wp2_with fail
      rw [← hW0]
      clear hW0
      have hS := Keep.out _ (Below.refl W0.heap.size W0).drew
      refine wp_region_E (S := fun W => W.cell? ⟨w.heap.size, 0, none⟩ = some (.int .i64 n) ∧ W.cell? ⟨w.heap.size, 1, none⟩ = some (.slice AI b.its.length cI) ∧ W.cell? ⟨w.heap.size, 2, none⟩ = some (.slice AR b.rus.length cR) ∧ W.cell? ⟨w.heap.size + 1, 0, none⟩ = some (.int .i64 p) ∧ W.cell? ⟨w.heap.size + 1, 1, none⟩ = some (.int .i64 f) ∧ W.cell? ⟨w.heap.size + 1, 2, none⟩ = some (.int .i64 r) ∧ Below W0.heap.size W0 W) (E := fun _ => false) (by kernel_rfl) ?_
      refine anyE_tk 0 54 (oi := ?oi116) (v := ?v116) ?hi116 ?hd116 (by kernel_rfl) (by kernel_rfl) (by kernel_rfl) ?hQ116 ?hy116 hS ?rest116
      case hi116 => simp only [List.getElem?_toArray, List.getElem?_cons_zero, List.getElem?_cons_succ]; rfl
      case hd116 => rfl
      case hQ116 => exact fun _ _ _ h => h
      case hy116 => (refine Or.inl ⟨by rfl, ?_⟩; intro w hSw; (try dsimp only at hSw); go_simp; try with_reducible rfl)
      simp only [List.setIfInBounds_toArray, List.set_cons_zero, List.set_cons_succ]
      refine anyE_tk 1 55 (oi := ?oi117) (v := ?v117) ?hi117 ?hd117 (by kernel_rfl) (by kernel_rfl) (by kernel_rfl) ?hQ117 ?hy117 hS ?rest117
      case hi117 => simp only [List.getElem?_toArray, List.getElem?_cons_zero, List.getElem?_cons_succ]; rfl
      case hd117 => rfl
      case hQ117 => exact fun _ _ _ h => h
      case hy117 => (refine Or.inl ⟨by rfl, ?_⟩; intro w hSw; (try dsimp only at hSw); go_simp; try with_reducible rfl)
      simp only [List.setIfInBounds_toArray, List.set_cons_zero, List.set_cons_succ]
      refine anyE_tk 2 56 (oi := ?oi118) (v := ?v118) ?hi118 ?hd118 (by kernel_rfl) (by kernel_rfl) (by kernel_rfl) ?hQ118 ?hy118 hS ?rest118
      case hi118 => simp only [List.getElem?_toArray, List.getElem?_cons_zero, List.getElem?_cons_succ]; rfl
      case hd118 => rfl
      case hQ118 => exact fun _ _ _ h => h
      case hy118 => (refine Or.inl ⟨by rfl, ?_⟩; intro w hSw; (try dsimp only at hSw); go_simp; try with_reducible rfl)
      simp only [List.setIfInBounds_toArray, List.set_cons_zero, List.set_cons_succ]
      refine anyE_tk 3 57 (oi := ?oi119) (v := ?v119) ?hi119 ?hd119 (by kernel_rfl) (by kernel_rfl) (by kernel_rfl) ?hQ119 ?hy119 hS ?rest119
      case hi119 => simp only [List.getElem?_toArray, List.getElem?_cons_zero, List.getElem?_cons_succ]; rfl
      case hd119 => rfl
      case hQ119 => exact fun _ _ _ h => h
      case hy119 => (refine Or.inl ⟨by rfl, ?_⟩; intro w hSw; (try dsimp only at hSw); go_simp; try with_reducible rfl)
      simp only [List.setIfInBounds_toArray, List.set_cons_zero, List.set_cons_succ]
      refine anyE_tk 4 58 (oi := ?oi120) (v := undef) ?hi120 ?hd120 (by kernel_rfl) (by kernel_rfl) (by kernel_rfl) ?hQ120 ?hy120 hS ?rest120
      case hi120 => simp only [List.getElem?_toArray, List.getElem?_cons_zero, List.getElem?_cons_succ]; rfl
      case hd120 => rfl
      case hQ120 => exact fun _ _ _ h => h
      case hy120 => exact Or.inr ⟨by rfl, rfl⟩
      simp only [List.setIfInBounds_toArray, List.set_cons_zero, List.set_cons_succ]
      refine anyE_tk 5 59 (oi := ?oi121) (v := undef) ?hi121 ?hd121 (by kernel_rfl) (by kernel_rfl) (by kernel_rfl) ?hQ121 ?hy121 hS ?rest121
      case hi121 => simp only [List.getElem?_toArray, List.getElem?_cons_zero, List.getElem?_cons_succ]; rfl
      case hd121 => rfl
      case hQ121 => exact fun _ _ _ h => h
      case hy121 => exact Or.inr ⟨by rfl, rfl⟩
      simp only [List.setIfInBounds_toArray, List.set_cons_zero, List.set_cons_succ]
      refine anyE_tk 6 60 (oi := ?oi122) (v := undef) ?hi122 ?hd122 (by kernel_rfl) (by kernel_rfl) (by kernel_rfl) ?hQ122 ?hy122 hS ?rest122
      case hi122 => simp only [List.getElem?_toArray, List.getElem?_cons_zero, List.getElem?_cons_succ]; rfl
      case hd122 => rfl
      case hQ122 => exact fun _ _ _ h => h
      case hy122 => exact Or.inr ⟨by rfl, rfl⟩
      simp only [List.setIfInBounds_toArray, List.set_cons_zero, List.set_cons_succ]
      refine anyE_tk 7 61 (oi := ?oi123) (v := ?v123) ?hi123 ?hd123 (by kernel_rfl) (by kernel_rfl) (by kernel_rfl) ?hQ123 ?hy123 hS ?rest123
      case hi123 => simp only [List.getElem?_toArray, List.getElem?_cons_zero, List.getElem?_cons_succ]; rfl
      case hd123 => rfl
      case hQ123 => exact fun _ _ _ h => h
      case hy123 => (refine Or.inl ⟨by rfl, ?_⟩; intro w hSw; (try dsimp only at hSw); go_simp; try with_reducible rfl)
      simp only [List.setIfInBounds_toArray, List.set_cons_zero, List.set_cons_succ]
      refine anyE_tk 8 62 (oi := ?oi124) (v := ?v124) ?hi124 ?hd124 (by kernel_rfl) (by kernel_rfl) (by kernel_rfl) ?hQ124 ?hy124 hS ?rest124
      case hi124 => simp only [List.getElem?_toArray, List.getElem?_cons_zero, List.getElem?_cons_succ]; rfl
      case hd124 => rfl
      case hQ124 => exact fun _ _ _ h => h
      case hy124 => (refine Or.inl ⟨by rfl, ?_⟩; intro w hSw; (try dsimp only at hSw); go_simp; try with_reducible rfl)
      simp only [List.setIfInBounds_toArray, List.set_cons_zero, List.set_cons_succ]
      refine anyE_tk 9 63 (oi := ?oi125) (v := undef) ?hi125 ?hd125 (by kernel_rfl) (by kernel_rfl) (by kernel_rfl) ?hQ125 ?hy125 hS ?rest125
      case hi125 => simp only [List.getElem?_toArray, List.getElem?_cons_zero, List.getElem?_cons_succ]; rfl
      case hd125 => rfl
      case hQ125 => exact fun _ _ _ h => h
      case hy125 => exact Or.inr ⟨by rfl, rfl⟩
      simp only [List.setIfInBounds_toArray, List.set_cons_zero, List.set_cons_succ]
      refine anyE_tk 10 64 (oi := ?oi126) (v := undef) ?hi126 ?hd126 (by kernel_rfl) (by kernel_rfl) (by kernel_rfl) ?hQ126 ?hy126 hS ?rest126
      case hi126 => simp only [List.getElem?_toArray, List.getElem?_cons_zero, List.getElem?_cons_succ]; rfl
      case hd126 => rfl
      case hQ126 => exact fun _ _ _ h => h
      case hy126 => exact Or.inr ⟨by rfl, rfl⟩
      simp only [List.setIfInBounds_toArray, List.set_cons_zero, List.set_cons_succ]
      refine anyE_tk 11 65 (oi := ?oi127) (v := undef) ?hi127 ?hd127 (by kernel_rfl) (by kernel_rfl) (by kernel_rfl) ?hQ127 ?hy127 hS ?rest127
      case hi127 => simp only [List.getElem?_toArray, List.getElem?_cons_zero, List.getElem?_cons_succ]; rfl
      case hd127 => rfl
      case hQ127 => exact fun _ _ _ h => h
      case hy127 => exact Or.inr ⟨by rfl, rfl⟩
      simp only [List.setIfInBounds_toArray, List.set_cons_zero, List.set_cons_succ]
      refine anyE_tk 12 66 (oi := ?oi128) (v := undef) ?hi128 ?hd128 (by kernel_rfl) (by kernel_rfl) (by kernel_rfl) ?hQ128 ?hy128 hS ?rest128
      case hi128 => simp only [List.getElem?_toArray, List.getElem?_cons_zero, List.getElem?_cons_succ]; rfl
      case hd128 => rfl
      case hQ128 => exact fun _ _ _ h => h
      case hy128 => exact Or.inr ⟨by rfl, rfl⟩
      simp only [List.setIfInBounds_toArray, List.set_cons_zero, List.set_cons_succ]
      refine anyE_tk 13 67 (oi := ?oi129) (v := undef) ?hi129 ?hd129 (by kernel_rfl) (by kernel_rfl) (by kernel_rfl) ?hQ129 ?hy129 hS ?rest129
      case hi129 => simp only [List.getElem?_toArray, List.getElem?_cons_zero, List.getElem?_cons_succ]; rfl
      case hd129 => rfl
      case hQ129 => exact fun _ _ _ h => h
      case hy129 => exact Or.inr ⟨by rfl, rfl⟩
      simp only [List.setIfInBounds_toArray, List.set_cons_zero, List.set_cons_succ]
      refine anyE_tk 14 68 (oi := ?oi130) (v := undef) ?hi130 ?hd130 (by kernel_rfl) (by kernel_rfl) (by kernel_rfl) ?hQ130 ?hy130 hS ?rest130
      case hi130 => simp only [List.getElem?_toArray, List.getElem?_cons_zero, List.getElem?_cons_succ]; rfl
      case hd130 => rfl
      case hQ130 => exact fun _ _ _ h => h
      case hy130 => exact Or.inr ⟨by rfl, rfl⟩
      simp only [List.setIfInBounds_toArray, List.set_cons_zero, List.set_cons_succ]
      refine anyE_tk 15 69 (oi := ?oi131) (v := ?v131) ?hi131 ?hd131 (by kernel_rfl) (by kernel_rfl) (by kernel_rfl) ?hQ131 ?hy131 hS ?rest131
      case hi131 => simp only [List.getElem?_toArray, List.getElem?_cons_zero, List.getElem?_cons_succ]; rfl
      case hd131 => rfl
      case hQ131 => exact fun _ _ _ h => h
      case hy131 => (refine Or.inl ⟨by rfl, ?_⟩; intro w hSw; (try dsimp only at hSw); go_simp; try with_reducible rfl)
      simp only [List.setIfInBounds_toArray, List.set_cons_zero, List.set_cons_succ]
      refine anyE_tk 16 70 (oi := ?oi132) (v := ?v132) ?hi132 ?hd132 (by kernel_rfl) (by kernel_rfl) (by kernel_rfl) ?hQ132 ?hy132 hS ?rest132
      case hi132 => simp only [List.getElem?_toArray, List.getElem?_cons_zero, List.getElem?_cons_succ]; rfl
      case hd132 => rfl
      case hQ132 => exact fun _ _ _ h => h
      case hy132 => (refine Or.inl ⟨by rfl, ?_⟩; intro w hSw; (try dsimp only at hSw); go_simp; try with_reducible rfl)
      simp only [List.setIfInBounds_toArray, List.set_cons_zero, List.set_cons_succ]
      refine anyE_tk 17 71 (oi := ?oi133) (v := undef) ?hi133 ?hd133 (by kernel_rfl) (by kernel_rfl) (by kernel_rfl) ?hQ133 ?hy133 hS ?rest133
      case hi133 => simp only [List.getElem?_toArray, List.getElem?_cons_zero, List.getElem?_cons_succ]; rfl
      case hd133 => rfl
      case hQ133 => exact fun _ _ _ h => h
      case hy133 => exact Or.inr ⟨by rfl, rfl⟩
      simp only [List.setIfInBounds_toArray, List.set_cons_zero, List.set_cons_succ]
      refine anyE_tk 18 72 (oi := ?oi134) (v := undef) ?hi134 ?hd134 (by kernel_rfl) (by kernel_rfl) (by kernel_rfl) ?hQ134 ?hy134 hS ?rest134
      case hi134 => simp only [List.getElem?_toArray, List.getElem?_cons_zero, List.getElem?_cons_succ]; rfl
      case hd134 => rfl
      case hQ134 => exact fun _ _ _ h => h
      case hy134 => exact Or.inr ⟨by rfl, rfl⟩
      simp only [List.setIfInBounds_toArray, List.set_cons_zero, List.set_cons_succ]
      refine anyE_tk 19 73 (oi := ?oi135) (v := undef) ?hi135 ?hd135 (by kernel_rfl) (by kernel_rfl) (by kernel_rfl) ?hQ135 ?hy135 hS ?rest135
      case hi135 => simp only [List.getElem?_toArray, List.getElem?_cons_zero, List.getElem?_cons_succ]; rfl
      case hd135 => rfl
      case hQ135 => exact fun _ _ _ h => h
      case hy135 => exact Or.inr ⟨by rfl, rfl⟩
      simp only [List.setIfInBounds_toArray, List.set_cons_zero, List.set_cons_succ]
      refine anyE_tk 20 74 (oi := ?oi136) (v := undef) ?hi136 ?hd136 (by kernel_rfl) (by kernel_rfl) (by kernel_rfl) ?hQ136 ?hy136 hS ?rest136
      case hi136 => simp only [List.getElem?_toArray, List.getElem?_cons_zero, List.getElem?_cons_succ]; rfl
      case hd136 => rfl
      case hQ136 => exact fun _ _ _ h => h
      case hy136 => exact Or.inr ⟨by rfl, rfl⟩
      simp only [List.setIfInBounds_toArray, List.set_cons_zero, List.set_cons_succ]
      refine anyE_tk 21 75 (oi := ?oi137) (v := undef) ?hi137 ?hd137 (by kernel_rfl) (by kernel_rfl) (by kernel_rfl) ?hQ137 ?hy137 hS ?rest137
      case hi137 => simp only [List.getElem?_toArray, List.getElem?_cons_zero, List.getElem?_cons_succ]; rfl
      case hd137 => rfl
      case hQ137 => exact fun _ _ _ h => h
      case hy137 => exact Or.inr ⟨by rfl, rfl⟩
      simp only [List.setIfInBounds_toArray, List.set_cons_zero, List.set_cons_succ]
      refine anyE_tk 22 76 (oi := ?oi138) (v := undef) ?hi138 ?hd138 (by kernel_rfl) (by kernel_rfl) (by kernel_rfl) ?hQ138 ?hy138 hS ?rest138
      case hi138 => simp only [List.getElem?_toArray, List.getElem?_cons_zero, List.getElem?_cons_succ]; rfl
      case hd138 => rfl
      case hQ138 => exact fun _ _ _ h => h
      case hy138 => exact Or.inr ⟨by rfl, rfl⟩
      simp only [List.setIfInBounds_toArray, List.set_cons_zero, List.set_cons_succ]
      refine anyE_tk 23 77 (oi := ?oi139) (v := undef) ?hi139 ?hd139 (by kernel_rfl) (by kernel_rfl) (by kernel_rfl) ?hQ139 ?hy139 hS ?rest139
      case hi139 => simp only [List.getElem?_toArray, List.getElem?_cons_zero, List.getElem?_cons_succ]; rfl
      case hd139 => rfl
      case hQ139 => exact fun _ _ _ h => h
      case hy139 => exact Or.inr ⟨by rfl, rfl⟩
      simp only [List.setIfInBounds_toArray, List.set_cons_zero, List.set_cons_succ]
      refine anyE_tk 24 78 (oi := ?oi140) (v := undef) ?hi140 ?hd140 (by kernel_rfl) (by kernel_rfl) (by kernel_rfl) ?hQ140 ?hy140 hS ?rest140
      case hi140 => simp only [List.getElem?_toArray, List.getElem?_cons_zero, List.getElem?_cons_succ]; rfl
      case hd140 => rfl
      case hQ140 => exact fun _ _ _ h => h
      case hy140 => exact Or.inr ⟨by rfl, rfl⟩
      simp only [List.setIfInBounds_toArray, List.set_cons_zero, List.set_cons_succ]
      refine anyE_tk 25 79 (oi := ?oi141) (v := undef) ?hi141 ?hd141 (by kernel_rfl) (by kernel_rfl) (by kernel_rfl) ?hQ141 ?hy141 hS ?rest141
      case hi141 => simp only [List.getElem?_toArray, List.getElem?_cons_zero, List.getElem?_cons_succ]; rfl
      case hd141 => rfl
      case hQ141 => exact fun _ _ _ h => h
      case hy141 => exact Or.inr ⟨by rfl, rfl⟩
      simp only [List.setIfInBounds_toArray, List.set_cons_zero, List.set_cons_succ]
      refine anyE_tk 26 80 (oi := ?oi142) (v := undef) ?hi142 ?hd142 (by kernel_rfl) (by kernel_rfl) (by kernel_rfl) ?hQ142 ?hy142 hS ?rest142
      case hi142 => simp only [List.getElem?_toArray, List.getElem?_cons_zero, List.getElem?_cons_succ]; rfl
      case hd142 => rfl
      case hQ142 => exact fun _ _ _ h => h
      case hy142 => exact Or.inr ⟨by rfl, rfl⟩
      simp only [List.setIfInBounds_toArray, List.set_cons_zero, List.set_cons_succ]
      refine anyE_tk 27 81 (oi := ?oi143) (v := ?v143) ?hi143 ?hd143 (by kernel_rfl) (by kernel_rfl) (by kernel_rfl) ?hQ143 ?hy143 hS ?rest143
      case hi143 => simp only [List.getElem?_toArray, List.getElem?_cons_zero, List.getElem?_cons_succ]; rfl
      case hd143 => rfl
      case hQ143 => exact fun _ _ _ h => h
      case hy143 => (refine Or.inl ⟨by rfl, ?_⟩; intro w hSw; (try dsimp only at hSw); go_simp; try with_reducible rfl)
      simp only [List.setIfInBounds_toArray, List.set_cons_zero, List.set_cons_succ]
      refine anyE_tk 28 82 (oi := ?oi144) (v := ?v144) ?hi144 ?hd144 (by kernel_rfl) (by kernel_rfl) (by kernel_rfl) ?hQ144 ?hy144 hS ?rest144
      case hi144 => simp only [List.getElem?_toArray, List.getElem?_cons_zero, List.getElem?_cons_succ]; rfl
      case hd144 => rfl
      case hQ144 => exact fun _ _ _ h => h
      case hy144 => (refine Or.inl ⟨by rfl, ?_⟩; intro w hSw; (try dsimp only at hSw); go_simp; try with_reducible rfl)
      simp only [List.setIfInBounds_toArray, List.set_cons_zero, List.set_cons_succ]
      refine anyE_tk 29 83 (oi := ?oi145) (v := undef) ?hi145 ?hd145 (by kernel_rfl) (by kernel_rfl) (by kernel_rfl) ?hQ145 ?hy145 hS ?rest145
      case hi145 => simp only [List.getElem?_toArray, List.getElem?_cons_zero, List.getElem?_cons_succ]; rfl
      case hd145 => rfl
      case hQ145 => exact fun _ _ _ h => h
      case hy145 => exact Or.inr ⟨by rfl, rfl⟩
      simp only [List.setIfInBounds_toArray, List.set_cons_zero, List.set_cons_succ]
      refine anyE_tk 30 84 (oi := ?oi146) (v := undef) ?hi146 ?hd146 (by kernel_rfl) (by kernel_rfl) (by kernel_rfl) ?hQ146 ?hy146 hS ?rest146
      case hi146 => simp only [List.getElem?_toArray, List.getElem?_cons_zero, List.getElem?_cons_succ]; rfl
      case hd146 => rfl
      case hQ146 => exact fun _ _ _ h => h
      case hy146 => exact Or.inr ⟨by rfl, rfl⟩
      simp only [List.setIfInBounds_toArray, List.set_cons_zero, List.set_cons_succ]
      refine anyE_tk 31 85 (oi := ?oi147) (v := undef) ?hi147 ?hd147 (by kernel_rfl) (by kernel_rfl) (by kernel_rfl) ?hQ147 ?hy147 hS ?rest147
      case hi147 => simp only [List.getElem?_toArray, List.getElem?_cons_zero, List.getElem?_cons_succ]; rfl
      case hd147 => rfl
      case hQ147 => exact fun _ _ _ h => h
      case hy147 => exact Or.inr ⟨by rfl, rfl⟩
      simp only [List.setIfInBounds_toArray, List.set_cons_zero, List.set_cons_succ]
      refine anyE_tk 32 86 (oi := ?oi148) (v := undef) ?hi148 ?hd148 (by kernel_rfl) (by kernel_rfl) (by kernel_rfl) ?hQ148 ?hy148 hS ?rest148
      case hi148 => simp only [List.getElem?_toArray, List.getElem?_cons_zero, List.getElem?_cons_succ]; rfl
      case hd148 => rfl
      case hQ148 => exact fun _ _ _ h => h
      case hy148 => exact Or.inr ⟨by rfl, rfl⟩
      simp only [List.setIfInBounds_toArray, List.set_cons_zero, List.set_cons_succ]
      refine anyE_tk 33 87 (oi := ?oi149) (v := undef) ?hi149 ?hd149 (by kernel_rfl) (by kernel_rfl) (by kernel_rfl) ?hQ149 ?hy149 hS ?rest149
      case hi149 => simp only [List.getElem?_toArray, List.getElem?_cons_zero, List.getElem?_cons_succ]; rfl
      case hd149 => rfl
      case hQ149 => exact fun _ _ _ h => h
      case hy149 => exact Or.inr ⟨by rfl, rfl⟩
      simp only [List.setIfInBounds_toArray, List.set_cons_zero, List.set_cons_succ]
      refine anyE_tk 34 88 (oi := ?oi150) (v := undef) ?hi150 ?hd150 (by kernel_rfl) (by kernel_rfl) (by kernel_rfl) ?hQ150 ?hy150 hS ?rest150
      case hi150 => simp only [List.getElem?_toArray, List.getElem?_cons_zero, List.getElem?_cons_succ]; rfl
      case hd150 => rfl
      case hQ150 => exact fun _ _ _ h => h
      case hy150 => exact Or.inr ⟨by rfl, rfl⟩
      simp only [List.setIfInBounds_toArray, List.set_cons_zero, List.set_cons_succ]
      refine anyE_tk 35 89 (oi := ?oi151) (v := undef) ?hi151 ?hd151 (by kernel_rfl) (by kernel_rfl) (by kernel_rfl) ?hQ151 ?hy151 hS ?rest151
      case hi151 => simp only [List.getElem?_toArray, List.getElem?_cons_zero, List.getElem?_cons_succ]; rfl
      case hd151 => rfl
      case hQ151 => exact fun _ _ _ h => h
      case hy151 => exact Or.inr ⟨by rfl, rfl⟩
      simp only [List.setIfInBounds_toArray, List.set_cons_zero, List.set_cons_succ]
      refine anyE_tk 36 90 (oi := ?oi152) (v := undef) ?hi152 ?hd152 (by kernel_rfl) (by kernel_rfl) (by kernel_rfl) ?hQ152 ?hy152 hS ?rest152
      case hi152 => simp only [List.getElem?_toArray, List.getElem?_cons_zero, List.getElem?_cons_succ]; rfl
      case hd152 => rfl
      case hQ152 => exact fun _ _ _ h => h
      case hy152 => exact Or.inr ⟨by rfl, rfl⟩
      simp only [List.setIfInBounds_toArray, List.set_cons_zero, List.set_cons_succ]
      refine anyE_tk 37 91 (oi := ?oi153) (v := undef) ?hi153 ?hd153 (by kernel_rfl) (by kernel_rfl) (by kernel_rfl) ?hQ153 ?hy153 hS ?rest153
      case hi153 => simp only [List.getElem?_toArray, List.getElem?_cons_zero, List.getElem?_cons_succ]; rfl
      case hd153 => rfl
      case hQ153 => exact fun _ _ _ h => h
      case hy153 => exact Or.inr ⟨by rfl, rfl⟩
      simp only [List.setIfInBounds_toArray, List.set_cons_zero, List.set_cons_succ]
      refine anyE_tk 38 92 (oi := ?oi154) (v := ?v154) ?hi154 ?hd154 (by kernel_rfl) (by kernel_rfl) (by kernel_rfl) ?hQ154 ?hy154 hS ?rest154
      case hi154 => simp only [List.getElem?_toArray, List.getElem?_cons_zero, List.getElem?_cons_succ]; rfl
      case hd154 => rfl
      case hQ154 => exact fun _ _ _ h => h
      case hy154 => (refine Or.inl ⟨by rfl, ?_⟩; intro w hSw; (try dsimp only at hSw); go_simp; try with_reducible rfl)
      simp only [List.setIfInBounds_toArray, List.set_cons_zero, List.set_cons_succ]
      refine anyE_tk 39 8 (oi := ?oi155) (v := ?v155) ?hi155 ?hd155 (by kernel_rfl) (by kernel_rfl) (by kernel_rfl) ?hQ155 ?hy155 hS ?rest155
      case hi155 => simp only [List.getElem?_toArray, List.getElem?_cons_zero, List.getElem?_cons_succ]; rfl
      case hd155 => rfl
      case hQ155 => exact fun _ _ _ h => h
      case hy155 => (refine Or.inl ⟨by rfl, ?_⟩; intro w hSw; (try dsimp only at hSw); go_simp; try with_reducible rfl)
      simp only [List.setIfInBounds_toArray, List.set_cons_zero, List.set_cons_succ]
      refine anyE_done (by kernel_rfl) ?_ _
      go_wp2_with fail
      go_ret
      exact ⟨rfl, Hw.out.trans (Below.mono ((Below.refl W0.heap.size W0).drew) Hw.out.size)⟩
    subst h4
    rw [decide_eq_true (show (-1 : Int) = -1 from rfl), Bool.true_and]
    by_cases h5 : r < 0
    · have e1 : decide (0 ≤ r) = false := by simp; omega
      rw [e1, Bool.false_and, Bool.false_and, Bool.false_and]
      clear h h' hI hR hK hbr hs hv hi hb0 hb1 hw0
      go_enter Tryd.func88, Tryd.ntmps88
      go_wp2_with fail
      rw [← hW0]
      clear hW0
      have hS := Keep.out _ (Below.refl W0.heap.size W0).drew
      refine wp_region_E (S := fun W => W.cell? ⟨w.heap.size, 0, none⟩ = some (.int .i64 n) ∧ W.cell? ⟨w.heap.size, 1, none⟩ = some (.slice AI b.its.length cI) ∧ W.cell? ⟨w.heap.size, 2, none⟩ = some (.slice AR b.rus.length cR) ∧ W.cell? ⟨w.heap.size + 1, 0, none⟩ = some (.int .i64 p) ∧ W.cell? ⟨w.heap.size + 1, 1, none⟩ = some (.int .i64 (-1)) ∧ W.cell? ⟨w.heap.size + 1, 2, none⟩ = some (.int .i64 r) ∧ Below W0.heap.size W0 W) (E := fun _ => false) (by kernel_rfl) ?_
      refine anyE_tk 0 54 (oi := ?oi156) (v := ?v156) ?hi156 ?hd156 (by kernel_rfl) (by kernel_rfl) (by kernel_rfl) ?hQ156 ?hy156 hS ?rest156
      case hi156 => simp only [List.getElem?_toArray, List.getElem?_cons_zero, List.getElem?_cons_succ]; rfl
      case hd156 => rfl
      case hQ156 => exact fun _ _ _ h => h
      case hy156 => (refine Or.inl ⟨by rfl, ?_⟩; intro w hSw; (try dsimp only at hSw); go_simp; try with_reducible rfl)
      simp only [List.setIfInBounds_toArray, List.set_cons_zero, List.set_cons_succ]
      refine anyE_tk 1 55 (oi := ?oi157) (v := ?v157) ?hi157 ?hd157 (by kernel_rfl) (by kernel_rfl) (by kernel_rfl) ?hQ157 ?hy157 hS ?rest157
      case hi157 => simp only [List.getElem?_toArray, List.getElem?_cons_zero, List.getElem?_cons_succ]; rfl
      case hd157 => rfl
      case hQ157 => exact fun _ _ _ h => h
      case hy157 => (refine Or.inl ⟨by rfl, ?_⟩; intro w hSw; (try dsimp only at hSw); go_simp; try with_reducible rfl)
      simp only [List.setIfInBounds_toArray, List.set_cons_zero, List.set_cons_succ]
      refine anyE_tk 2 56 (oi := ?oi158) (v := ?v158) ?hi158 ?hd158 (by kernel_rfl) (by kernel_rfl) (by kernel_rfl) ?hQ158 ?hy158 hS ?rest158
      case hi158 => simp only [List.getElem?_toArray, List.getElem?_cons_zero, List.getElem?_cons_succ]; rfl
      case hd158 => rfl
      case hQ158 => exact fun _ _ _ h => h
      case hy158 => (refine Or.inl ⟨by rfl, ?_⟩; intro w hSw; (try dsimp only at hSw); go_simp; try with_reducible rfl)
      simp only [List.setIfInBounds_toArray, List.set_cons_zero, List.set_cons_succ]
      refine anyE_tk 3 57 (oi := ?oi159) (v := ?v159) ?hi159 ?hd159 (by kernel_rfl) (by kernel_rfl) (by kernel_rfl) ?hQ159 ?hy159 hS ?rest159
      case hi159 => simp only [List.getElem?_toArray, List.getElem?_cons_zero, List.getElem?_cons_succ]; rfl
      case hd159 => rfl
      case hQ159 => exact fun _ _ _ h => h
      case hy159 => (refine Or.inl ⟨by rfl, ?_⟩; intro w hSw; (try dsimp only at hSw); go_simp; try with_reducible rfl)
      simp only [List.setIfInBounds_toArray, List.set_cons_zero, List.set_cons_succ]
      refine anyE_tk 4 58 (oi := ?oi160) (v := ?v160) ?hi160 ?hd160 (by kernel_rfl) (by kernel_rfl) (by kernel_rfl) ?hQ160 ?hy160 hS ?rest160
      case hi160 => simp only [List.getElem?_toArray, List.getElem?_cons_zero, List.getElem?_cons_succ]; rfl
      case hd160 => rfl
      case hQ160 => exact fun _ _ _ h => h
      case hy160 => (refine Or.inl ⟨by rfl, ?_⟩; intro w hSw; (try dsimp only at hSw); go_simp; try with_reducible rfl)
      simp only [List.setIfInBounds_toArray, List.set_cons_zero, List.set_cons_succ]
      refine anyE_tk 5 59 (oi := ?oi161) (v := ?v161) ?hi161 ?hd161 (by kernel_rfl) (by kernel_rfl) (by kernel_rfl) ?hQ161 ?hy161 hS ?rest161
      case hi161 => simp only [List.getElem?_toArray, List.getElem?_cons_zero, List.getElem?_cons_succ]; rfl
      case hd161 => rfl
      case hQ161 => exact fun _ _ _ h => h
      case hy161 => (refine Or.inl ⟨by rfl, ?_⟩; intro w hSw; (try dsimp only at hSw); go_simp; try with_reducible rfl)
      simp only [List.setIfInBounds_toArray, List.set_cons_zero, List.set_cons_succ]
      refine anyE_tk 6 60 (oi := ?oi162) (v := ?v162) ?hi162 ?hd162 (by kernel_rfl) (by kernel_rfl) (by kernel_rfl) ?hQ162 ?hy162 hS ?rest162
      case hi162 => simp only [List.getElem?_toArray, List.getElem?_cons_zero, List.getElem?_cons_succ]; rfl
      case hd162 => rfl
      case hQ162 => exact fun _ _ _ h => h
      case hy162 => (refine Or.inl ⟨by rfl, ?_⟩; intro w hSw; (try dsimp only at hSw); go_simp; try with_reducible rfl)
      simp only [List.setIfInBounds_toArray, List.set_cons_zero, List.set_cons_succ]
      refine anyE_tk 7 61 (oi := ?oi163) (v := ?v163) ?hi163 ?hd163 (by kernel_rfl) (by kernel_rfl) (by kernel_rfl) ?hQ163 ?hy163 hS ?rest163
      case hi163 => simp only [List.getElem?_toArray, List.getElem?_cons_zero, List.getElem?_cons_succ]; rfl
      case hd163 => rfl
      case hQ163 => exact fun _ _ _ h => h
      case hy163 => (refine Or.inl ⟨by rfl, ?_⟩; intro w hSw; (try dsimp only at hSw); go_simp; try with_reducible rfl)
      simp only [List.setIfInBounds_toArray, List.set_cons_zero, List.set_cons_succ]
      refine anyE_tk 8 62 (oi := ?oi164) (v := ?v164) ?hi164 ?hd164 (by kernel_rfl) (by kernel_rfl) (by kernel_rfl) ?hQ164 ?hy164 hS ?rest164
      case hi164 => simp only [List.getElem?_toArray, List.getElem?_cons_zero, List.getElem?_cons_succ]; rfl
      case hd164 => rfl
      case hQ164 => exact fun _ _ _ h => h
      case hy164 => (refine Or.inl ⟨by rfl, ?_⟩; intro w hSw; (try dsimp only at hSw); go_simp; try with_reducible rfl)
      simp only [List.setIfInBounds_toArray, List.set_cons_zero, List.set_cons_succ]
      refine anyE_tk 9 63 (oi := ?oi165) (v := undef) ?hi165 ?hd165 (by kernel_rfl) (by kernel_rfl) (by kernel_rfl) ?hQ165 ?hy165 hS ?rest165
      case hi165 => simp only [List.getElem?_toArray, List.getElem?_cons_zero, List.getElem?_cons_succ]; rfl
      case hd165 => rfl
      case hQ165 => exact fun _ _ _ h => h
      case hy165 => exact Or.inr ⟨by rfl, rfl⟩
      simp only [List.setIfInBounds_toArray, List.set_cons_zero, List.set_cons_succ]
      refine anyE_tk 10 64 (oi := ?oi166) (v := undef) ?hi166 ?hd166 (by kernel_rfl) (by kernel_rfl) (by kernel_rfl) ?hQ166 ?hy166 hS ?rest166
      case hi166 => simp only [List.getElem?_toArray, List.getElem?_cons_zero, List.getElem?_cons_succ]; rfl
      case hd166 => rfl
      case hQ166 => exact fun _ _ _ h => h
      case hy166 => exact Or.inr ⟨by rfl, rfl⟩
      simp only [List.setIfInBounds_toArray, List.set_cons_zero, List.set_cons_succ]
      refine anyE_tk 11 65 (oi := ?oi167) (v := undef) ?hi167 ?hd167 (by kernel_rfl) (by kernel_rfl) (by kernel_rfl) ?hQ167 ?hy167 hS ?rest167
      case hi167 => simp only [List.getElem?_toArray, List.getElem?_cons_zero, List.getElem?_cons_succ]; rfl
      case hd167 => rfl
      case hQ167 => exact fun _ _ _ h => h
      case hy167 => exact Or.inr ⟨by rfl, rfl⟩
      simp only [List.setIfInBounds_toArray, List.set_cons_zero, List.set_cons_succ]
      refine anyE_tk 12 66 (oi := ?oi168) (v := undef) ?hi168 ?hd168 (by kernel_rfl) (by kernel_rfl) (by kernel_rfl) ?hQ168 ?hy168 hS ?rest168
      case hi168 => simp only [List.getElem?_toArray, List.getElem?_cons_zero, List.getElem?_cons_succ]; rfl
      case hd168 => rfl
      case hQ168 => exact fun _ _ _ h => h
      case hy168 => exact Or.inr ⟨by rfl, rfl⟩
      simp only [List.setIfInBounds_toArray, List.set_cons_zero, List.set_cons_succ]
      refine anyE_tk 13 67 (oi := ?oi169) (v := undef) ?hi169 ?hd169 (by kernel_rfl) (by kernel_rfl) (by kernel_rfl) ?hQ169 ?hy169 hS ?rest169
      case hi169 => simp only [List.getElem?_toArray, List.getElem?_cons_zero, List.getElem?_cons_succ]; rfl
      case hd169 => rfl
      case hQ169 => exact fun _ _ _ h => h
      case hy169 => exact Or.inr ⟨by rfl, rfl⟩
      simp only [List.setIfInBounds_toArray, List.set_cons_zero, List.set_cons_succ]
      refine anyE_tk 14 68 (oi := ?oi170) (v := undef) ?hi170 ?hd170 (by kernel_rfl) (by kernel_rfl) (by kernel_rfl) ?hQ170 ?hy170 hS ?rest170
      case hi170 => simp only [List.getElem?_toArray, List.getElem?_cons_zero, List.getElem?_cons_succ]; rfl
      case hd170 => rfl
      case hQ170 => exact fun _ _ _ h => h
      case hy170 => exact Or.inr ⟨by rfl, rfl⟩
      simp only [List.setIfInBounds_toArray, List.set_cons_zero, List.set_cons_succ]
      refine anyE_tk 15 69 (oi := ?oi171) (v := ?v171) ?hi171 ?hd171 (by kernel_rfl) (by kernel_rfl) (by kernel_rfl) ?hQ171 ?hy171 hS ?rest171
      case hi171 => simp only [List.getElem?_toArray, List.getElem?_cons_zero, List.getElem?_cons_succ]; rfl
      case hd171 => rfl
      case hQ171 => exact fun _ _ _ h => h
      case hy171 => (refine Or.inl ⟨by rfl, ?_⟩; intro w hSw; (try dsimp only at hSw); go_simp; try with_reducible rfl)
      simp only [List.setIfInBounds_toArray, List.set_cons_zero, List.set_cons_succ]
      refine anyE_tk 16 70 (oi := ?oi172) (v := ?v172) ?hi172 ?hd172 (by kernel_rfl) (by kernel_rfl) (by kernel_rfl) ?hQ172 ?hy172 hS ?rest172
      case hi172 => simp only [List.getElem?_toArray, List.getElem?_cons_zero, List.getElem?_cons_succ]; rfl
      case hd172 => rfl
      case hQ172 => exact fun _ _ _ h => h
      case hy172 => (refine Or.inl ⟨by rfl, ?_⟩; intro w hSw; (try dsimp only at hSw); go_simp; try with_reducible rfl)
      simp only [List.setIfInBounds_toArray, List.set_cons_zero, List.set_cons_succ]
      refine anyE_tk 17 71 (oi := ?oi173) (v := undef) ?hi173 ?hd173 (by kernel_rfl) (by kernel_rfl) (by kernel_rfl) ?hQ173 ?hy173 hS ?rest173
      case hi173 => simp only [List.getElem?_toArray, List.getElem?_cons_zero, List.getElem?_cons_succ]; rfl
      case hd173 => rfl
      case hQ173 => exact fun _ _ _ h => h
      case hy173 => exact Or.inr ⟨by rfl, rfl⟩
      simp only [List.setIfInBounds_toArray, List.set_cons_zero, List.set_cons_succ]
      refine anyE_tk 18 72 (oi := ?oi174) (v := undef) ?hi174 ?hd174 (by kernel_rfl) (by kernel_rfl) (by kernel_rfl) ?hQ174 ?hy174 hS ?rest174
      case hi174 => simp only [List.getElem?_toArray, List.getElem?_cons_zero, List.getElem?_cons_succ]; rfl
      case hd174 => rfl
      case hQ174 => exact fun _ _ _ h => h
      case hy174 => exact Or.inr ⟨by rfl, rfl⟩
      simp only [List.setIfInBounds_toArray, List.set_cons_zero, List.set_cons_succ]
      refine anyE_tk 19 73 (oi := ?oi175) (v := undef) ?hi175 ?hd175 (by kernel_rfl) (by kernel_rfl) (by kernel_rfl) ?hQ175 ?hy175 hS ?rest175
      case hi175 => simp only [List.getElem?_toArray, List.getElem?_cons_zero, List.getElem?_cons_succ]; rfl
      case hd175 => rfl
      case hQ175 => exact fun _ _ _ h => h
      case hy175 => exact Or.inr ⟨by rfl, rfl⟩
      simp only [List.setIfInBounds_toArray, List.set_cons_zero, List.set_cons_succ]
      refine anyE_tk 20 74 (oi := ?oi176) (v := undef) ?hi176 ?hd176 (by kernel_rfl) (by kernel_rfl) (by kernel_rfl) ?hQ176 ?hy176 hS ?rest176
      case hi176 => simp only [List.getElem?_toArray, List.getElem?_cons_zero, List.getElem?_cons_succ]; rfl
      case hd176 => rfl
      case hQ176 => exact fun _ _ _ h => h
      case hy176 => exact Or.inr ⟨by rfl, rfl⟩
      simp only [List.setIfInBounds_toArray, List.set_cons_zero, List.set_cons_succ]
      refine anyE_tk 21 75 (oi := ?oi177) (v := undef) ?hi177 ?hd177 (by kernel_rfl) (by kernel_rfl) (by kernel_rfl) ?hQ177 ?hy177 hS ?rest177
      case hi177 => simp only [List.getElem?_toArray, List.getElem?_cons_zero, List.getElem?_cons_succ]; rfl
      case hd177 => rfl
      case hQ177 => exact fun _ _ _ h => h
      case hy177 => exact Or.inr ⟨by rfl, rfl⟩
      simp only [List.setIfInBounds_toArray, List.set_cons_zero, List.set_cons_succ]
      refine anyE_tk 22 76 (oi := ?oi178) (v := undef) ?hi178 ?hd178 (by kernel_rfl) (by kernel_rfl) (by kernel_rfl) ?hQ178 ?hy178 hS ?rest178
      case hi178 => simp only [List.getElem?_toArray, List.getElem?_cons_zero, List.getElem?_cons_succ]; rfl
      case hd178 => rfl
      case hQ178 => exact fun _ _ _ h => h
      case hy178 => exact Or.inr ⟨by rfl, rfl⟩
      simp only [List.setIfInBounds_toArray, List.set_cons_zero, List.set_cons_succ]
      refine anyE_tk 23 77 (oi := ?oi179) (v := undef) ?hi179 ?hd179 (by kernel_rfl) (by kernel_rfl) (by kernel_rfl) ?hQ179 ?hy179 hS ?rest179
      case hi179 => simp only [List.getElem?_toArray, List.getElem?_cons_zero, List.getElem?_cons_succ]; rfl
      case hd179 => rfl
      case hQ179 => exact fun _ _ _ h => h
      case hy179 => exact Or.inr ⟨by rfl, rfl⟩
      simp only [List.setIfInBounds_toArray, List.set_cons_zero, List.set_cons_succ]
      refine anyE_tk 24 78 (oi := ?oi180) (v := undef) ?hi180 ?hd180 (by kernel_rfl) (by kernel_rfl) (by kernel_rfl) ?hQ180 ?hy180 hS ?rest180
      case hi180 => simp only [List.getElem?_toArray, List.getElem?_cons_zero, List.getElem?_cons_succ]; rfl
      case hd180 => rfl
      case hQ180 => exact fun _ _ _ h => h
      case hy180 => exact Or.inr ⟨by rfl, rfl⟩
      simp only [List.setIfInBounds_toArray, List.set_cons_zero, List.set_cons_succ]
      refine anyE_tk 25 79 (oi := ?oi181) (v := undef) ?hi181 ?hd181 (by kernel_rfl) (by kernel_rfl) (by kernel_rfl) ?hQ181 ?hy181 hS ?rest181
      case hi181 => simp only [List.getElem?_toArray, List.getElem?_cons_zero, List.getElem?_cons_succ]; rfl
      case hd181 => rfl
      case hQ181 => exact fun _ _ _ h => h
      case hy181 => exact Or.inr ⟨by rfl, rfl⟩
      simp only [List.setIfInBounds_toArray, List.set_cons_zero, List.set_cons_succ]
      refine anyE_tk 26 80 (oi := ?oi182) (v := undef) ?hi182 ?hd182 (by kernel_rfl) (by kernel_rfl) (by kernel_rfl) ?hQ182 ?hy182 hS ?rest182
      case hi182 => simp only [List.getElem?_toArray, List.getElem?_cons_zero, List.getElem?_cons_succ]; rfl
      case hd182 => rfl
      case hQ182 => exact fun _ _ _ h => h
      case hy182 => exact Or.inr ⟨by rfl, rfl⟩
      simp only [List.setIfInBounds_toArray, List.set_cons_zero, List.set_cons_succ]
      refine anyE_tk 27 81 (oi := ?oi183) (v := ?v183) ?hi183 ?hd183 (by kernel_rfl) (by kernel_rfl) (by kernel_rfl) ?hQ183 ?hy183 hS ?rest183
      case hi183 => simp only [List.getElem?_toArray, List.getElem?_cons_zero, List.getElem?_cons_succ]; rfl
      case hd183 => rfl
      case hQ183 => exact fun _ _ _ h => h
      case hy183 => (refine Or.inl ⟨by rfl, ?_⟩; intro w hSw; (try dsimp only at hSw); go_simp; try with_reducible rfl)
      simp only [List.setIfInBounds_toArray, List.set_cons_zero, List.set_cons_succ]
      refine anyE_tk 28 82 (oi := ?oi184) (v := ?v184) ?hi184 ?hd184 (by kernel_rfl) (by kernel_rfl) (by kernel_rfl) ?hQ184 ?hy184 hS ?rest184
      case hi184 => simp only [List.getElem?_toArray, List.getElem?_cons_zero, List.getElem?_cons_succ]; rfl
      case hd184 => rfl
      case hQ184 => exact fun _ _ _ h => h
      case hy184 => (refine Or.inl ⟨by rfl, ?_⟩; intro w hSw; (try dsimp only at hSw); go_simp; try with_reducible rfl)
      simp only [List.setIfInBounds_toArray, List.set_cons_zero, List.set_cons_succ]
      refine anyE_tk 29 83 (oi := ?oi185) (v := undef) ?hi185 ?hd185 (by kernel_rfl) (by kernel_rfl) (by kernel_rfl) ?hQ185 ?hy185 hS ?rest185
      case hi185 => simp only [List.getElem?_toArray, List.getElem?_cons_zero, List.getElem?_cons_succ]; rfl
      case hd185 => rfl
      case hQ185 => exact fun _ _ _ h => h
      case hy185 => exact Or.inr ⟨by rfl, rfl⟩
      simp only [List.setIfInBounds_toArray, List.set_cons_zero, List.set_cons_succ]
      refine anyE_tk 30 84 (oi := ?oi186) (v := undef) ?hi186 ?hd186 (by kernel_rfl) (by kernel_rfl) (by kernel_rfl) ?hQ186 ?hy186 hS ?rest186
      case hi186 => simp only [List.getElem?_toArray, List.getElem?_cons_zero, List.getElem?_cons_succ]; rfl
      case hd186 => rfl
      case hQ186 => exact fun _ _ _ h => h
      case hy186 => exact Or.inr ⟨by rfl, rfl⟩
      simp only [List.setIfInBounds_toArray, List.set_cons_zero, List.set_cons_succ]
      refine anyE_tk 31 85 (oi := ?oi187) (v := undef) ?hi187 ?hd187 (by kernel_rfl) (by kernel_rfl) (by kernel_rfl) ?hQ187 ?hy187 hS ?rest187
      case hi187 => simp only [List.getElem?_toArray, List.getElem?_cons_zero, List.getElem?_cons_succ]; rfl
      case hd187 => rfl
      case hQ187 => exact fun _ _ _ h => h
      case hy187 => exact Or.inr ⟨by rfl, rfl⟩
      simp only [List.setIfInBounds_toArray, List.set_cons_zero, List.set_cons_succ]
      refine anyE_tk 32 86 (oi := ?oi188) (v := undef) ?hi188 ?hd188 (by kernel_rfl) (by kernel_rfl) (by kernel_rfl) ?hQ188 ?hy188 hS ?rest188
      case hi188 => simp only [List.getElem?_toArray, List.getElem?_cons_zero, List.getElem?_cons_succ]; rfl
      case hd188 => rfl
      case hQ188 => exact fun _ _ _ h => h
      case hy188 => exact Or.inr ⟨by rfl, rfl⟩
      simp only [List.setIfInBounds_toArray, List.set_cons_zero, List.set_cons_succ]
      refine anyE_tk 33 87 (oi := ?oi189) (v := undef) ?hi189 ?hd189 (by kernel_rfl) (by kernel_rfl) (by kernel_rfl) ?hQ189 ?hy189 hS ?rest189
      case hi189 => simp only [List.getElem?_toArray, List.getElem?_cons_zero, List.getElem?_cons_succ]; rfl
      case hd189 => rfl
      case hQ189 => exact fun _ _ _ h => h
      case hy189 => exact Or.inr ⟨by rfl, rfl⟩
      simp only [List.setIfInBounds_toArray, List.set_cons_zero, List.set_cons_succ]
      refine anyE_tk 34 88 (oi := ?oi190) (v := undef) ?hi190 ?hd190 (by kernel_rfl) (by kernel_rfl) (by kernel_rfl) ?hQ190 ?hy190 hS ?rest190
      case hi190 => simp only [List.getElem?_toArray, List.getElem?_cons_zero, List.getElem?_cons_succ]; rfl
      case hd190 => rfl
      case hQ190 => exact fun _ _ _ h => h
      case hy190 => exact Or.inr ⟨by rfl, rfl⟩
      simp only [List.setIfInBounds_toArray, List.set_cons_zero, List.set_cons_succ]
      refine anyE_tk 35 89 (oi := ?oi191) (v := undef) ?hi191 ?hd191 (by kernel_rfl) (by kernel_rfl) (by kernel_rfl) ?hQ191 ?hy191 hS ?rest191
      case hi191 => simp only [List.getElem?_toArray, List.getElem?_cons_zero, List.getElem?_cons_succ]; rfl
      case hd191 => rfl
      case hQ191 => exact fun _ _ _ h => h
      case hy191 => exact Or.inr ⟨by rfl, rfl⟩
      simp only [List.setIfInBounds_toArray, List.set_cons_zero, List.set_cons_succ]
      refine anyE_tk 36 90 (oi := ?oi192) (v := undef) ?hi192 ?hd192 (by kernel_rfl) (by kernel_rfl) (by kernel_rfl) ?hQ192 ?hy192 hS ?rest192
      case hi192 => simp only [List.getElem?_toArray, List.getElem?_cons_zero, List.getElem?_cons_succ]; rfl
      case hd192 => rfl
      case hQ192 => exact fun _ _ _ h => h
      case hy192 => exact Or.inr ⟨by rfl, rfl⟩
      simp only [List.setIfInBounds_toArray, List.set_cons_zero, List.set_cons_succ]
      refine anyE_tk 37 91 (oi := ?oi193) (v := undef) ?hi193 ?hd193 (by kernel_rfl) (by kernel_rfl) (by kernel_rfl) ?hQ193 ?hy193 hS ?rest193
      case hi193 => simp only [List.getElem?_toArray, List.getElem?_cons_zero, List.getElem?_cons_succ]; rfl
      case hd193 => rfl
      case hQ193 => exact fun _ _ _ h => h
      case hy193 => exact Or.inr ⟨by rfl, rfl⟩
      simp only [List.setIfInBounds_toArray, List.set_cons_zero, List.set_cons_succ]
      refine anyE_tk 38 92 (oi := ?oi194) (v := ?v194) ?hi194 ?hd194 (by kernel_rfl) (by kernel_rfl) (by kernel_rfl) ?hQ194 ?hy194 hS ?rest194
      case hi194 => simp only [List.getElem?_toArray, List.getElem?_cons_zero, List.getElem?_cons_succ]; rfl
      case hd194 => rfl
      case hQ194 => exact fun _ _ _ h => h
      case hy194 => (refine Or.inl ⟨by rfl, ?_⟩; intro w hSw; (try dsimp only at hSw); go_simp; try with_reducible rfl)
      simp only [List.setIfInBounds_toArray, List.set_cons_zero, List.set_cons_succ]
      refine anyE_tk 39 8 (oi := ?oi195) (v := ?v195) ?hi195 ?hd195 (by kernel_rfl) (by kernel_rfl) (by kernel_rfl) ?hQ195 ?hy195 hS ?rest195
      case hi195 => simp only [List.getElem?_toArray, List.getElem?_cons_zero, List.getElem?_cons_succ]; rfl
      case hd195 => rfl
      case hQ195 => exact fun _ _ _ h => h
      case hy195 => (refine Or.inl ⟨by rfl, ?_⟩; intro w hSw; (try dsimp only at hSw); go_simp; try with_reducible rfl)
      simp only [List.setIfInBounds_toArray, List.set_cons_zero, List.set_cons_succ]
      refine anyE_done (by kernel_rfl) ?_ _
      go_wp2_with fail
      go_ret
      exact ⟨rfl, Hw.out.trans (Below.mono ((Below.refl W0.heap.size W0).drew) Hw.out.size)⟩
    have e1 : decide (0 ≤ r) = true := by simp; omega
    rw [e1, Bool.true_and]
    by_cases h6 : (b.rus.length : Int) ≤ r
    · have e2 : decide (r < (b.rus.length : Int)) = false := by simp; omega
      rw [e2, Bool.false_and, Bool.false_and]
      clear h h' hI hR hK hbr hs hv hi hb0 hb1 hw0
      go_enter Tryd.func88, Tryd.ntmps88
      go_wp2_with fail
      rw [← hW0]
      clear hW0
      have hS := Keep.out _ (Below.refl W0.heap.size W0).drew
      refine wp_region_E (S := fun W => W.cell? ⟨w.heap.size, 0, none⟩ = some (.int .i64 n) ∧ W.cell? ⟨w.heap.size, 1, none⟩ = some (.slice AI b.its.length cI) ∧ W.cell? ⟨w.heap.size, 2, none⟩ = some (.slice AR b.rus.length cR) ∧ W.cell? ⟨w.heap.size + 1, 0, none⟩ = some (.int .i64 p) ∧ W.cell? ⟨w.heap.size + 1, 1, none⟩ = some (.int .i64 (-1)) ∧ W.cell? ⟨w.heap.size + 1, 2, none⟩ = some (.int .i64 r) ∧ Below W0.heap.size W0 W) (E := fun _ => false) (by kernel_rfl) ?_
      refine anyE_tk 0 54 (oi := ?oi196) (v := ?v196) ?hi196 ?hd196 (by kernel_rfl) (by kernel_rfl) (by kernel_rfl) ?hQ196 ?hy196 hS ?rest196
      case hi196 => simp only [List.getElem?_toArray, List.getElem?_cons_zero, List.getElem?_cons_succ]; rfl
      case hd196 => rfl
      case hQ196 => exact fun _ _ _ h => h
      case hy196 => (refine Or.inl ⟨by rfl, ?_⟩; intro w hSw; (try dsimp only at hSw); go_simp; try with_reducible rfl)
      simp only [List.setIfInBounds_toArray, List.set_cons_zero, List.set_cons_succ]
      refine anyE_tk 1 55 (oi := ?oi197) (v := ?v197) ?hi197 ?hd197 (by kernel_rfl) (by kernel_rfl) (by kernel_rfl) ?hQ197 ?hy197 hS ?rest197
      case hi197 => simp only [List.getElem?_toArray, List.getElem?_cons_zero, List.getElem?_cons_succ]; rfl
      case hd197 => rfl
      case hQ197 => exact fun _ _ _ h => h
      case hy197 => (refine Or.inl ⟨by rfl, ?_⟩; intro w hSw; (try dsimp only at hSw); go_simp; try with_reducible rfl)
      simp only [List.setIfInBounds_toArray, List.set_cons_zero, List.set_cons_succ]
      refine anyE_tk 2 56 (oi := ?oi198) (v := ?v198) ?hi198 ?hd198 (by kernel_rfl) (by kernel_rfl) (by kernel_rfl) ?hQ198 ?hy198 hS ?rest198
      case hi198 => simp only [List.getElem?_toArray, List.getElem?_cons_zero, List.getElem?_cons_succ]; rfl
      case hd198 => rfl
      case hQ198 => exact fun _ _ _ h => h
      case hy198 => (refine Or.inl ⟨by rfl, ?_⟩; intro w hSw; (try dsimp only at hSw); go_simp; try with_reducible rfl)
      simp only [List.setIfInBounds_toArray, List.set_cons_zero, List.set_cons_succ]
      refine anyE_tk 3 57 (oi := ?oi199) (v := ?v199) ?hi199 ?hd199 (by kernel_rfl) (by kernel_rfl) (by kernel_rfl) ?hQ199 ?hy199 hS ?rest199
      case hi199 => simp only [List.getElem?_toArray, List.getElem?_cons_zero, List.getElem?_cons_succ]; rfl
      case hd199 => rfl
      case hQ199 => exact fun _ _ _ h => h
      case hy199 => (refine Or.inl ⟨by rfl, ?_⟩; intro w hSw; (try dsimp only at hSw); go_simp; try with_reducible rfl)
      simp only [List.setIfInBounds_toArray, List.set_cons_zero, List.set_cons_succ]
      refine anyE_tk 4 58 (oi := ?oi200) (v := ?v200) ?hi200 ?hd200 (by kernel_rfl) (by kernel_rfl) (by kernel_rfl) ?hQ200 ?hy200 hS ?rest200
      case hi200 => simp only [List.getElem?_toArray, List.getElem?_cons_zero, List.getElem?_cons_succ]; rfl
      case hd200 => rfl
      case hQ200 => exact fun _ _ _ h => h
      case hy200 => (refine Or.inl ⟨by rfl, ?_⟩; intro w hSw; (try dsimp only at hSw); go_simp; try with_reducible rfl)
      simp only [List.setIfInBounds_toArray, List.set_cons_zero, List.set_cons_succ]
      refine anyE_tk 5 59 (oi := ?oi201) (v := ?v201) ?hi201 ?hd201 (by kernel_rfl) (by kernel_rfl) (by kernel_rfl) ?hQ201 ?hy201 hS ?rest201
      case hi201 => simp only [List.getElem?_toArray, List.getElem?_cons_zero, List.getElem?_cons_succ]; rfl
      case hd201 => rfl
      case hQ201 => exact fun _ _ _ h => h
      case hy201 => (refine Or.inl ⟨by rfl, ?_⟩; intro w hSw; (try dsimp only at hSw); go_simp; try with_reducible rfl)
      simp only [List.setIfInBounds_toArray, List.set_cons_zero, List.set_cons_succ]
      refine anyE_tk 6 60 (oi := ?oi202) (v := ?v202) ?hi202 ?hd202 (by kernel_rfl) (by kernel_rfl) (by kernel_rfl) ?hQ202 ?hy202 hS ?rest202
      case hi202 => simp only [List.getElem?_toArray, List.getElem?_cons_zero, List.getElem?_cons_succ]; rfl
      case hd202 => rfl
      case hQ202 => exact fun _ _ _ h => h
      case hy202 => (refine Or.inl ⟨by rfl, ?_⟩; intro w hSw; (try dsimp only at hSw); go_simp; try with_reducible rfl)
      simp only [List.setIfInBounds_toArray, List.set_cons_zero, List.set_cons_succ]
      refine anyE_tk 7 61 (oi := ?oi203) (v := ?v203) ?hi203 ?hd203 (by kernel_rfl) (by kernel_rfl) (by kernel_rfl) ?hQ203 ?hy203 hS ?rest203
      case hi203 => simp only [List.getElem?_toArray, List.getElem?_cons_zero, List.getElem?_cons_succ]; rfl
      case hd203 => rfl
      case hQ203 => exact fun _ _ _ h => h
      case hy203 => (refine Or.inl ⟨by rfl, ?_⟩; intro w hSw; (try dsimp only at hSw); go_simp; try with_reducible rfl)
      simp only [List.setIfInBounds_toArray, List.set_cons_zero, List.set_cons_succ]
      refine anyE_tk 8 62 (oi := ?oi204) (v := ?v204) ?hi204 ?hd204 (by kernel_rfl) (by kernel_rfl) (by kernel_rfl) ?hQ204 ?hy204 hS ?rest204
      case hi204 => simp only [List.getElem?_toArray, List.getElem?_cons_zero, List.getElem?_cons_succ]; rfl
      case hd204 => rfl
      case hQ204 => exact fun _ _ _ h => h
      case hy204 => (refine Or.inl ⟨by rfl, ?_⟩; intro w hSw; (try dsimp only at hSw); go_simp; try with_reducible rfl)
      simp only [List.setIfInBounds_toArray, List.set_cons_zero, List.set_cons_succ]
      refine anyE_tk 9 63 (oi := ?oi205) (v := ?v205) ?hi205 ?hd205 (by kernel_rfl) (by kernel_rfl) (by kernel_rfl) ?hQ205 ?hy205 hS ?rest205
      case hi205 => simp only [List.getElem?_toArray, List.getElem?_cons_zero, List.getElem?_cons_succ]; rfl
      case hd205 => rfl
      case hQ205 => exact fun _ _ _ h => h
      case hy205 => (refine Or.inl ⟨by rfl, ?_⟩; intro w hSw; (try dsimp only at hSw); go_simp; try with_reducible rfl)
      simp only [List.setIfInBounds_toArray, List.set_cons_zero, List.set_cons_succ]
      refine anyE_tk 10 64 (oi := ?oi206) (v := ?v206) ?hi206 ?hd206 (by kernel_rfl) (by kernel_rfl) (by kernel_rfl) ?hQ206 ?hy206 hS ?rest206
      case hi206 => simp only [List.getElem?_toArray, List.getElem?_cons_zero, List.getElem?_cons_succ]; rfl
      case hd206 => rfl
      case hQ206 => exact fun _ _ _ h => h
      case hy206 => (refine Or.inl ⟨by rfl, ?_⟩; intro w hSw; (try dsimp only at hSw); go_simp; try with_reducible rfl)
      simp only [List.setIfInBounds_toArray, List.set_cons_zero, List.set_cons_succ]
      refine anyE_tk 11 65 (oi := ?oi207) (v := ?v207) ?hi207 ?hd207 (by kernel_rfl) (by kernel_rfl) (by kernel_rfl) ?hQ207 ?hy207 hS ?rest207
      case hi207 => simp only [List.getElem?_toArray, List.getElem?_cons_zero, List.getElem?_cons_succ]; rfl
      case hd207 => rfl
      case hQ207 => exact fun _ _ _ h => h
      case hy207 => (refine Or.inl ⟨by rfl, ?_⟩; intro w hSw; (try dsimp only at hSw); go_simp; try with_reducible rfl)
      simp only [List.setIfInBounds_toArray, List.set_cons_zero, List.set_cons_succ]
      refine anyE_tk 12 66 (oi := ?oi208) (v := ?v208) ?hi208 ?hd208 (by kernel_rfl) (by kernel_rfl) (by kernel_rfl) ?hQ208 ?hy208 hS ?rest208
      case hi208 => simp only [List.getElem?_toArray, List.getElem?_cons_zero, List.getElem?_cons_succ]; rfl
      case hd208 => rfl
      case hQ208 => exact fun _ _ _ h => h
      case hy208 => (refine Or.inl ⟨by rfl, ?_⟩; intro w hSw; (try dsimp only at hSw); go_simp; try with_reducible rfl)
      simp only [List.setIfInBounds_toArray, List.set_cons_zero, List.set_cons_succ]
      refine anyE_tk 13 67 (oi := ?oi209) (v := ?v209) ?hi209 ?hd209 (by kernel_rfl) (by kernel_rfl) (by kernel_rfl) ?hQ209 ?hy209 hS ?rest209
      case hi209 => simp only [List.getElem?_toArray, List.getElem?_cons_zero, List.getElem?_cons_succ]; rfl
      case hd209 => rfl
      case hQ209 => exact fun _ _ _ h => h
      case hy209 => (refine Or.inl ⟨by rfl, ?_⟩; intro w hSw; (try dsimp only at hSw); go_simp; try with_reducible rfl)
      simp only [List.setIfInBounds_toArray, List.set_cons_zero, List.set_cons_succ]
      refine anyE_tk 14 68 (oi := ?oi210) (v := ?v210) ?hi210 ?hd210 (by kernel_rfl) (by kernel_rfl) (by kernel_rfl) ?hQ210 ?hy210 hS ?rest210
      case hi210 => simp only [List.getElem?_toArray, List.getElem?_cons_zero, List.getElem?_cons_succ]; rfl
      case hd210 => rfl
      case hQ210 => exact fun _ _ _ h => h
      case hy210 => (refine Or.inl ⟨by rfl, ?_⟩; intro w hSw; (try dsimp only at hSw); go_simp; try with_reducible rfl)
      simp only [List.setIfInBounds_toArray, List.set_cons_zero, List.set_cons_succ]
      refine anyE_tk 15 69 (oi := ?oi211) (v := ?v211) ?hi211 ?hd211 (by kernel_rfl) (by kernel_rfl) (by kernel_rfl) ?hQ211 ?hy211 hS ?rest211
      case hi211 => simp only [List.getElem?_toArray, List.getElem?_cons_zero, List.getElem?_cons_succ]; rfl
      case hd211 => rfl
      case hQ211 => exact fun _ _ _ h => h
      case hy211 => (refine Or.inl ⟨by rfl, ?_⟩; intro w hSw; (try dsimp only at hSw); go_simp; try with_reducible rfl)
      simp only [List.setIfInBounds_toArray, List.set_cons_zero, List.set_cons_succ]
      refine anyE_tk 16 70 (oi := ?oi212) (v := ?v212) ?hi212 ?hd212 (by kernel_rfl) (by kernel_rfl) (by kernel_rfl) ?hQ212 ?hy212 hS ?rest212
      case hi212 => simp only [List.getElem?_toArray, List.getElem?_cons_zero, List.getElem?_cons_succ]; rfl
      case hd212 => rfl
      case hQ212 => exact fun _ _ _ h => h
      case hy212 => (refine Or.inl ⟨by rfl, ?_⟩; intro w hSw; (try dsimp only at hSw); go_simp; try with_reducible rfl)
      simp only [List.setIfInBounds_toArray, List.set_cons_zero, List.set_cons_succ]
      refine anyE_tk 17 71 (oi := ?oi213) (v := undef) ?hi213 ?hd213 (by kernel_rfl) (by kernel_rfl) (by kernel_rfl) ?hQ213 ?hy213 hS ?rest213
      case hi213 => simp only [List.getElem?_toArray, List.getElem?_cons_zero, List.getElem?_cons_succ]; rfl
      case hd213 => rfl
      case hQ213 => exact fun _ _ _ h => h
      case hy213 => exact Or.inr ⟨by rfl, rfl⟩
      simp only [List.setIfInBounds_toArray, List.set_cons_zero, List.set_cons_succ]
      refine anyE_tk 18 72 (oi := ?oi214) (v := undef) ?hi214 ?hd214 (by kernel_rfl) (by kernel_rfl) (by kernel_rfl) ?hQ214 ?hy214 hS ?rest214
      case hi214 => simp only [List.getElem?_toArray, List.getElem?_cons_zero, List.getElem?_cons_succ]; rfl
      case hd214 => rfl
      case hQ214 => exact fun _ _ _ h => h
      case hy214 => exact Or.inr ⟨by rfl, rfl⟩
      simp only [List.setIfInBounds_toArray, List.set_cons_zero, List.set_cons_succ]
      refine anyE_tk 19 73 (oi := ?oi215) (v := undef) ?hi215 ?hd215 (by kernel_rfl) (by kernel_rfl) (by kernel_rfl) ?hQ215 ?hy215 hS ?rest215
      case hi215 => simp only [List.getElem?_toArray, List.getElem?_cons_zero, List.getElem?_cons_succ]; rfl
      case hd215 => rfl
      case hQ215 => exact fun _ _ _ h => h
      case hy215 => exact Or.inr ⟨by rfl, rfl⟩
      simp only [List.setIfInBounds_toArray, List.set_cons_zero, List.set_cons_succ]
      refine anyE_tk 20 74 (oi := ?oi216) (v := undef) ?hi216 ?hd216 (by kernel_rfl) (by kernel_rfl) (by kernel_rfl) ?hQ216 ?hy216 hS ?rest216
      case hi216 => simp only [List.getElem?_toArray, List.getElem?_cons_zero, List.getElem?_cons_succ]; rfl
      case hd216 => rfl
      case hQ216 => exact fun _ _ _ h => h
      case hy216 => exact Or.inr ⟨by rfl, rfl⟩
      simp only [List.setIfInBounds_toArray, List.set_cons_zero, List.set_cons_succ]
      refine anyE_tk 21 75 (oi := ?oi217) (v := undef) ?hi217 ?hd217 (by kernel_rfl) (by kernel_rfl) (by kernel_rfl) ?hQ217 ?hy217 hS ?rest217
      case hi217 => simp only [List.getElem?_toArray, List.getElem?_cons_zero, List.getElem?_cons_succ]; rfl
      case hd217 => rfl
      case hQ217 => exact fun _ _ _ h => h
      case hy217 => exact Or.inr ⟨by rfl, rfl⟩
      simp only [List.setIfInBounds_toArray, List.set_cons_zero, List.set_cons_succ]
      refine anyE_tk 22 76 (oi := ?oi218) (v := undef) ?hi218 ?hd218 (by kernel_rfl) (by kernel_rfl) (by kernel_rfl) ?hQ218 ?hy218 hS ?rest218
      case hi218 => simp only [List.getElem?_toArray, List.getElem?_cons_zero, List.getElem?_cons_succ]; rfl
      case hd218 => rfl
      case hQ218 => exact fun _ _ _ h => h
      case hy218 => exact Or.inr ⟨by rfl, rfl⟩
      simp only [List.setIfInBounds_toArray, List.set_cons_zero, List.set_cons_succ]
      refine anyE_tk 23 77 (oi := ?oi219) (v := undef) ?hi219 ?hd219 (by kernel_rfl) (by kernel_rfl) (by kernel_rfl) ?hQ219 ?hy219 hS ?rest219
      case hi219 => simp only [List.getElem?_toArray, List.getElem?_cons_zero, List.getElem?_cons_succ]; rfl
      case hd219 => rfl
      case hQ219 => exact fun _ _ _ h => h
      case hy219 => exact Or.inr ⟨by rfl, rfl⟩
      simp only [List.setIfInBounds_toArray, List.set_cons_zero, List.set_cons_succ]
      refine anyE_tk 24 78 (oi := ?oi220) (v := undef) ?hi220 ?hd220 (by kernel_rfl) (by kernel_rfl) (by kernel_rfl) ?hQ220 ?hy220 hS ?rest220
      case hi220 => simp only [List.getElem?_toArray, List.getElem?_cons_zero, List.getElem?_cons_succ]; rfl
      case hd220 => rfl
      case hQ220 => exact fun _ _ _ h => h
      case hy220 => exact Or.inr ⟨by rfl, rfl⟩
      simp only [List.setIfInBounds_toArray, List.set_cons_zero, List.set_cons_succ]
      refine anyE_tk 25 79 (oi := ?oi221) (v := undef) ?hi221 ?hd221 (by kernel_rfl) (by kernel_rfl) (by kernel_rfl) ?hQ221 ?hy221 hS ?rest221
      case hi221 => simp only [List.getElem?_toArray, List.getElem?_cons_zero, List.getElem?_cons_succ]; rfl
      case hd221 => rfl
      case hQ221 => exact fun _ _ _ h => h
      case hy221 => exact Or.inr ⟨by rfl, rfl⟩
      simp only [List.setIfInBounds_toArray, List.set_cons_zero, List.set_cons_succ]
      refine anyE_tk 26 80 (oi := ?oi222) (v := undef) ?hi222 ?hd222 (by kernel_rfl) (by kernel_rfl) (by kernel_rfl) ?hQ222 ?hy222 hS ?rest222
      case hi222 => simp only [List.getElem?_toArray, List.getElem?_cons_zero, List.getElem?_cons_succ]; rfl
      case hd222 => rfl
      case hQ222 => exact fun _ _ _ h => h
      case hy222 => exact Or.inr ⟨by rfl, rfl⟩
      simp only [List.setIfInBounds_toArray, List.set_cons_zero, List.set_cons_succ]
      refine anyE_tk 27 81 (oi := ?oi223) (v := ?v223) ?hi223 ?hd223 (by kernel_rfl) (by kernel_rfl) (by kernel_rfl) ?hQ223 ?hy223 hS ?rest223
      case hi223 => simp only [List.getElem?_toArray, List.getElem?_cons_zero, List.getElem?_cons_succ]; rfl
      case hd223 => rfl
      case hQ223 => exact fun _ _ _ h => h
      case hy223 => (refine Or.inl ⟨by rfl, ?_⟩; intro w hSw; (try dsimp only at hSw); go_simp; try with_reducible rfl)
      simp only [List.setIfInBounds_toArray, List.set_cons_zero, List.set_cons_succ]
      refine anyE_tk 28 82 (oi := ?oi224) (v := ?v224) ?hi224 ?hd224 (by kernel_rfl) (by kernel_rfl) (by kernel_rfl) ?hQ224 ?hy224 hS ?rest224
      case hi224 => simp only [List.getElem?_toArray, List.getElem?_cons_zero, List.getElem?_cons_succ]; rfl
      case hd224 => rfl
      case hQ224 => exact fun _ _ _ h => h
      case hy224 => (refine Or.inl ⟨by rfl, ?_⟩; intro w hSw; (try dsimp only at hSw); go_simp; try with_reducible rfl)
      simp only [List.setIfInBounds_toArray, List.set_cons_zero, List.set_cons_succ]
      refine anyE_tk 29 83 (oi := ?oi225) (v := undef) ?hi225 ?hd225 (by kernel_rfl) (by kernel_rfl) (by kernel_rfl) ?hQ225 ?hy225 hS ?rest225
      case hi225 => simp only [List.getElem?_toArray, List.getElem?_cons_zero, List.getElem?_cons_succ]; rfl
      case hd225 => rfl
      case hQ225 => exact fun _ _ _ h => h
      case hy225 => exact Or.inr ⟨by rfl, rfl⟩
      simp only [List.setIfInBounds_toArray, List.set_cons_zero, List.set_cons_succ]
      refine anyE_tk 30 84 (oi := ?oi226) (v := undef) ?hi226 ?hd226 (by kernel_rfl) (by kernel_rfl) (by kernel_rfl) ?hQ226 ?hy226 hS ?rest226
      case hi226 => simp only [List.getElem?_toArray, List.getElem?_cons_zero, List.getElem?_cons_succ]; rfl
      case hd226 => rfl
      case hQ226 => exact fun _ _ _ h => h
      case hy226 => exact Or.inr ⟨by rfl, rfl⟩
      simp only [List.setIfInBounds_toArray, List.set_cons_zero, List.set_cons_succ]
      refine anyE_tk 31 85 (oi := ?oi227) (v := undef) ?hi227 ?hd227 (by kernel_rfl) (by kernel_rfl) (by kernel_rfl) ?hQ227 ?hy227 hS ?rest227
      case hi227 => simp only [List.getElem?_toArray, List.getElem?_cons_zero, List.getElem?_cons_succ]; rfl
      case hd227 => rfl
      case hQ227 => exact fun _ _ _ h => h
      case hy227 => exact Or.inr ⟨by rfl, rfl⟩
      simp only [List.setIfInBounds_toArray, List.set_cons_zero, List.set_cons_succ]
      refine anyE_tk 32 86 (oi := ?oi228) (v := undef) ?hi228 ?hd228 (by kernel_rfl) (by kernel_rfl) (by kernel_rfl) ?hQ228 ?hy228 hS ?rest228
      case hi228 => simp only [List.getElem?_toArray, List.getElem?_cons_zero, List.getElem?_cons_succ]; rfl
      case hd228 => rfl
      case hQ228 => exact fun _ _ _ h => h
      case hy228 => exact Or.inr ⟨by rfl, rfl⟩
      simp only [List.setIfInBounds_toArray, List.set_cons_zero, List.set_cons_succ]
      refine anyE_tk 33 87 (oi := ?oi229) (v := undef) ?hi229 ?hd229 (by kernel_rfl) (by kernel_rfl) (by kernel_rfl) ?hQ229 ?hy229 hS ?rest229
      case hi229 => simp only [List.getElem?_toArray, List.getElem?_cons_zero, List.getElem?_cons_succ]; rfl
      case hd229 => rfl
      case hQ229 => exact fun _ _ _ h => h
      case hy229 => exact Or.inr ⟨by rfl, rfl⟩
      simp only [List.setIfInBounds_toArray, List.set_cons_zero, List.set_cons_succ]
      refine anyE_tk 34 88 (oi := ?oi230) (v := undef) ?hi230 ?hd230 (by kernel_rfl) (by kernel_rfl) (by kernel_rfl) ?hQ230 ?hy230 hS ?rest230
      case hi230 => simp only [List.getElem?_toArray, List.getElem?_cons_zero, List.getElem?_cons_succ]; rfl
      case hd230 => rfl
      case hQ230 => exact fun _ _ _ h => h
      case hy230 => exact Or.inr ⟨by rfl, rfl⟩
      simp only [List.setIfInBounds_toArray, List.set_cons_zero, List.set_cons_succ]
      refine anyE_tk 35 89 (oi := ?oi231) (v := undef) ?hi231 ?hd231 (by kernel_rfl) (by kernel_rfl) (by kernel_rfl) ?hQ231 ?hy231 hS ?rest231
      case hi231 => simp only [List.getElem?_toArray, List.getElem?_cons_zero, List.getElem?_cons_succ]; rfl
      case hd231 => rfl
      case hQ231 => exact fun _ _ _ h => h
      case hy231 => exact Or.inr ⟨by rfl, rfl⟩
      simp only [List.setIfInBounds_toArray, List.set_cons_zero, List.set_cons_succ]
      refine anyE_tk 36 90 (oi := ?oi232) (v := undef) ?hi232 ?hd232 (by kernel_rfl) (by kernel_rfl) (by kernel_rfl) ?hQ232 ?hy232 hS ?rest232
      case hi232 => simp only [List.getElem?_toArray, List.getElem?_cons_zero, List.getElem?_cons_succ]; rfl
      case hd232 => rfl
      case hQ232 => exact fun _ _ _ h => h
      case hy232 => exact Or.inr ⟨by rfl, rfl⟩
      simp only [List.setIfInBounds_toArray, List.set_cons_zero, List.set_cons_succ]
      refine anyE_tk 37 91 (oi := ?oi233) (v := undef) ?hi233 ?hd233 (by kernel_rfl) (by kernel_rfl) (by kernel_rfl) ?hQ233 ?hy233 hS ?rest233
      case hi233 => simp only [List.getElem?_toArray, List.getElem?_cons_zero, List.getElem?_cons_succ]; rfl
      case hd233 => rfl
      case hQ233 => exact fun _ _ _ h => h
      case hy233 => exact Or.inr ⟨by rfl, rfl⟩
      simp only [List.setIfInBounds_toArray, List.set_cons_zero, List.set_cons_succ]
      refine anyE_tk 38 92 (oi := ?oi234) (v := ?v234) ?hi234 ?hd234 (by kernel_rfl) (by kernel_rfl) (by kernel_rfl) ?hQ234 ?hy234 hS ?rest234
      case hi234 => simp only [List.getElem?_toArray, List.getElem?_cons_zero, List.getElem?_cons_succ]; rfl
      case hd234 => rfl
      case hQ234 => exact fun _ _ _ h => h
      case hy234 => (refine Or.inl ⟨by rfl, ?_⟩; intro w hSw; (try dsimp only at hSw); go_simp; try with_reducible rfl)
      simp only [List.setIfInBounds_toArray, List.set_cons_zero, List.set_cons_succ]
      refine anyE_tk 39 8 (oi := ?oi235) (v := ?v235) ?hi235 ?hd235 (by kernel_rfl) (by kernel_rfl) (by kernel_rfl) ?hQ235 ?hy235 hS ?rest235
      case hi235 => simp only [List.getElem?_toArray, List.getElem?_cons_zero, List.getElem?_cons_succ]; rfl
      case hd235 => rfl
      case hQ235 => exact fun _ _ _ h => h
      case hy235 => (refine Or.inl ⟨by rfl, ?_⟩; intro w hSw; (try dsimp only at hSw); go_simp; try with_reducible rfl)
      simp only [List.setIfInBounds_toArray, List.set_cons_zero, List.set_cons_succ]
      refine anyE_done (by kernel_rfl) ?_ _
      go_wp2_with fail
      go_ret
      exact ⟨rfl, Hw.out.trans (Below.mono ((Below.refl W0.heap.size W0).drew) Hw.out.size)⟩
    obtain ⟨rk, rfl⟩ := Int.eq_ofNat_of_zero_le (show 0 ≤ r by omega)
    have e2 : decide ((rk : Int) < (b.rus.length : Int)) = true := by simp; omega
    rw [e2, Bool.true_and, show ((rk : Int)).toNat = rk from rfl]
    have hrl : rk < b.rus.length := by omega
    rw [List.getElem?_eq_getElem hrl, Option.getD_some]
    obtain ⟨bb, off, A1, c1, rfl, hbB, q0, q1, i1⟩ := hR rk hrl
    have hl2 := hs.2.2.2 b.rus[rk] (List.getElem_mem hrl)
    obtain ⟨hset, _, _⟩ := ruOk_mem (hv.rules b.rus[rk] (List.getElem_mem hrl))
    rw [HN.out] at hset
    have hin : intL (natL b.rus[rk].1) = b.rus[rk].1 := int_nat fun x hx => (isS_mem hset x hx).1
    have hqn : ∀ q ∈ natL b.rus[rk].1, q < n := natL_lt (isS_mem hset)
    have hlen : b.rus[rk].1.length = (natL b.rus[rk].1).length := by rw [natL_length]
    rw [← hin] at i1
    rw [hlen] at q0 hl2
    generalize b.rus[rk].2 = t at q1 ⊢
    generalize natL b.rus[rk].1 = L at i1 hqn q0 hl2 ⊢
    have c100 := Lib.hid (fun W (hW : Below W0.heap.size W0 W) => all_ref g c' K n A1 c1 W0.heap.size L W (hK.below hW hK.1) (i1.below hW (Nat.le_refl _)) (by omega) hqn)
    have KeepH := Lib.hid (fun W (hW : Below W0.heap.size W0 W) => show W.cell? ⟨w.heap.size, 0, none⟩ = some (.int .i64 n) ∧ W.cell? ⟨w.heap.size, 1, none⟩ = some (.slice AI b.its.length cI) ∧ W.cell? ⟨w.heap.size, 2, none⟩ = some (.slice (some ⟨bb, off, none⟩) b.rus.length cR) ∧ W.cell? ⟨w.heap.size + 1, 0, none⟩ = some (.int .i64 p) ∧ W.cell? ⟨w.heap.size + 1, 1, none⟩ = some (.int .i64 (-1)) ∧ W.cell? ⟨w.heap.size + 1, 2, none⟩ = some (.int .i64 (rk : Int)) ∧ Below W0.heap.size W0 W ∧ W.cell? ⟨bb, off + rk * 2, none⟩ = some (.slice A1 L.length c1) ∧ W.cell? ⟨bb, off + rk * 2 + 1, none⟩ = some (.int .i64 t) from by
      obtain ⟨z0, z1, z2, y0, y1, y2, h7⟩ := Keep.out W hW
      exact ⟨z0, z1, z2, y0, y1, y2, h7, (hW.cell (p := ⟨bb, off + rk * 2, none⟩) hbB).trans q0, (hW.cell (p := ⟨bb, off + rk * 2 + 1, none⟩) hbB).trans q1⟩)
    have k0 : (0 : Int) ≤ (rk : Int) := by omega
    have k1 : (rk : Int) < (b.rus.length : Int) := by omega
    generalize allB K L = al at c100 ⊢
    clear h h' hI hK hbr hs hv hi hb0 hb1 hw0 q0 q1 i1 hin hqn hset hlen hl2 Keep
    by_cases h7 : t = p
    case neg =>
      have e3 : decide (t = p) = false := by simpa using h7
      have e4 : (t == p) = false := by simpa using h7
      rw [e3, Bool.false_and]
      go_enter Tryd.func88, Tryd.ntmps88
      go_wp2_with fail
      rw [← hW0]
      clear hW0
      have hS := KeepH.out _ (Below.refl W0.heap.size W0).drew
      refine wp_region_E (S := fun W => W.cell? ⟨w.heap.size, 0, none⟩ = some (.int .i64 n) ∧ W.cell? ⟨w.heap.size, 1, none⟩ = some (.slice AI b.its.length cI) ∧ W.cell? ⟨w.heap.size, 2, none⟩ = some (.slice (some ⟨bb, off, none⟩) b.rus.length cR) ∧ W.cell? ⟨w.heap.size + 1, 0, none⟩ = some (.int .i64 p) ∧ W.cell? ⟨w.heap.size + 1, 1, none⟩ = some (.int .i64 (-1)) ∧ W.cell? ⟨w.heap.size + 1, 2, none⟩ = some (.int .i64 (rk : Int)) ∧ Below W0.heap.size W0 W ∧ W.cell? ⟨bb, off + rk * 2, none⟩ = some (.slice A1 L.length c1) ∧ W.cell? ⟨bb, off + rk * 2 + 1, none⟩ = some (.int .i64 t)) (E := fun _ => false) (by kernel_rfl) ?_
      refine anyE_tk 0 54 (oi := ?oi236) (v := ?v236) ?hi236 ?hd236 (by kernel_rfl) (by kernel_rfl) (by kernel_rfl) ?hQ236 ?hy236 hS ?rest236
      case hi236 => simp only [List.getElem?_toArray, List.getElem?_cons_zero, List.getElem?_cons_succ]; rfl
      case hd236 => rfl
      case hQ236 => exact fun _ _ _ h => h
      case hy236 => (refine Or.inl ⟨by rfl, ?_⟩; intro w hSw; (try dsimp only at hSw); go_simp; try with_reducible rfl)
      simp only [List.setIfInBounds_toArray, List.set_cons_zero, List.set_cons_succ]
      refine anyE_tk 1 55 (oi := ?oi237) (v := ?v237) ?hi237 ?hd237 (by kernel_rfl) (by kernel_rfl) (by kernel_rfl) ?hQ237 ?hy237 hS ?rest237
      case hi237 => simp only [List.getElem?_toArray, List.getElem?_cons_zero, List.getElem?_cons_succ]; rfl
      case hd237 => rfl
      case hQ237 => exact fun _ _ _ h => h
      case hy237 => (refine Or.inl ⟨by rfl, ?_⟩; intro w hSw; (try dsimp only at hSw); go_simp; try with_reducible rfl)
      simp only [List.setIfInBounds_toArray, List.set_cons_zero, List.set_cons_succ]
      refine anyE_tk 2 56 (oi := ?oi238) (v := ?v238) ?hi238 ?hd238 (by kernel_rfl) (by kernel_rfl) (by kernel_rfl) ?hQ238 ?hy238 hS ?rest238
      case hi238 => simp only [List.getElem?_toArray, List.getElem?_cons_zero, List.getElem?_cons_succ]; rfl
      case hd238 => rfl
      case hQ238 => exact fun _ _ _ h => h
      case hy238 => (refine Or.inl ⟨by rfl, ?_⟩; intro w hSw; (try dsimp only at hSw); go_simp; try with_reducible rfl)
      simp only [List.setIfInBounds_toArray, List.set_cons_zero, List.set_cons_succ]
      refine anyE_tk 3 57 (oi := ?oi239) (v := ?v239) ?hi239 ?hd239 (by kernel_rfl) (by kernel_rfl) (by kernel_rfl) ?hQ239 ?hy239 hS ?rest239
      case hi239 => simp only [List.getElem?_toArray, List.getElem?_cons_zero, List.getElem?_cons_succ]; rfl
      case hd239 => rfl
      case hQ239 => exact fun _ _ _ h => h
      case hy239 => (refine Or.inl ⟨by rfl, ?_⟩; intro w hSw; (try dsimp only at hSw); go_simp; try with_reducible rfl)
      simp only [List.setIfInBounds_toArray, List.set_cons_zero, List.set_cons_succ]
      refine anyE_tk 4 58 (oi := ?oi240) (v := ?v240) ?hi240 ?hd240 (by kernel_rfl) (by kernel_rfl) (by kernel_rfl) ?hQ240 ?hy240 hS ?rest240
      case hi240 => simp only [List.getElem?_toArray, List.getElem?_cons_zero, List.getElem?_cons_succ]; rfl
      case hd240 => rfl
      case hQ240 => exact fun _ _ _ h => h
      case hy240 => (refine Or.inl ⟨by rfl, ?_⟩; intro w hSw; (try dsimp only at hSw); go_simp; try with_reducible rfl)
      simp only [List.setIfInBounds_toArray, List.set_cons_zero, List.set_cons_succ]
      refine anyE_tk 5 59 (oi := ?oi241) (v := ?v241) ?hi241 ?hd241 (by kernel_rfl) (by kernel_rfl) (by kernel_rfl) ?hQ241 ?hy241 hS ?rest241
      case hi241 => simp only [List.getElem?_toArray, List.getElem?_cons_zero, List.getElem?_cons_succ]; rfl
      case hd241 => rfl
      case hQ241 => exact fun _ _ _ h => h
      case hy241 => (refine Or.inl ⟨by rfl, ?_⟩; intro w hSw; (try dsimp only at hSw); go_simp; try with_reducible rfl)
      simp only [List.setIfInBounds_toArray, List.set_cons_zero, List.set_cons_succ]
      refine anyE_tk 6 60 (oi := ?oi242) (v := ?v242) ?hi242 ?hd242 (by kernel_rfl) (by kernel_rfl) (by kernel_rfl) ?hQ242 ?hy242 hS ?rest242
      case hi242 => simp only [List.getElem?_toArray, List.getElem?_cons_zero, List.getElem?_cons_succ]; rfl
      case hd242 => rfl
      case hQ242 => exact fun _ _ _ h => h
      case hy242 => (refine Or.inl ⟨by rfl, ?_⟩; intro w hSw; (try dsimp only at hSw); go_simp; try with_reducible rfl)
      simp only [List.setIfInBounds_toArray, List.set_cons_zero, List.set_cons_succ]
      refine anyE_tk 7 61 (oi := ?oi243) (v := ?v243) ?hi243 ?hd243 (by kernel_rfl) (by kernel_rfl) (by kernel_rfl) ?hQ243 ?hy243 hS ?rest243
      case hi243 => simp only [List.getElem?_toArray, List.getElem?_cons_zero, List.getElem?_cons_succ]; rfl
      case hd243 => rfl
      case hQ243 => exact fun _ _ _ h => h
      case hy243 => (refine Or.inl ⟨by rfl, ?_⟩; intro w hSw; (try dsimp only at hSw); go_simp; try with_reducible rfl)
      simp only [List.setIfInBounds_toArray, List.set_cons_zero, List.set_cons_succ]
      refine anyE_tk 8 62 (oi := ?oi244) (v := ?v244) ?hi244 ?hd244 (by kernel_rfl) (by kernel_rfl) (by kernel_rfl) ?hQ244 ?hy244 hS ?rest244
      case hi244 => simp only [List.getElem?_toArray, List.getElem?_cons_zero, List.getElem?_cons_succ]; rfl
      case hd244 => rfl
      case hQ244 => exact fun _ _ _ h => h
      case hy244 => (refine Or.inl ⟨by rfl, ?_⟩; intro w hSw; (try dsimp only at hSw); go_simp; try with_reducible rfl)
      simp only [List.setIfInBounds_toArray, List.set_cons_zero, List.set_cons_succ]
      refine anyE_tk 9 63 (oi := ?oi245) (v := ?v245) ?hi245 ?hd245 (by kernel_rfl) (by kernel_rfl) (by kernel_rfl) ?hQ245 ?hy245 hS ?rest245
      case hi245 => simp only [List.getElem?_toArray, List.getElem?_cons_zero, List.getElem?_cons_succ]; rfl
      case hd245 => rfl
      case hQ245 => exact fun _ _ _ h => h
      case hy245 => (refine Or.inl ⟨by rfl, ?_⟩; intro w hSw; (try dsimp only at hSw); go_simp; try with_reducible rfl)
      simp only [List.setIfInBounds_toArray, List.set_cons_zero, List.set_cons_succ]
      refine anyE_tk 10 64 (oi := ?oi246) (v := ?v246) ?hi246 ?hd246 (by kernel_rfl) (by kernel_rfl) (by kernel_rfl) ?hQ246 ?hy246 hS ?rest246
      case hi246 => simp only [List.getElem?_toArray, List.getElem?_cons_zero, List.getElem?_cons_succ]; rfl
      case hd246 => rfl
      case hQ246 => exact fun _ _ _ h => h
      case hy246 => (refine Or.inl ⟨by rfl, ?_⟩; intro w hSw; (try dsimp only at hSw); go_simp; try with_reducible rfl)
      simp only [List.setIfInBounds_toArray, List.set_cons_zero, List.set_cons_succ]
      refine anyE_tk 11 65 (oi := ?oi247) (v := ?v247) ?hi247 ?hd247 (by kernel_rfl) (by kernel_rfl) (by kernel_rfl) ?hQ247 ?hy247 hS ?rest247
      case hi247 => simp only [List.getElem?_toArray, List.getElem?_cons_zero, List.getElem?_cons_succ]; rfl
      case hd247 => rfl
      case hQ247 => exact fun _ _ _ h => h
      case hy247 => (refine Or.inl ⟨by rfl, ?_⟩; intro w hSw; (try dsimp only at hSw); go_simp; try with_reducible rfl)
      simp only [List.setIfInBounds_toArray, List.set_cons_zero, List.set_cons_succ]
      refine anyE_tk 12 66 (oi := ?oi248) (v := ?v248) ?hi248 ?hd248 (by kernel_rfl) (by kernel_rfl) (by kernel_rfl) ?hQ248 ?hy248 hS ?rest248
      case hi248 => simp only [List.getElem?_toArray, List.getElem?_cons_zero, List.getElem?_cons_succ]; rfl
      case hd248 => rfl
      case hQ248 => exact fun _ _ _ h => h
      case hy248 => (refine Or.inl ⟨by rfl, ?_⟩; intro w hSw; (try dsimp only at hSw); go_simp; try with_reducible rfl)
      simp only [List.setIfInBounds_toArray, List.set_cons_zero, List.set_cons_succ]
      refine anyE_tk 13 67 (oi := ?oi249) (v := ?v249) ?hi249 ?hd249 (by kernel_rfl) (by kernel_rfl) (by kernel_rfl) ?hQ249 ?hy249 hS ?rest249
      case hi249 => simp only [List.getElem?_toArray, List.getElem?_cons_zero, List.getElem?_cons_succ]; rfl
      case hd249 => rfl
      case hQ249 => exact fun _ _ _ h => h
      case hy249 => (refine Or.inl ⟨by rfl, ?_⟩; intro w hSw; (try dsimp only at hSw); go_simp; try with_reducible rfl)
      simp only [List.setIfInBounds_toArray, List.set_cons_zero, List.set_cons_succ]
      refine anyE_tk 14 68 (oi := ?oi250) (v := ?v250) ?hi250 ?hd250 (by kernel_rfl) (by kernel_rfl) (by kernel_rfl) ?hQ250 ?hy250 hS ?rest250
      case hi250 => simp only [List.getElem?_toArray, List.getElem?_cons_zero, List.getElem?_cons_succ]; rfl
      case hd250 => rfl
      case hQ250 => exact fun _ _ _ h => h
      case hy250 => (refine Or.inl ⟨by rfl, ?_⟩; intro w hSw; (try dsimp only at hSw); go_simp; try with_reducible rfl)
      simp only [List.setIfInBounds_toArray, List.set_cons_zero, List.set_cons_succ]
      refine anyE_tk 15 69 (oi := ?oi251) (v := ?v251) ?hi251 ?hd251 (by kernel_rfl) (by kernel_rfl) (by kernel_rfl) ?hQ251 ?hy251 hS ?rest251
      case hi251 => simp only [List.getElem?_toArray, List.getElem?_cons_zero, List.getElem?_cons_succ]; rfl
      case hd251 => rfl
      case hQ251 => exact fun _ _ _ h => h
      case hy251 => (refine Or.inl ⟨by rfl, ?_⟩; intro w hSw; (try dsimp only at hSw); go_simp; try with_reducible rfl)
      simp only [List.setIfInBounds_toArray, List.set_cons_zero, List.set_cons_succ]
      refine anyE_tk 16 70 (oi := ?oi252) (v := ?v252) ?hi252 ?hd252 (by kernel_rfl) (by kernel_rfl) (by kernel_rfl) ?hQ252 ?hy252 hS ?rest252
      case hi252 => simp only [List.getElem?_toArray, List.getElem?_cons_zero, List.getElem?_cons_succ]; rfl
      case hd252 => rfl
      case hQ252 => exact fun _ _ _ h => h
      case hy252 => (refine Or.inl ⟨by rfl, ?_⟩; intro w hSw; (try dsimp only at hSw); go_simp; try with_reducible rfl)
      simp only [List.setIfInBounds_toArray, List.set_cons_zero, List.set_cons_succ]
      refine anyE_tk 17 71 (oi := ?oi253) (v := ?v253) ?hi253 ?hd253 (by kernel_rfl) (by kernel_rfl) (by kernel_rfl) ?hQ253 ?hy253 hS ?rest253
      case hi253 => simp only [List.getElem?_toArray, List.getElem?_cons_zero, List.getElem?_cons_succ]; rfl
      case hd253 => rfl
      case hQ253 => exact fun _ _ _ h => h
      case hy253 => (refine Or.inl ⟨by rfl, ?_⟩; intro w hSw; (try dsimp only at hSw); go_simp; try with_reducible rfl)
      simp only [List.setIfInBounds_toArray, List.set_cons_zero, List.set_cons_succ]
      refine anyE_tk 18 72 (oi := ?oi254) (v := ?v254) ?hi254 ?hd254 (by kernel_rfl) (by kernel_rfl) (by kernel_rfl) ?hQ254 ?hy254 hS ?rest254
      case hi254 => simp only [List.getElem?_toArray, List.getElem?_cons_zero, List.getElem?_cons_succ]; rfl
      case hd254 => rfl
      case hQ254 => exact fun _ _ _ h => h
      case hy254 => (refine Or.inl ⟨by rfl, ?_⟩; intro w hSw; (try dsimp only at hSw); go_simp; try with_reducible rfl)
      simp only [List.setIfInBounds_toArray, List.set_cons_zero, List.set_cons_succ]
      refine anyE_tk 19 73 (oi := ?oi255) (v := ?v255) ?hi255 ?hd255 (by kernel_rfl) (by kernel_rfl) (by kernel_rfl) ?hQ255 ?hy255 hS ?rest255
      case hi255 => simp only [List.getElem?_toArray, List.getElem?_cons_zero, List.getElem?_cons_succ]; rfl
      case hd255 => rfl
      case hQ255 => exact fun _ _ _ h => h
      case hy255 => (refine Or.inl ⟨by rfl, ?_⟩; intro w hSw; (try dsimp only at hSw); go_simp; try with_reducible rfl)
      simp only [List.setIfInBounds_toArray, List.set_cons_zero, List.set_cons_succ]
      refine anyE_tk 20 74 (oi := ?oi256) (v := ?v256) ?hi256 ?hd256 (by kernel_rfl) (by kernel_rfl) (by kernel_rfl) ?hQ256 ?hy256 hS ?rest256
      case hi256 => simp only [List.getElem?_toArray, List.getElem?_cons_zero, List.getElem?_cons_succ]; rfl
      case hd256 => rfl
      case hQ256 => exact fun _ _ _ h => h
      case hy256 => (refine Or.inl ⟨by rfl, ?_⟩; intro w hSw; (try dsimp only at hSw); go_simp; try with_reducible rfl)
      simp only [List.setIfInBounds_toArray, List.set_cons_zero, List.set_cons_succ]
      refine anyE_tk 21 75 (oi := ?oi257) (v := ?v257) ?hi257 ?hd257 (by kernel_rfl) (by kernel_rfl) (by kernel_rfl) ?hQ257 ?hy257 hS ?rest257
      case hi257 => simp only [List.getElem?_toArray, List.getElem?_cons_zero, List.getElem?_cons_succ]; rfl
      case hd257 => rfl
      case hQ257 => exact fun _ _ _ h => h
      case hy257 => (refine Or.inl ⟨by rfl, ?_⟩; intro w hSw; (try dsimp only at hSw); go_simp; try with_reducible rfl)
      simp only [List.setIfInBounds_toArray, List.set_cons_zero, List.set_cons_succ]
      refine anyE_tk 22 76 (oi := ?oi258) (v := ?v258) ?hi258 ?hd258 (by kernel_rfl) (by kernel_rfl) (by kernel_rfl) ?hQ258 ?hy258 hS ?rest258
      case hi258 => simp only [List.getElem?_toArray, List.getElem?_cons_zero, List.getElem?_cons_succ]; rfl
      case hd258 => rfl
      case hQ258 => exact fun _ _ _ h => h
      case hy258 => (refine Or.inl ⟨by rfl, ?_⟩; intro w hSw; (try dsimp only at hSw); go_simp; try with_reducible rfl)
      simp only [List.setIfInBounds_toArray, List.set_cons_zero, List.set_cons_succ]
      refine anyE_tk 23 77 (oi := ?oi259) (v := ?v259) ?hi259 ?hd259 (by kernel_rfl) (by kernel_rfl) (by kernel_rfl) ?hQ259 ?hy259 hS ?rest259
      case hi259 => simp only [List.getElem?_toArray, List.getElem?_cons_zero, List.getElem?_cons_succ]; rfl
      case hd259 => rfl
      case hQ259 => exact fun _ _ _ h => h
      case hy259 => (refine Or.inl ⟨by rfl, ?_⟩; intro w hSw; (try dsimp only at hSw); go_simp; try with_reducible rfl)
      simp only [List.setIfInBounds_toArray, List.set_cons_zero, List.set_cons_succ]
      refine anyE_tk 24 78 (oi := ?oi260) (v := ?v260) ?hi260 ?hd260 (by kernel_rfl) (by kernel_rfl) (by kernel_rfl) ?hQ260 ?hy260 hS ?rest260
      case hi260 => simp only [List.getElem?_toArray, List.getElem?_cons_zero, List.getElem?_cons_succ]; rfl
      case hd260 => rfl
      case hQ260 => exact fun _ _ _ h => h
      case hy260 => (refine Or.inl ⟨by rfl, ?_⟩; intro w hSw; (try dsimp only at hSw); go_simp; try with_reducible rfl)
      simp only [List.setIfInBounds_toArray, List.set_cons_zero, List.set_cons_succ]
      refine anyE_tk 25 79 (oi := ?oi261) (v := ?v261) ?hi261 ?hd261 (by kernel_rfl) (by kernel_rfl) (by kernel_rfl) ?hQ261 ?hy261 hS ?rest261
      case hi261 => simp only [List.getElem?_toArray, List.getElem?_cons_zero, List.getElem?_cons_succ]; rfl
      case hd261 => rfl
      case hQ261 => exact fun _ _ _ h => h
      case hy261 => (refine Or.inl ⟨by rfl, ?_⟩; intro w hSw; (try dsimp only at hSw); go_simp; try with_reducible rfl)
      simp only [List.setIfInBounds_toArray, List.set_cons_zero, List.set_cons_succ]
      refine anyE_tk 26 80 (oi := ?oi262) (v := ?v262) ?hi262 ?hd262 (by kernel_rfl) (by kernel_rfl) (by kernel_rfl) ?hQ262 ?hy262 hS ?rest262
      case hi262 => simp only [List.getElem?_toArray, List.getElem?_cons_zero, List.getElem?_cons_succ]; rfl
      case hd262 => rfl
      case hQ262 => exact fun _ _ _ h => h
      case hy262 => (refine Or.inl ⟨by rfl, ?_⟩; intro w hSw; (try dsimp only at hSw); go_simp; try with_reducible rfl)
      simp only [List.setIfInBounds_toArray, List.set_cons_zero, List.set_cons_succ]
      refine anyE_tk 27 81 (oi := ?oi263) (v := ?v263) ?hi263 ?hd263 (by kernel_rfl) (by kernel_rfl) (by kernel_rfl) ?hQ263 ?hy263 hS ?rest263
      case hi263 => simp only [List.getElem?_toArray, List.getElem?_cons_zero, List.getElem?_cons_succ]; rfl
      case hd263 => rfl
      case hQ263 => exact fun _ _ _ h => h
      case hy263 => (refine Or.inl ⟨by rfl, ?_⟩; intro w hSw; (try dsimp only at hSw); go_simp; try with_reducible rfl)
      simp only [List.setIfInBounds_toArray, List.set_cons_zero, List.set_cons_succ]
      refine anyE_tk 28 82 (oi := ?oi264) (v := ?v264) ?hi264 ?hd264 (by kernel_rfl) (by kernel_rfl) (by kernel_rfl) ?hQ264 ?hy264 hS ?rest264
      case hi264 => simp only [List.getElem?_toArray, List.getElem?_cons_zero, List.getElem?_cons_succ]; rfl
      case hd264 => rfl
      case hQ264 => exact fun _ _ _ h => h
      case hy264 => (refine Or.inl ⟨by rfl, ?_⟩; intro w hSw; (try dsimp only at hSw); go_simp; try with_reducible rfl)
      simp only [List.setIfInBounds_toArray, List.set_cons_zero, List.set_cons_succ]
      refine anyE_tk 29 83 (oi := ?oi265) (v := undef) ?hi265 ?hd265 (by kernel_rfl) (by kernel_rfl) (by kernel_rfl) ?hQ265 ?hy265 hS ?rest265
      case hi265 => simp only [List.getElem?_toArray, List.getElem?_cons_zero, List.getElem?_cons_succ]; rfl
      case hd265 => rfl
      case hQ265 => exact fun _ _ _ h => h
      case hy265 => exact Or.inr ⟨by rfl, rfl⟩
      simp only [List.setIfInBounds_toArray, List.set_cons_zero, List.set_cons_succ]
      refine anyE_tk 30 84 (oi := ?oi266) (v := undef) ?hi266 ?hd266 (by kernel_rfl) (by kernel_rfl) (by kernel_rfl) ?hQ266 ?hy266 hS ?rest266
      case hi266 => simp only [List.getElem?_toArray, List.getElem?_cons_zero, List.getElem?_cons_succ]; rfl
      case hd266 => rfl
      case hQ266 => exact fun _ _ _ h => h
      case hy266 => exact Or.inr ⟨by rfl, rfl⟩
      simp only [List.setIfInBounds_toArray, List.set_cons_zero, List.set_cons_succ]
      refine anyE_tk 31 85 (oi := ?oi267) (v := undef) ?hi267 ?hd267 (by kernel_rfl) (by kernel_rfl) (by kernel_rfl) ?hQ267 ?hy267 hS ?rest267
      case hi267 => simp only [List.getElem?_toArray, List.getElem?_cons_zero, List.getElem?_cons_succ]; rfl
      case hd267 => rfl
      case hQ267 => exact fun _ _ _ h => h
      case hy267 => exact Or.inr ⟨by rfl, rfl⟩
      simp only [List.setIfInBounds_toArray, List.set_cons_zero, List.set_cons_succ]
      refine anyE_tk 32 86 (oi := ?oi268) (v := undef) ?hi268 ?hd268 (by kernel_rfl) (by kernel_rfl) (by kernel_rfl) ?hQ268 ?hy268 hS ?rest268
      case hi268 => simp only [List.getElem?_toArray, List.getElem?_cons_zero, List.getElem?_cons_succ]; rfl
      case hd268 => rfl
      case hQ268 => exact fun _ _ _ h => h
      case hy268 => exact Or.inr ⟨by rfl, rfl⟩
      simp only [List.setIfInBounds_toArray, List.set_cons_zero, List.set_cons_succ]
      refine anyE_tk 33 87 (oi := ?oi269) (v := undef) ?hi269 ?hd269 (by kernel_rfl) (by kernel_rfl) (by kernel_rfl) ?hQ269 ?hy269 hS ?rest269
      case hi269 => simp only [List.getElem?_toArray, List.getElem?_cons_zero, List.getElem?_cons_succ]; rfl
      case hd269 => rfl
      case hQ269 => exact fun _ _ _ h => h
      case hy269 => exact Or.inr ⟨by rfl, rfl⟩
      simp only [List.setIfInBounds_toArray, List.set_cons_zero, List.set_cons_succ]
      refine anyE_tk 34 88 (oi := ?oi270) (v := undef) ?hi270 ?hd270 (by kernel_rfl) (by kernel_rfl) (by kernel_rfl) ?hQ270 ?hy270 hS ?rest270
      case hi270 => simp only [List.getElem?_toArray, List.getElem?_cons_zero, List.getElem?_cons_succ]; rfl
      case hd270 => rfl
      case hQ270 => exact fun _ _ _ h => h
      case hy270 => exact Or.inr ⟨by rfl, rfl⟩
      simp only [List.setIfInBounds_toArray, List.set_cons_zero, List.set_cons_succ]
      refine anyE_tk 35 89 (oi := ?oi271) (v := undef) ?hi271 ?hd271 (by kernel_rfl) (by kernel_rfl) (by kernel_rfl) ?hQ271 ?hy271 hS ?rest271
      case hi271 => simp only [List.getElem?_toArray, List.getElem?_cons_zero, List.getElem?_cons_succ]; rfl
      case hd271 => rfl
      case hQ271 => exact fun _ _ _ h => h
      case hy271 => exact Or.inr ⟨by rfl, rfl⟩
      simp only [List.setIfInBounds_toArray, List.set_cons_zero, List.set_cons_succ]
      refine anyE_tk 36 90 (oi := ?oi272) (v := undef) ?hi272 ?hd272 (by kernel_rfl) (by kernel_rfl) (by kernel_rfl) ?hQ272 ?hy272 hS ?rest272
      case hi272 => simp only [List.getElem?_toArray, List.getElem?_cons_zero, List.getElem?_cons_succ]; rfl
      case hd272 => rfl
      case hQ272 => exact fun _ _ _ h => h
      case hy272 => exact Or.inr ⟨by rfl, rfl⟩
      simp only [List.setIfInBounds_toArray, List.set_cons_zero, List.set_cons_succ]
      refine anyE_tk 37 91 (oi := ?oi273) (v := undef) ?hi273 ?hd273 (by kernel_rfl) (by kernel_rfl) (by kernel_rfl) ?hQ273 ?hy273 hS ?rest273
      case hi273 => simp only [List.getElem?_toArray, List.getElem?_cons_zero, List.getElem?_cons_succ]; rfl
      case hd273 => rfl
      case hQ273 => exact fun _ _ _ h => h
      case hy273 => exact Or.inr ⟨by rfl, rfl⟩
      simp only [List.setIfInBounds_toArray, List.set_cons_zero, List.set_cons_succ]
      refine anyE_tk 38 92 (oi := ?oi274) (v := ?v274) ?hi274 ?hd274 (by kernel_rfl) (by kernel_rfl) (by kernel_rfl) ?hQ274 ?hy274 hS ?rest274
      case hi274 => simp only [List.getElem?_toArray, List.getElem?_cons_zero, List.getElem?_cons_succ]; rfl
      case hd274 => rfl
      case hQ274 => exact fun _ _ _ h => h
      case hy274 => (refine Or.inl ⟨by rfl, ?_⟩; intro w hSw; (try dsimp only at hSw); go_simp; try with_reducible rfl)
      simp only [List.setIfInBounds_toArray, List.set_cons_zero, List.set_cons_succ]
      refine anyE_tk 39 8 (oi := ?oi275) (v := ?v275) ?hi275 ?hd275 (by kernel_rfl) (by kernel_rfl) (by kernel_rfl) ?hQ275 ?hy275 hS ?rest275
      case hi275 => simp only [List.getElem?_toArray, List.getElem?_cons_zero, List.getElem?_cons_succ]; rfl
      case hd275 => rfl
      case hQ275 => exact fun _ _ _ h => h
      case hy275 => (refine Or.inl ⟨by rfl, ?_⟩; intro w hSw; (try dsimp only at hSw); go_simp; try with_reducible rfl)
      simp only [List.setIfInBounds_toArray, List.set_cons_zero, List.set_cons_succ]
      refine anyE_done (by kernel_rfl) ?_ _
      go_wp2_with fail
      go_ret
      exact ⟨rfl, Hw.out.trans (Below.mono ((Below.refl W0.heap.size W0).drew) Hw.out.size)⟩
    subst h7
    rw [decide_eq_true (show t = t from rfl), Bool.true_and]
    go_enter Tryd.func88, Tryd.ntmps88
    go_wp2_with fail
    rw [← hW0]
    clear hW0
    have hS := KeepH.out _ (Below.refl W0.heap.size W0).drew
    refine wp_region_E (S := fun W => W.cell? ⟨w.heap.size, 0, none⟩ = some (.int .i64 n) ∧ W.cell? ⟨w.heap.size, 1, none⟩ = some (.slice AI b.its.length cI) ∧ W.cell? ⟨w.heap.size, 2, none⟩ = some (.slice (some ⟨bb, off, none⟩) b.rus.length cR) ∧ W.cell? ⟨w.heap.size + 1, 0, none⟩ = some (.int .i64 t) ∧ W.cell? ⟨w.heap.size + 1, 1, none⟩ = some (.int .i64 (-1)) ∧ W.cell? ⟨w.heap.size + 1, 2, none⟩ = some (.int .i64 (rk : Int)) ∧ Below W0.heap.size W0 W ∧ W.cell? ⟨bb, off + rk * 2, none⟩ = some (.slice A1 L.length c1) ∧ W.cell? ⟨bb, off + rk * 2 + 1, none⟩ = some (.int .i64 t)) (E := fun _ => false) (by kernel_rfl) ?_
    refine anyE_tk 0 54 (oi := ?oi276) (v := ?v276) ?hi276 ?hd276 (by kernel_rfl) (by kernel_rfl) (by kernel_rfl) ?hQ276 ?hy276 hS ?rest276
    case hi276 => simp only [List.getElem?_toArray, List.getElem?_cons_zero, List.getElem?_cons_succ]; rfl
    case hd276 => rfl
    case hQ276 => exact fun _ _ _ h => h
    case hy276 => (refine Or.inl ⟨by rfl, ?_⟩; intro w hSw; (try dsimp only at hSw); go_simp; try with_reducible rfl)
    simp only [List.setIfInBounds_toArray, List.set_cons_zero, List.set_cons_succ]
    refine anyE_tk 1 55 (oi := ?oi277) (v := ?v277) ?hi277 ?hd277 (by kernel_rfl) (by kernel_rfl) (by kernel_rfl) ?hQ277 ?hy277 hS ?rest277
    case hi277 => simp only [List.getElem?_toArray, List.getElem?_cons_zero, List.getElem?_cons_succ]; rfl
    case hd277 => rfl
    case hQ277 => exact fun _ _ _ h => h
    case hy277 => (refine Or.inl ⟨by rfl, ?_⟩; intro w hSw; (try dsimp only at hSw); go_simp; try with_reducible rfl)
    simp only [List.setIfInBounds_toArray, List.set_cons_zero, List.set_cons_succ]
    refine anyE_tk 2 56 (oi := ?oi278) (v := ?v278) ?hi278 ?hd278 (by kernel_rfl) (by kernel_rfl) (by kernel_rfl) ?hQ278 ?hy278 hS ?rest278
    case hi278 => simp only [List.getElem?_toArray, List.getElem?_cons_zero, List.getElem?_cons_succ]; rfl
    case hd278 => rfl
    case hQ278 => exact fun _ _ _ h => h
    case hy278 => (refine Or.inl ⟨by rfl, ?_⟩; intro w hSw; (try dsimp only at hSw); go_simp; try with_reducible rfl)
    simp only [List.setIfInBounds_toArray, List.set_cons_zero, List.set_cons_succ]
    refine anyE_tk 3 57 (oi := ?oi279) (v := ?v279) ?hi279 ?hd279 (by kernel_rfl) (by kernel_rfl) (by kernel_rfl) ?hQ279 ?hy279 hS ?rest279
    case hi279 => simp only [List.getElem?_toArray, List.getElem?_cons_zero, List.getElem?_cons_succ]; rfl
    case hd279 => rfl
    case hQ279 => exact fun _ _ _ h => h
    case hy279 => (refine Or.inl ⟨by rfl, ?_⟩; intro w hSw; (try dsimp only at hSw); go_simp; try with_reducible rfl)
    simp only [List.setIfInBounds_toArray, List.set_cons_zero, List.set_cons_succ]
    refine anyE_tk 4 58 (oi := ?oi280) (v := ?v280) ?hi280 ?hd280 (by kernel_rfl) (by kernel_rfl) (by kernel_rfl) ?hQ280 ?hy280 hS ?rest280
    case hi280 => simp only [List.getElem?_toArray, List.getElem?_cons_zero, List.getElem?_cons_succ]; rfl
    case hd280 => rfl
    case hQ280 => exact fun _ _ _ h => h
    case hy280 => (refine Or.inl ⟨by rfl, ?_⟩; intro w hSw; (try dsimp only at hSw); go_simp; try with_reducible rfl)
    simp only [List.setIfInBounds_toArray, List.set_cons_zero, List.set_cons_succ]
    refine anyE_tk 5 59 (oi := ?oi281) (v := ?v281) ?hi281 ?hd281 (by kernel_rfl) (by kernel_rfl) (by kernel_rfl) ?hQ281 ?hy281 hS ?rest281
    case hi281 => simp only [List.getElem?_toArray, List.getElem?_cons_zero, List.getElem?_cons_succ]; rfl
    case hd281 => rfl
    case hQ281 => exact fun _ _ _ h => h
    case hy281 => (refine Or.inl ⟨by rfl, ?_⟩; intro w hSw; (try dsimp only at hSw); go_simp; try with_reducible rfl)
    simp only [List.setIfInBounds_toArray, List.set_cons_zero, List.set_cons_succ]
    refine anyE_tk 6 60 (oi := ?oi282) (v := ?v282) ?hi282 ?hd282 (by kernel_rfl) (by kernel_rfl) (by kernel_rfl) ?hQ282 ?hy282 hS ?rest282
    case hi282 => simp only [List.getElem?_toArray, List.getElem?_cons_zero, List.getElem?_cons_succ]; rfl
    case hd282 => rfl
    case hQ282 => exact fun _ _ _ h => h
    case hy282 => (refine Or.inl ⟨by rfl, ?_⟩; intro w hSw; (try dsimp only at hSw); go_simp; try with_reducible rfl)
    simp only [List.setIfInBounds_toArray, List.set_cons_zero, List.set_cons_succ]
    refine anyE_tk 7 61 (oi := ?oi283) (v := ?v283) ?hi283 ?hd283 (by kernel_rfl) (by kernel_rfl) (by kernel_rfl) ?hQ283 ?hy283 hS ?rest283
    case hi283 => simp only [List.getElem?_toArray, List.getElem?_cons_zero, List.getElem?_cons_succ]; rfl
    case hd283 => rfl
    case hQ283 => exact fun _ _ _ h => h
    case hy283 => (refine Or.inl ⟨by rfl, ?_⟩; intro w hSw; (try dsimp only at hSw); go_simp; try with_reducible rfl)
    simp only [List.setIfInBounds_toArray, List.set_cons_zero, List.set_cons_succ]
    refine anyE_tk 8 62 (oi := ?oi284) (v := ?v284) ?hi284 ?hd284 (by kernel_rfl) (by kernel_rfl) (by kernel_rfl) ?hQ284 ?hy284 hS ?rest284
    case hi284 => simp only [List.getElem?_toArray, List.getElem?_cons_zero, List.getElem?_cons_succ]; rfl
    case hd284 => rfl
    case hQ284 => exact fun _ _ _ h => h
    case hy284 => (refine Or.inl ⟨by rfl, ?_⟩; intro w hSw; (try dsimp only at hSw); go_simp; try with_reducible rfl)
    simp only [List.setIfInBounds_toArray, List.set_cons_zero, List.set_cons_succ]
    refine anyE_tk 9 63 (oi := ?oi285) (v := ?v285) ?hi285 ?hd285 (by kernel_rfl) (by kernel_rfl) (by kernel_rfl) ?hQ285 ?hy285 hS ?rest285
    case hi285 => simp only [List.getElem?_toArray, List.getElem?_cons_zero, List.getElem?_cons_succ]; rfl
    case hd285 => rfl
    case hQ285 => exact fun _ _ _ h => h
    case hy285 => (refine Or.inl ⟨by rfl, ?_⟩; intro w hSw; (try dsimp only at hSw); go_simp; try with_reducible rfl)
    simp only [List.setIfInBounds_toArray, List.set_cons_zero, List.set_cons_succ]
    refine anyE_tk 10 64 (oi := ?oi286) (v := ?v286) ?hi286 ?hd286 (by kernel_rfl) (by kernel_rfl) (by kernel_rfl) ?hQ286 ?hy286 hS ?rest286
    case hi286 => simp only [List.getElem?_toArray, List.getElem?_cons_zero, List.getElem?_cons_succ]; rfl
    case hd286 => rfl
    case hQ286 => exact fun _ _ _ h => h
    case hy286 => (refine Or.inl ⟨by rfl, ?_⟩; intro w hSw; (try dsimp only at hSw); go_simp; try with_reducible rfl)
    simp only [List.setIfInBounds_toArray, List.set_cons_zero, List.set_cons_succ]
    refine anyE_tk 11 65 (oi := ?oi287) (v := ?v287) ?hi287 ?hd287 (by kernel_rfl) (by kernel_rfl) (by kernel_rfl) ?hQ287 ?hy287 hS ?rest287
    case hi287 => simp only [List.getElem?_toArray, List.getElem?_cons_zero, List.getElem?_cons_succ]; rfl
    case hd287 => rfl
    case hQ287 => exact fun _ _ _ h => h
    case hy287 => (refine Or.inl ⟨by rfl, ?_⟩; intro w hSw; (try dsimp only at hSw); go_simp; try with_reducible rfl)
    simp only [List.setIfInBounds_toArray, List.set_cons_zero, List.set_cons_succ]
    refine anyE_tk 12 66 (oi := ?oi288) (v := ?v288) ?hi288 ?hd288 (by kernel_rfl) (by kernel_rfl) (by kernel_rfl) ?hQ288 ?hy288 hS ?rest288
    case hi288 => simp only [List.getElem?_toArray, List.getElem?_cons_zero, List.getElem?_cons_succ]; rfl
    case hd288 => rfl
    case hQ288 => exact fun _ _ _ h => h
    case hy288 => (refine Or.inl ⟨by rfl, ?_⟩; intro w hSw; (try dsimp only at hSw); go_simp; try with_reducible rfl)
    simp only [List.setIfInBounds_toArray, List.set_cons_zero, List.set_cons_succ]
    refine anyE_tk 13 67 (oi := ?oi289) (v := ?v289) ?hi289 ?hd289 (by kernel_rfl) (by kernel_rfl) (by kernel_rfl) ?hQ289 ?hy289 hS ?rest289
    case hi289 => simp only [List.getElem?_toArray, List.getElem?_cons_zero, List.getElem?_cons_succ]; rfl
    case hd289 => rfl
    case hQ289 => exact fun _ _ _ h => h
    case hy289 => (refine Or.inl ⟨by rfl, ?_⟩; intro w hSw; (try dsimp only at hSw); go_simp; try with_reducible rfl)
    simp only [List.setIfInBounds_toArray, List.set_cons_zero, List.set_cons_succ]
    refine anyE_tk 14 68 (oi := ?oi290) (v := ?v290) ?hi290 ?hd290 (by kernel_rfl) (by kernel_rfl) (by kernel_rfl) ?hQ290 ?hy290 hS ?rest290
    case hi290 => simp only [List.getElem?_toArray, List.getElem?_cons_zero, List.getElem?_cons_succ]; rfl
    case hd290 => rfl
    case hQ290 => exact fun _ _ _ h => h
    case hy290 => (refine Or.inl ⟨by rfl, ?_⟩; intro w hSw; (try dsimp only at hSw); go_simp; try with_reducible rfl)
    simp only [List.setIfInBounds_toArray, List.set_cons_zero, List.set_cons_succ]
    refine anyE_tk 15 69 (oi := ?oi291) (v := ?v291) ?hi291 ?hd291 (by kernel_rfl) (by kernel_rfl) (by kernel_rfl) ?hQ291 ?hy291 hS ?rest291
    case hi291 => simp only [List.getElem?_toArray, List.getElem?_cons_zero, List.getElem?_cons_succ]; rfl
    case hd291 => rfl
    case hQ291 => exact fun _ _ _ h => h
    case hy291 => (refine Or.inl ⟨by rfl, ?_⟩; intro w hSw; (try dsimp only at hSw); go_simp; try with_reducible rfl)
    simp only [List.setIfInBounds_toArray, List.set_cons_zero, List.set_cons_succ]
    refine anyE_tk 16 70 (oi := ?oi292) (v := ?v292) ?hi292 ?hd292 (by kernel_rfl) (by kernel_rfl) (by kernel_rfl) ?hQ292 ?hy292 hS ?rest292
    case hi292 => simp only [List.getElem?_toArray, List.getElem?_cons_zero, List.getElem?_cons_succ]; rfl
    case hd292 => rfl
    case hQ292 => exact fun _ _ _ h => h
    case hy292 => (refine Or.inl ⟨by rfl, ?_⟩; intro w hSw; (try dsimp only at hSw); go_simp; try with_reducible rfl)
    simp only [List.setIfInBounds_toArray, List.set_cons_zero, List.set_cons_succ]
    refine anyE_tk 17 71 (oi := ?oi293) (v := ?v293) ?hi293 ?hd293 (by kernel_rfl) (by kernel_rfl) (by kernel_rfl) ?hQ293 ?hy293 hS ?rest293
    case hi293 => simp only [List.getElem?_toArray, List.getElem?_cons_zero, List.getElem?_cons_succ]; rfl
    case hd293 => rfl
    case hQ293 => exact fun _ _ _ h => h
    case hy293 => (refine Or.inl ⟨by rfl, ?_⟩; intro w hSw; (try dsimp only at hSw); go_simp; try with_reducible rfl)
    simp only [List.setIfInBounds_toArray, List.set_cons_zero, List.set_cons_succ]
    refine anyE_tk 18 72 (oi := ?oi294) (v := ?v294) ?hi294 ?hd294 (by kernel_rfl) (by kernel_rfl) (by kernel_rfl) ?hQ294 ?hy294 hS ?rest294
    case hi294 => simp only [List.getElem?_toArray, List.getElem?_cons_zero, List.getElem?_cons_succ]; rfl
    case hd294 => rfl
    case hQ294 => exact fun _ _ _ h => h
    case hy294 => (refine Or.inl ⟨by rfl, ?_⟩; intro w hSw; (try dsimp only at hSw); go_simp; try with_reducible rfl)
    simp only [List.setIfInBounds_toArray, List.set_cons_zero, List.set_cons_succ]
    refine anyE_tk 19 73 (oi := ?oi295) (v := ?v295) ?hi295 ?hd295 (by kernel_rfl) (by kernel_rfl) (by kernel_rfl) ?hQ295 ?hy295 hS ?rest295
    case hi295 => simp only [List.getElem?_toArray, List.getElem?_cons_zero, List.getElem?_cons_succ]; rfl
    case hd295 => rfl
    case hQ295 => exact fun _ _ _ h => h
    case hy295 => (refine Or.inl ⟨by rfl, ?_⟩; intro w hSw; (try dsimp only at hSw); go_simp; try with_reducible rfl)
    simp only [List.setIfInBounds_toArray, List.set_cons_zero, List.set_cons_succ]
    refine anyE_tk 20 74 (oi := ?oi296) (v := ?v296) ?hi296 ?hd296 (by kernel_rfl) (by kernel_rfl) (by kernel_rfl) ?hQ296 ?hy296 hS ?rest296
    case hi296 => simp only [List.getElem?_toArray, List.getElem?_cons_zero, List.getElem?_cons_succ]; rfl
    case hd296 => rfl
    case hQ296 => exact fun _ _ _ h => h
    case hy296 => (refine Or.inl ⟨by rfl, ?_⟩; intro w hSw; (try dsimp only at hSw); go_simp; try with_reducible rfl)
    simp only [List.setIfInBounds_toArray, List.set_cons_zero, List.set_cons_succ]
    refine anyE_tk 21 75 (oi := ?oi297) (v := ?v297) ?hi297 ?hd297 (by kernel_rfl) (by kernel_rfl) (by kernel_rfl) ?hQ297 ?hy297 hS ?rest297
    case hi297 => simp only [List.getElem?_toArray, List.getElem?_cons_zero, List.getElem?_cons_succ]; rfl
    case hd297 => rfl
    case hQ297 => exact fun _ _ _ h => h
    case hy297 => (refine Or.inl ⟨by rfl, ?_⟩; intro w hSw; (try dsimp only at hSw); go_simp; try with_reducible rfl)
    simp only [List.setIfInBounds_toArray, List.set_cons_zero, List.set_cons_succ]
    refine anyE_tk 22 76 (oi := ?oi298) (v := ?v298) ?hi298 ?hd298 (by kernel_rfl) (by kernel_rfl) (by kernel_rfl) ?hQ298 ?hy298 hS ?rest298
    case hi298 => simp only [List.getElem?_toArray, List.getElem?_cons_zero, List.getElem?_cons_succ]; rfl
    case hd298 => rfl
    case hQ298 => exact fun _ _ _ h => h
    case hy298 => (refine Or.inl ⟨by rfl, ?_⟩; intro w hSw; (try dsimp only at hSw); go_simp; try with_reducible rfl)
    simp only [List.setIfInBounds_toArray, List.set_cons_zero, List.set_cons_succ]
    refine anyE_tk 23 77 (oi := ?oi299) (v := ?v299) ?hi299 ?hd299 (by kernel_rfl) (by kernel_rfl) (by kernel_rfl) ?hQ299 ?hy299 hS ?rest299
    case hi299 => simp only [List.getElem?_toArray, List.getElem?_cons_zero, List.getElem?_cons_succ]; rfl
    case hd299 => rfl
    case hQ299 => exact fun _ _ _ h => h
    case hy299 => (refine Or.inl ⟨by rfl, ?_⟩; intro w hSw; (try dsimp only at hSw); go_simp; try with_reducible rfl)
    simp only [List.setIfInBounds_toArray, List.set_cons_zero, List.set_cons_succ]
    refine anyE_tk 24 78 (oi := ?oi300) (v := ?v300) ?hi300 ?hd300 (by kernel_rfl) (by kernel_rfl) (by kernel_rfl) ?hQ300 ?hy300 hS ?rest300
    case hi300 => simp only [List.getElem?_toArray, List.getElem?_cons_zero, List.getElem?_cons_succ]; rfl
    case hd300 => rfl
    case hQ300 => exact fun _ _ _ h => h
    case hy300 => (refine Or.inl ⟨by rfl, ?_⟩; intro w hSw; (try dsimp only at hSw); go_simp; try with_reducible rfl)
    simp only [List.setIfInBounds_toArray, List.set_cons_zero, List.set_cons_succ]
    refine anyE_tk 25 79 (oi := ?oi301) (v := ?v301) ?hi301 ?hd301 (by kernel_rfl) (by kernel_rfl) (by kernel_rfl) ?hQ301 ?hy301 hS ?rest301
    case hi301 => simp only [List.getElem?_toArray, List.getElem?_cons_zero, List.getElem?_cons_succ]; rfl
    case hd301 => rfl
    case hQ301 => exact fun _ _ _ h => h
    case hy301 => (refine Or.inl ⟨by rfl, ?_⟩; intro w hSw; (try dsimp only at hSw); go_simp; try with_reducible rfl)
    simp only [List.setIfInBounds_toArray, List.set_cons_zero, List.set_cons_succ]
    refine anyE_tk 26 80 (oi := ?oi302) (v := ?v302) ?hi302 ?hd302 (by kernel_rfl) (by kernel_rfl) (by kernel_rfl) ?hQ302 ?hy302 hS ?rest302
    case hi302 => simp only [List.getElem?_toArray, List.getElem?_cons_zero, List.getElem?_cons_succ]; rfl
    case hd302 => rfl
    case hQ302 => exact fun _ _ _ h => h
    case hy302 => (refine Or.inl ⟨by rfl, ?_⟩; intro w hSw; (try dsimp only at hSw); go_simp; try with_reducible rfl)
    simp only [List.setIfInBounds_toArray, List.set_cons_zero, List.set_cons_succ]
    refine anyE_tk 27 81 (oi := ?oi303) (v := ?v303) ?hi303 ?hd303 (by kernel_rfl) (by kernel_rfl) (by kernel_rfl) ?hQ303 ?hy303 hS ?rest303
    case hi303 => simp only [List.getElem?_toArray, List.getElem?_cons_zero, List.getElem?_cons_succ]; rfl
    case hd303 => rfl
    case hQ303 => exact fun _ _ _ h => h
    case hy303 => (refine Or.inl ⟨by rfl, ?_⟩; intro w hSw; (try dsimp only at hSw); go_simp; try with_reducible rfl)
    simp only [List.setIfInBounds_toArray, List.set_cons_zero, List.set_cons_succ]
    refine anyE_tk 28 82 (oi := ?oi304) (v := ?v304) ?hi304 ?hd304 (by kernel_rfl) (by kernel_rfl) (by kernel_rfl) ?hQ304 ?hy304 hS ?rest304
    case hi304 => simp only [List.getElem?_toArray, List.getElem?_cons_zero, List.getElem?_cons_succ]; rfl
    case hd304 => rfl
    case hQ304 => exact fun _ _ _ h => h
    case hy304 => (refine Or.inl ⟨by rfl, ?_⟩; intro w hSw; (try dsimp only at hSw); go_simp; try with_reducible rfl)
    simp only [List.setIfInBounds_toArray, List.set_cons_zero, List.set_cons_succ]
    refine anyE_tk 29 83 (oi := ?oi305) (v := ?v305) ?hi305 ?hd305 (by kernel_rfl) (by kernel_rfl) (by kernel_rfl) ?hQ305 ?hy305 hS ?rest305
    case hi305 => simp only [List.getElem?_toArray, List.getElem?_cons_zero, List.getElem?_cons_succ]; rfl
    case hd305 => rfl
    case hQ305 => exact fun _ _ _ h => h
    case hy305 => (refine Or.inl ⟨by rfl, ?_⟩; intro w hSw; (try dsimp only at hSw); go_simp; try with_reducible rfl)
    simp only [List.setIfInBounds_toArray, List.set_cons_zero, List.set_cons_succ]
    refine anyE_tk 30 84 (oi := ?oi306) (v := ?v306) ?hi306 ?hd306 (by kernel_rfl) (by kernel_rfl) (by kernel_rfl) ?hQ306 ?hy306 hS ?rest306
    case hi306 => simp only [List.getElem?_toArray, List.getElem?_cons_zero, List.getElem?_cons_succ]; rfl
    case hd306 => rfl
    case hQ306 => exact fun _ _ _ h => h
    case hy306 => (refine Or.inl ⟨by rfl, ?_⟩; intro w hSw; (try dsimp only at hSw); go_simp; try with_reducible rfl)
    simp only [List.setIfInBounds_toArray, List.set_cons_zero, List.set_cons_succ]
    refine anyE_tk 31 85 (oi := ?oi307) (v := ?v307) ?hi307 ?hd307 (by kernel_rfl) (by kernel_rfl) (by kernel_rfl) ?hQ307 ?hy307 hS ?rest307
    case hi307 => simp only [List.getElem?_toArray, List.getElem?_cons_zero, List.getElem?_cons_succ]; rfl
    case hd307 => rfl
    case hQ307 => exact fun _ _ _ h => h
    case hy307 => (refine Or.inl ⟨by rfl, ?_⟩; intro w hSw; (try dsimp only at hSw); go_simp; try with_reducible rfl)
    simp only [List.setIfInBounds_toArray, List.set_cons_zero, List.set_cons_succ]
    refine anyE_tk 32 86 (oi := ?oi308) (v := ?v308) ?hi308 ?hd308 (by kernel_rfl) (by kernel_rfl) (by kernel_rfl) ?hQ308 ?hy308 hS ?rest308
    case hi308 => simp only [List.getElem?_toArray, List.getElem?_cons_zero, List.getElem?_cons_succ]; rfl
    case hd308 => rfl
    case hQ308 => exact fun _ _ _ h => h
    case hy308 => (refine Or.inl ⟨by rfl, ?_⟩; intro w hSw; (try dsimp only at hSw); go_simp; try with_reducible rfl)
    simp only [List.setIfInBounds_toArray, List.set_cons_zero, List.set_cons_succ]
    refine anyE_tk 33 87 (oi := ?oi309) (v := ?v309) ?hi309 ?hd309 (by kernel_rfl) (by kernel_rfl) (by kernel_rfl) ?hQ309 ?hy309 hS ?rest309
    case hi309 => simp only [List.getElem?_toArray, List.getElem?_cons_zero, List.getElem?_cons_succ]; rfl
    case hd309 => rfl
    case hQ309 => exact fun _ _ _ h => h
    case hy309 => (refine Or.inl ⟨by rfl, ?_⟩; intro w hSw; (try dsimp only at hSw); go_simp; try with_reducible rfl)
    simp only [List.setIfInBounds_toArray, List.set_cons_zero, List.set_cons_succ]
    refine anyE_tk 34 88 (oi := ?oi310) (v := ?v310) ?hi310 ?hd310 (by kernel_rfl) (by kernel_rfl) (by kernel_rfl) ?hQ310 ?hy310 hS ?rest310
    case hi310 => simp only [List.getElem?_toArray, List.getElem?_cons_zero, List.getElem?_cons_succ]; rfl
    case hd310 => rfl
    case hQ310 => exact fun _ _ _ h => h
    case hy310 => (refine Or.inl ⟨by rfl, ?_⟩; intro w hSw; (try dsimp only at hSw); go_simp; try with_reducible rfl)
    simp only [List.setIfInBounds_toArray, List.set_cons_zero, List.set_cons_succ]
    refine anyE_tk 35 89 (oi := ?oi311) (v := ?v311) ?hi311 ?hd311 (by kernel_rfl) (by kernel_rfl) (by kernel_rfl) ?hQ311 ?hy311 hS ?rest311
    case hi311 => simp only [List.getElem?_toArray, List.getElem?_cons_zero, List.getElem?_cons_succ]; rfl
    case hd311 => rfl
    case hQ311 => exact fun _ _ _ h => h
    case hy311 => (refine Or.inl ⟨by rfl, ?_⟩; intro w hSw; (try dsimp only at hSw); go_simp; try with_reducible rfl)
    simp only [List.setIfInBounds_toArray, List.set_cons_zero, List.set_cons_succ]
    refine anyE_tk 36 90 (oi := ?oi312) (v := ?v312) ?hi312 ?hd312 (by kernel_rfl) (by kernel_rfl) (by kernel_rfl) ?hQ312 ?hy312 hS ?rest312
    case hi312 => simp only [List.getElem?_toArray, List.getElem?_cons_zero, List.getElem?_cons_succ]; rfl
    case hd312 => rfl
    case hQ312 => exact fun _ _ _ h => h
    case hy312 => (refine Or.inl ⟨by rfl, ?_⟩; intro w hSw; (try dsimp only at hSw); go_simp; try with_reducible rfl)
    simp only [List.setIfInBounds_toArray, List.set_cons_zero, List.set_cons_succ]
    refine anyE_one (i := 37) (o := ?oi313) (by kernel_rfl) ?hi313 (fun K hK => ?step313)
    case hi313 => simp only [List.getElem?_toArray, List.getElem?_cons_zero, List.getElem?_cons_succ]; rfl
    go_simp
    refine (c100.out _ (Below.refl W0.heap.size W0).drew).mono ?_
    rintro e w6 ⟨rfl, rfl⟩
    go_wp2_with fail
    refine hK.out _ _ (fun _ => hS) ?_
    clear hK K
    try simp only [Act.put, List.setIfInBounds_toArray, List.set_cons_zero, List.set_cons_succ]
    refine anyE_tk 38 92 (oi := ?oi314) (v := ?v314) ?hi314 ?hd314 (by kernel_rfl) (by kernel_rfl) (by kernel_rfl) ?hQ314 ?hy314 hS ?rest314
    case hi314 => simp only [List.getElem?_toArray, List.getElem?_cons_zero, List.getElem?_cons_succ]; rfl
    case hd314 => rfl
    case hQ314 => exact fun _ _ _ h => h
    case hy314 => (refine Or.inl ⟨by rfl, ?_⟩; intro w hSw; (try dsimp only at hSw); go_simp; try with_reducible rfl)
    simp only [List.setIfInBounds_toArray, List.set_cons_zero, List.set_cons_succ]
    refine anyE_tk 39 8 (oi := ?oi315) (v := ?v315) ?hi315 ?hd315 (by kernel_rfl) (by kernel_rfl) (by kernel_rfl) ?hQ315 ?hy315 hS ?rest315
    case hi315 => simp only [List.getElem?_toArray, List.getElem?_cons_zero, List.getElem?_cons_succ]; rfl
    case hd315 => rfl
    case hQ315 => exact fun _ _ _ h => h
    case hy315 => (refine Or.inl ⟨by rfl, ?_⟩; intro w hSw; (try dsimp only at hSw); go_simp; try with_reducible rfl)
    simp only [List.setIfInBounds_toArray, List.set_cons_zero, List.set_cons_succ]
    refine anyE_done (by kernel_rfl) ?_ _
    go_wp2_with fail
    go_ret
    exact ⟨rfl, Hw.out.trans (Below.mono ((Below.refl W0.heap.size W0).drew) Hw.out.size)⟩
end Go.Proofs.YtgoojcjfhghmgaaDoor


namespace Go.Proofs.YtgoojcjfhghmgaaDoor
open Go.RowKit

theorem StAt.of_own {w : World} {base e c : Nat} {A : Option Addr} {l : List St} (h : w.ownsRow base e 3 (.slice A l.length c) l.length (flatS l)) : StAt w.heap.size w A l := by
  have hr := RowsAt.of_own (w := w) (base := base) (e := e) (s := 3) (rs := l.map fun s => [s.1, s.2.1, s.2.2]) (A := A) (c := c) (fun r hr => by
    obtain ⟨s, _, rfl⟩ := List.mem_map.1 hr
    rfl) (by
      rw [List.length_map]
      have : (l.map fun s => [s.1, s.2.1, s.2.2]).flatMap (fun r => r.map (Value.int .i64)) = flatS l := by
        unfold flatS
        rw [List.flatMap_map]
        rfl
      rw [this]
      exact h)
  intro k hk
  obtain ⟨b, off, e1, hb, hc⟩ := hr k (by rw [List.length_map]; exact hk)
  have h0 := hc 0 (by omega)
  have h1 := hc 1 (by omega)
  have h2 := hc 2 (by omega)
  simp only [List.getElem?_map, List.getElem?_eq_getElem hk] at h0 h1 h2
  exact ⟨b, off, e1, hb, h0, h1, h2⟩
/-- A step that names an item; one that names a rule. -/
theorem rg_step1 {b : Bk} (hv : VBk b) {m i q K : Nat} (hm : m < b.its.length) (hi : i ∈ bl (cnS b m)) (hq : q ∈ hasL b i) : rgR b m ((q : Int), (i : Int), -1) K = true := by
  have hlt := cnS_lt hv hm
  have e1 : cnS b m < 18446744073709551616 := Nat.lt_of_lt_of_le hlt (Nat.le_trans (Nat.pow_le_pow_right (by decide) (show m + 1 ≤ 60 by have := hv.ni; omega)) (by decide))
  have hil : i < b.its.length := by have := bl_lt hlt (by have := hv.ni; omega) hi; omega
  have hqp := hasL_lt hv hil q hq
  rw [rg_own (by omega) rfl, show ((i : Int)).toNat = i from rfl, (mem_bl _ e1 i).1 hi, List.getElem?_eq_getElem hil, Option.getD_some, decide_eq_true (show (0 : Int) ≤ (i : Int) by omega), decide_eq_true (show (i : Int) < (b.its.length : Int) by omega)]
  simp only [Bool.and_true, Bool.true_and, List.contains_iff_mem]
  have hin : intL (hasL b i) = b.its[i].2 := by
    have : hasL b i = natL b.its[i].2 := by simp [hasL, hil]
    rw [this]
    exact int_nat fun x hx => (isS_mem (hv.parts i hil).2.2 x hx).1
  rw [← hin]
  exact List.mem_map.2 ⟨q, hq, rfl⟩
theorem rg_step2 {b : Bk} (hv : VBk b) {m i K : Nat} (hi : i < b.rus.length) (h : allB K (natL b.rus[i].1) = true) : rgR b m (b.rus[i].2, -1, (i : Int)) K = true := by
  obtain ⟨_, h1, h2⟩ := ruOk_mem (hv.rules b.rus[i] (List.getElem_mem hi))
  rw [rg_rule (by omega) (by omega), show ((i : Int)).toNat = i from rfl, List.getElem?_eq_getElem hi, Option.getD_some, h, decide_eq_true (show (0 : Int) ≤ (i : Int) by omega), decide_eq_true (show (i : Int) < (b.rus.length : Int) by omega)]
  simp
/-- What Explain returns. -/
def ExR (b : Bk) (item prop : Int) (ok : Bool) (l : List St) : Prop :=
  if akR b item prop = 0 then (∀ x, Lbl b item.toNat x → ok = x.testBit prop.toNat) ∧ (ok = false → l = []) ∧ (ok = true → Gr b item.toNat prop.toNat l ∧ (kS l).testBit prop.toNat = true) else ok = false ∧ l = []
theorem Gr.short {b : Bk} (hv : VBk b) {item prop : Nat} {l : List St} (h : Gr b item prop l) : l.length ≤ 10 := by
  have h1 := h.len
  have h2 := cntB_le (kS l) b.p.toNat
  have := hv.p1
  omega
theorem ExR.bad {b : Bk} {item prop : Int} (h : akR b item prop ≠ 0) : ExR b item prop false [] := by
  rw [ExR, if_neg h]; exact ⟨rfl, rfl⟩
theorem ExR.good {b : Bk} {item prop : Int} (h : akR b item prop = 0) {l : List St} (hg : Gr b item.toNat prop.toNat l) (hc : Cov2 b item.toNat prop.toNat b.p.toNat 0 l) : ExR b item prop ((kS l).testBit prop.toNat) (if (kS l).testBit prop.toNat then l else []) := by
  obtain ⟨h0, hp0, hp1⟩ := ak_zero h
  obtain ⟨hv0, hi0, hi1⟩ := nm_zero h0
  rw [ExR, if_pos h]
  refine ⟨fun x hx => hc.done hg (vl_zero hv0) (by omega) hx (by omega), fun h => by rw [h]; rfl, fun h => ?_⟩
  rw [h, if_pos rfl]
  exact ⟨hg, h⟩
/-- The proof that Explain returns is accepted. -/
theorem ExR.accepted {b : Bk} {item prop : Int} {l : List St} (h : ExR b item prop true l) : cpR b item prop l = 0 := by
  unfold ExR at h
  split at h
  · rename_i h0
    obtain ⟨_, _, h3⟩ := h
    obtain ⟨hg, hb⟩ := h3 rfl
    obtain ⟨hn, hp0, hp1⟩ := ak_zero h0
    obtain ⟨hv0, hi0, hi1⟩ := nm_zero hn
    have hs := hg.short (vl_zero hv0)
    refine cp_good h0 (by omega) hg.prf ?_
    obtain ⟨s, hs1, hs2⟩ := hg.last hb
    have hm := List.mem_of_getLast? hs1
    obtain ⟨i, hi, he⟩ := List.getElem_of_mem hm
    have := rg_prop (hg.prf i hi)
    unfold lastP
    rw [hs1, Option.map_some, Option.getD_some]
    rw [he] at this
    omega
  · exact absurd h.1 (by decide)
end Go.Proofs.YtgoojcjfhghmgaaDoor


namespace Go.Proofs.YtgoojcjfhghmgaaDoor
open Go.RowKit

/-- A set of properties that follow within it. -/
def Gd (b : Bk) (m s : Nat) : Prop := Cl b.rus (bsS b m &&& s) (fun q => s.testBit q) s
/-- The rules within a set. -/
def inR (s : Nat) (l : List Ru) : List Ru := l.filter fun r => s.testBit r.2.toNat && allB s (natL r.1)
theorem gd_any {b : Bk} {m s x : Nat} (h : Cl b.rus (bsS b m &&& s) (fun q => s.testBit q) x) : x = s ↔ Gd b m s := by
  constructor
  · rintro rfl; exact h
  · intro hg; exact h.unique hg
theorem gd_ref {b : Bk} {m s y : Nat} (hy : Cl (inR s b.rus) (bsS b m &&& s) allW y) : Sub s y ↔ Gd b m s := by
  have hys : Sub y s := hy.1.2 s (fun q hq => by rw [Nat.testBit_and, Bool.and_eq_true] at hq; exact hq.2) fun r hr _ _ => by
    have := (List.mem_filter.1 hr).2
    rw [Bool.and_eq_true] at this
    exact this.1
  constructor
  · intro hs
    refine ⟨⟨fun q hq => by rw [Nat.testBit_and, Bool.and_eq_true] at hq; exact hq.2, fun z hz hsh q hq => ?_⟩, fun r _ _ h => h⟩
    have := hy.1.2 (z &&& s) (fun q hq => by
      have h2 := hq
      rw [Nat.testBit_and, Bool.and_eq_true] at h2
      rw [Nat.testBit_and, hz q hq, h2.2]; rfl) (fun r hr ha _ => by
        have hf := (List.mem_filter.1 hr)
        have h2 := hf.2
        rw [Bool.and_eq_true] at h2
        rw [Nat.testBit_and, h2.1, Bool.and_true]
        exact hsh r hf.1 (allB_sub (fun q hq => by rw [Nat.testBit_and, Bool.and_eq_true] at hq; exact hq.1) ha) h2.1) q (hs q hq)
    rw [Nat.testBit_and, Bool.and_eq_true] at this
    exact this.1
  · intro hg
    refine hg.1.2 y hy.1.1 fun r hr ha hw => ?_
    refine hy.2 r (List.mem_filter.2 ⟨hr, ?_⟩) ha rfl
    rw [Bool.and_eq_true]
    exact ⟨hw, allB_sub hys ha⟩
/-- The least number of elements, over the sets below k; 0: none. -/
def stepB (g : Nat → Bool) (prop p c s : Nat) : Nat := if s.testBit prop && (c == 0 || decide (cntB s p < c)) && g s then cntB s p else c
def bestN (g : Nat → Bool) (prop p : Nat) : Nat → Nat
  | 0 => 0
  | k + 1 => stepB g prop p (bestN g prop p k) k
theorem cntB_pos {s prop : Nat} (h : s.testBit prop = true) : ∀ n, prop < n → 0 < cntB s n
  | n + 1, hn => by
    unfold cntB
    by_cases e : prop = n
    · subst e; rw [h]; simp
    · have := cntB_pos h n (by omega); omega
theorem best_le {g : Nat → Bool} {prop p : Nat} (hp : prop < p) : ∀ k s, s < k → s.testBit prop = true → g s = true → 0 < bestN g prop p k ∧ bestN g prop p k ≤ cntB s p
  | k + 1, s, hs, hb, hg => by
    show 0 < stepB g prop p (bestN g prop p k) k ∧ stepB g prop p (bestN g prop p k) k ≤ cntB s p
    unfold stepB
    by_cases e : s = k
    · subst e
      have h0 := cntB_pos hb p hp
      rw [hb, hg, Bool.true_and, Bool.and_true]
      split
      · exact ⟨h0, Nat.le_refl _⟩
      · rename_i h
        rw [Bool.or_eq_true, not_or, beq_iff_eq, decide_eq_true_eq] at h
        omega
    · obtain ⟨h1, h2⟩ := best_le hp k s (by omega) hb hg
      split
      · rename_i h
        simp only [Bool.and_eq_true, Bool.or_eq_true, beq_iff_eq, decide_eq_true_eq] at h
        exact ⟨cntB_pos h.1.1 p hp, by omega⟩
      · exact ⟨h1, h2⟩
theorem best_at {g : Nat → Bool} {prop p : Nat} : ∀ k, bestN g prop p k ≠ 0 → ∃ s, s < k ∧ s.testBit prop = true ∧ g s = true ∧ bestN g prop p k = cntB s p
  | 0, h => absurd rfl h
  | k + 1, h => by
    change stepB g prop p (bestN g prop p k) k ≠ 0 at h
    show ∃ s, s < k + 1 ∧ s.testBit prop = true ∧ g s = true ∧ stepB g prop p (bestN g prop p k) k = cntB s p
    unfold stepB at h ⊢
    split at h
    · rename_i hc
      rw [if_pos hc]
      simp only [Bool.and_eq_true] at hc
      exact ⟨k, by omega, hc.1.1, hc.2, rfl⟩
    · rename_i hc
      rw [if_neg hc]
      obtain ⟨s, h1, h2, h3, h4⟩ := best_at k h
      exact ⟨s, by omega, h2, h3, h4⟩
theorem best_small {g : Nat → Bool} {prop p : Nat} : ∀ k, bestN g prop p k ≤ p
  | 0 => Nat.zero_le _
  | k + 1 => by
    show stepB g prop p (bestN g prop p k) k ≤ p
    unfold stepB
    split
    · exact cntB_le _ _
    · exact best_small k
/-- There is a closure. -/
theorem cl_exists {l : List Ru} {m p : Nat} (hm : m < 2 ^ p) (hr : ∀ r ∈ l, r.2.toNat < p) : ∃ x, Cl l m allW x ∧ x < 2 ^ p := by
  have key : ∃ f : Nat → Bool, ∀ q, f q = true ↔ ∀ z, Sub m z → Shut l allW z → z.testBit q = true := ⟨fun q => @decide _ (Classical.propDecidable (∀ z, Sub m z → Shut l allW z → z.testBit q = true)), fun q => by simp⟩
  obtain ⟨f, hf⟩ := key
  have hbit : ∀ q, (sumTo f p).testBit q = true ↔ q < p ∧ f q = true := fun q => by rw [sumTo_bit, Bool.and_eq_true, decide_eq_true_eq]
  refine ⟨sumTo f p, ⟨⟨fun q hq => ?_, fun z hz hs q hq => ?_⟩, fun r hr' ha hw => ?_⟩, sumTo_lt f p⟩
  · rw [hbit, hf]
    refine ⟨?_, fun z hz _ => hz q hq⟩
    by_cases h : q < p
    · exact h
    · rw [Nat.testBit_lt_two_pow (Nat.lt_of_lt_of_le hm (Nat.pow_le_pow_right (by decide) (by omega)))] at hq
      cases hq
  · exact (hf q).1 ((hbit q).1 hq).2 z hz hs
  · rw [hbit, hf]
    refine ⟨hr r hr', fun z hz hs => hs r hr' (allB_sub (fun q hq => (hf q).1 ((hbit q).1 hq).2 z hz hs) ha) hw⟩
theorem lbl_exists {b : Bk} (hv : VBk b) {m : Nat} (hm : m < b.its.length) : ∃ x, Lbl b m x :=
  cl_exists (bsS_lt hv hm) fun r hr => by
    obtain ⟨_, h1, h2⟩ := ruOk_mem (hv.rules r hr)
    omega
/-- A set that follows within it lies in the label. -/
theorem gd_label {b : Bk} {m s x : Nat} (h : Gd b m s) (hx : Lbl b m x) : Sub s x :=
  h.1.2 x (fun q hq => hx.1.1.1 q (by rw [Nat.testBit_and, Bool.and_eq_true] at hq; exact hq.1)) fun r hr ha _ => hx.1.2 r hr ha rfl
/-- The properties of a proof follow within them. -/
theorem Prf.gd {b : Bk} (hv : VBk b) {m : Nat} (hm : m < b.its.length) {l : List St} (h : Prf b m l) : Gd b m (kS l) := by
  refine ⟨⟨fun q hq => by rw [Nat.testBit_and, Bool.and_eq_true] at hq; exact hq.2, fun z hz hs => ?_⟩, fun r _ _ h => h⟩
  have key : ∀ i, i ≤ l.length → Sub (kS (l.take i)) z := fun i => by
    induction i with
    | zero => intro _ q hq; simp [kS] at hq
    | succ i ih =>
      intro hi q hq
      have ih := ih (by omega)
      rw [kS_take (by omega), Nat.testBit_or, Bool.or_eq_true] at hq
      rcases hq with hq | hq
      · exact ih q hq
      · rw [Nat.testBit_two_pow, decide_eq_true_eq] at hq
        subst hq
        have hmem : (kS l).testBit l[i].1.toNat = true := kS_mem (List.getElem_mem (by omega))
        have hr := h i (by omega)
        have hp := rg_prop hr
        unfold rgR at hr
        rw [if_neg (by omega)] at hr
        split at hr
        · simp only [Bool.and_eq_true, decide_eq_true_eq] at hr
          obtain ⟨⟨⟨h0, h1⟩, h2⟩, h3⟩ := hr
          refine hz _ ?_
          rw [Nat.testBit_and, hmem, Bool.and_true]
          unfold bsS
          rw [bsF_bit, Nat.zero_testBit, Bool.false_or, List.any_eq_true]
          have hlt : cnS b m < 18446744073709551616 := Nat.lt_of_lt_of_le (cnS_lt hv hm) (Nat.le_trans (Nat.pow_le_pow_right (by decide) (show m + 1 ≤ 60 by have := hv.ni; omega)) (by decide))
          refine ⟨l[i].2.1.toNat, (mem_bl _ hlt _).2 h2, ?_⟩
          rw [mk_bit, List.contains_iff_mem]
          exact List.mem_map_of_mem (List.contains_iff_mem.1 h3)
        · simp only [Bool.and_eq_true, decide_eq_true_eq] at hr
          obtain ⟨⟨⟨⟨_, h0⟩, h1⟩, h2⟩, h3⟩ := hr
          have hlt : l[i].2.2.toNat < b.rus.length := by omega
          rw [List.getElem?_eq_getElem hlt, Option.getD_some] at h2 h3
          have := hs b.rus[l[i].2.2.toNat] (List.getElem_mem hlt) (allB_sub ih h3) (by rw [h2]; exact hmem)
          rw [h2] at this
          exact this
  have := key l.length (Nat.le_refl _)
  rwa [List.take_length] at this
/-- The fewest properties are no more than those of the proof that is found. -/
theorem short_le {b : Bk} {item prop : Int} {ok : Bool} {l : List St} {g : Nat → Bool} (h0 : akR b item prop = 0) (hg : ∀ s, g s = true ↔ Gd b item.toNat s) (hE : ExR b item prop ok l) (hn : bestN g prop.toNat b.p.toNat (2 ^ b.p.toNat) ≠ 0) :
    Prf b item.toNat l ∧ bestN g prop.toNat b.p.toNat (2 ^ b.p.toNat) ≤ cntB (kS l) b.p.toNat := by
  obtain ⟨hn0, hp0, hp1⟩ := ak_zero h0
  obtain ⟨hv0, hi0, hi1⟩ := nm_zero hn0
  have hv := vl_zero hv0
  rw [ExR, if_pos h0] at hE
  obtain ⟨h1, _, h3⟩ := hE
  obtain ⟨x, hx⟩ := lbl_exists hv (m := item.toNat) (by omega)
  obtain ⟨s, hs1, hs2, hs3, _⟩ := best_at _ hn
  have hok : ok = true := by rw [h1 x hx]; exact gd_label ((hg s).1 hs3) hx _ hs2
  obtain ⟨hG, hb⟩ := h3 hok
  exact ⟨hG.prf, (best_le (by omega) _ _ (kS_lt' hG.prf) hb ((hg _).2 (hG.prf.gd hv (by omega)))).2⟩
end Go.Proofs.YtgoojcjfhghmgaaDoor


set_option linter.unusedSimpArgs false
namespace Go.Proofs.YtgoojcjfhghmgaaDoor
open Go.RowKit

theorem plTo_cnt (x : Nat) : ∀ k, (plTo x k).length = cntB x k
  | 0 => rfl
  | k + 1 => by
    rw [plTo_succ, List.length_append, plTo_cnt x k]
    show _ = cntB x k + _
    split <;> rfl
theorem bl_cnt {x n : Nat} (hx : x < 2 ^ n) (hn : n ≤ 60) : (bl x).length = cntB x n := by rw [← plTo_all hx hn, plTo_cnt]
theorem shr_nat (n k : Nat) : (n : Int) / (2 : Int) ^ k = ((n / 2 ^ k : Nat) : Int) := by rw [Int.natCast_ediv]; simp

set_option maxRecDepth 100000 in
set_option maxHeartbeats 1000000 in
theorem bits_ref (n : Nat) (hn : n < 2 ^ 10) (w : World) :
    Calls Tryd.prog 93 #[.int .i64 n] w fun e w' => ∃ A c, e = .returned (.slice A (bl n).length c) ∧ w'.ownsRow w.heap.size 3 1 (.slice A (bl n).length c) (bl n).length (natV (bl n)) ∧ Below w.heap.size w w' := by
  obtain ⟨j0, hj, hy0, hy1, hy2⟩ := info_parts info3
  have Hn := Lib.hid hn
  have Hkt := Lib.hid (fun k => bit_test (m := n) (i := k) (Nat.lt_trans hn (by decide)))
  clear hn
  go_enter Tryd.func93, Tryd.ntmps93
  go_wp2_with fail
  go_loopw [3, 4] (fun out i wr => ∃ k : Nat, k ≤ 10 ∧ i = .int .i64 k ∧ wr.ownsRow w.heap.size 3 1 out (plTo n k).length (natV (plTo n k)) ∧ Below w.heap.size w wr) (fun _ i _ => 11 - (intOf i).toNat)
  case atStart => exact ⟨0, Nat.zero_le _, rfl, World.ownsRow_nil _ _ _ _, Below.refl _ _⟩
  case round =>
    obtain ⟨k, hk, rfl, hown, hb⟩ := hrel
    have hlen := plTo_length n k
    by_cases hz : n / 2 ^ k = 0
    · have Hf := Lib.hid (show plTo n k = bl n from plTo_all (by
        rcases Nat.div_eq_zero_iff.1 hz with h | h
        · exact absurd h (Nat.pos_iff_ne_zero.1 (Nat.two_pow_pos k))
        · exact h) (by omega))
      rw [Hf.out] at hown
      obtain ⟨A, c, rfl⟩ := own_slice hown
      have hgt : (n : Int) / (2 : Int) ^ k = 0 := by rw [shr_nat, hz]; rfl
      clear hz hlen
      go_wp2_with fail
      go_ret
      exact ⟨A, c, rfl, hown, hb⟩
    · have hk9 : k < 10 := by
        rcases Nat.lt_or_ge k 10 with h | h
        · exact h
        · exact absurd (Nat.div_eq_of_lt (Nat.lt_of_lt_of_le Hn.out (Nat.pow_le_pow_right (by decide) h))) hz
      have hgt : 0 < (n : Int) / (2 : Int) ^ k := by rw [shr_nat]; exact Int.natCast_pos.2 (Nat.pos_of_ne_zero hz)
      have HO := Lib.hid hown
      have Hb := Lib.hid hb
      have kt := Hkt.out k
      have Hs := Lib.hid (plTo_succ n k)
      clear hz hown hb
      cases ht : n.testBit k with
      | false =>
        rw [ht] at kt
        simp only [Bool.false_eq_true, if_false] at kt
        have Hf := Lib.hid (show plTo n (k + 1) = plTo n k by rw [Hs.out, ht]; simp)
        clear ht
        go_wp2_with fail
        go_roundw
        case rel => exact ⟨k + 1, by omega, by go_num, by rw [Hf.out]; exact HO.out, Hb.out⟩
        case measure => simp [intOf]; omega
      | true =>
        rw [ht] at kt
        simp only [if_true] at kt
        have Hf := Lib.hid (show plTo n (k + 1) = plTo n k ++ [k] by rw [Hs.out, ht]; simp)
        clear ht
        go_wp2_with (at_builtin; refine wpList_append_own _ rfl _ _ 32 rfl w.heap.size 3 j0 _ 1 8 Tryd.underlying32 hj hy0 hy1 hy2 rfl (by decide) _ _ _ rfl (HO.out.alloc _) ⟨wr.heap.size, 0, none⟩ 1 1 _ rfl rfl (cell_one_new _ _ _) (by simp [Value.oneCell']) (by simp only [maxLen]; omega) (by omega) (Hb.out.alloc Hb.out.size _).size ?_; intro v' w7 hown7 hg7 _)
        have b7 : Below w.heap.size w w7 := (Hb.out.alloc Hb.out.size _).grown hg7 (Hb.out.alloc Hb.out.size _).size (fun x hx => (HO.out.lt x hx).1)
        go_roundw
        case rel => exact ⟨k + 1, by omega, by go_num, by rw [Hf.out, List.length_append, natV, List.map_append]; exact hown7, b7⟩
        case measure => simp [intOf]; omega

theorem bits_ref' (n : Nat) (hn : n < 2 ^ 10) (w : World) :
    Calls Tryd.prog 93 #[.int .i64 n] w fun e w' => ∃ A c, e = .returned (.slice A (bl n).length c) ∧ IntsAt w'.heap.size w' A (intL (bl n)) ∧ Below w.heap.size w w' :=
  (bits_ref n hn w).mono (by
    rintro e w' ⟨A, c, rfl, hown, hb⟩
    obtain ⟨A', c', hv, hI⟩ := IntsAt.of_nat hown
    injection hv with h1 h2 h3
    subst h1
    exact ⟨A, c, rfl, hI, hb⟩)
/-- Rules as they stand in memory. -/
def RuVs (B : Nat) (w : World) (ps : List (Value × Value)) (l : List Ru) : Prop := ps.length = l.length ∧ ∀ k (hk : k < l.length), ∃ A1 c1, ps[k]? = some (.slice A1 l[k].1.length c1, .int .i64 l[k].2) ∧ IntsAt B w A1 l[k].1
theorem RuVs.nil (B : Nat) (w : World) : RuVs B w [] [] := ⟨rfl, fun k hk => by simp at hk⟩
theorem RuVs.snoc {B : Nat} {w : World} {ps : List (Value × Value)} {l : List Ru} {r : Ru} {A1 : Option Addr} {c1 : Nat} (h : RuVs B w ps l) (hi : IntsAt B w A1 r.1) : RuVs B w (ps ++ [(.slice A1 r.1.length c1, .int .i64 r.2)]) (l ++ [r]) := by
  refine ⟨by simp [h.1], fun k hk => ?_⟩
  rw [List.length_append, List.length_singleton] at hk
  by_cases e : k < l.length
  · rw [List.getElem_append_left e, List.getElem?_append_left (by rw [h.1]; exact e)]
    exact h.2 k e
  · obtain rfl : k = l.length := by omega
    rw [List.getElem_append_right (Nat.le_refl _), List.getElem?_append_right (by rw [h.1]; exact Nat.le_refl _)]
    exact ⟨A1, c1, by simp [h.1], by simpa using hi⟩
theorem RuVs.rus {B : Nat} {w w' : World} {ps : List (Value × Value)} {l : List Ru} {base n c : Nat} {A : Option Addr} (h : RuVs B w ps l) (hb : Below B w w') (hB : B ≤ w'.heap.size) (hown : w'.ownsRow base 42 2 (.slice A n c) n (flatV ps)) (hn : ps.length = n) : RusAt w'.heap.size w' A l := fun k hk => by
  have hkp : k < ps.length := by rw [h.1]; exact hk
  obtain ⟨g, rfl, hg, q0, q1⟩ := own_cell2 hown hn hkp
  obtain ⟨A1, c1, e1, i1⟩ := h.2 k hk
  rw [List.getElem?_eq_getElem hkp] at e1
  injection e1 with e1
  rw [e1] at q0 q1
  refine ⟨g, 0, A1, c1, rfl, hg, ?_, ?_, i1.below hb hB⟩
  · rw [Nat.zero_add]; exact q0
  · rw [Nat.zero_add]; exact q1
theorem inR_succ {s : Nat} {l : List Ru} {k : Nat} (hk : k < l.length) : inR s (l.take (k + 1)) = inR s (l.take k) ++ if s.testBit l[k].2.toNat && allB s (natL l[k].1) then [l[k]] else [] := by
  rw [List.take_succ_eq_append_getElem hk, inR, List.filter_append, List.filter_cons, List.filter_nil]
  rfl
theorem inR_length (s : Nat) (l : List Ru) : (inR s l).length ≤ l.length := List.length_filter_le _ _

set_option maxRecDepth 100000 in
set_option maxHeartbeats 4000000 in
theorem withinR_ref (A : Option Addr) (c B g n c' s : Nat) (l : List Ru) (w : World) (hB : B ≤ w.heap.size) (h : RusAt B w A l) (hbr : BR g n s w) (hs : l.length ≤ 60) (hl : ∀ x ∈ l, x.1.length ≤ 40) (hr : ∀ x ∈ l, ruOk n x = true) :
    Calls Tryd.prog 101 #[.slice A l.length c, .slice (some ⟨g, 0, none⟩) n c'] w fun e w' => ∃ A' c', e = .returned (.slice A' (inR s l).length c') ∧ RusAt w'.heap.size w' A' (inR s l) ∧ Below w.heap.size w w' := by
  obtain ⟨j0, hj, hy0, hy1, hy2⟩ := info_parts info42
  have H := Lib.hid (h.below (Below.refl _ _) hB)
  have Hr := Lib.hid hr
  have Hl := Lib.hid hl
  have Hbr := Lib.hid hbr
  clear h hr hl hbr
  go_enter Tryd.func101, Tryd.ntmps101
  go_wp2_with fail
  go_loopw [5, 6] (fun out i wr => ∃ (k : Nat) (ps : List (Value × Value)), k ≤ l.length ∧ i = .int .i64 k ∧ wr.ownsRow w.heap.size 42 2 out ps.length (flatV ps) ∧ Aside (RuVs w.heap.size w ps (inR s (l.take k))) ∧ ps.length ≤ 60 ∧ Below w.heap.size w wr) (fun _ i _ => l.length - (intOf i).toNat)
  case atStart => exact ⟨0, [], Nat.zero_le _, rfl, World.ownsRow_nil _ _ _ _, RuVs.nil _ _, Nat.zero_le _, Below.refl _ _⟩
  case round =>
    obtain ⟨k, ps, hk, rfl, hown, HV0, hps, hb⟩ := hrel
    have HV := Lib.hid HV0.out
    clear HV0
    by_cases hlt : k < l.length
    · obtain ⟨bb, off, A1, c1, rfl, hbB, e0, e1, i1⟩ := H.out k hlt
      have d0 := (hb.cell (p := ⟨bb, off + k * 2, none⟩) hbB).trans e0
      have d1 := (hb.cell (p := ⟨bb, off + k * 2 + 1, none⟩) hbB).trans e1
      obtain ⟨hset, ht0, htp⟩ := ruOk_mem (Hr.out l[k] (List.getElem_mem hlt))
      obtain ⟨t, ht⟩ := Int.eq_ofNat_of_zero_le ht0
      have hin : intL (natL l[k].1) = l[k].1 := int_nat fun x hx => (isS_mem hset x hx).1
      have hqn : ∀ q ∈ natL l[k].1, q < n := natL_lt (isS_mem hset)
      have hlen : (natL l[k].1).length = l[k].1.length := natL_length _
      have hl40 := Hl.out l[k] (List.getElem_mem hlt)
      have Hs := Lib.hid (inR_succ (s := s) hlt)
      have HVs := Lib.hid (HV.out.snoc (r := l[k]) (c1 := c1) i1)
      have hps2 : ps.length ≤ k := by
        have := HV.out.1
        rw [this]
        exact Nat.le_trans (inR_length _ _) (by rw [List.length_take]; omega)
      have htn : l[k].2.toNat = t := by rw [ht]; rfl
      have ca0 := all_ref g c' s n A1 c1 w.heap.size (natL l[k].1) wr (Hbr.out.below hb Hbr.out.1) (by rw [hin]; exact i1.below hb (Nat.le_refl _)) (by omega) hqn
      rw [hlen] at ca0
      have ca := Lib.hid ca0
      rw [htn] at Hs
      rw [ht] at d1 htp HVs
      have htn' : t < n := by omega
      have z0 := (hb.cell (p := ⟨g, t, none⟩) Hbr.out.1).trans (Hbr.out.2 t htn')
      have HO := Lib.hid hown
      have Hb := Lib.hid hb
      generalize allB s (natL l[k].1) = a at ca Hs
      generalize l[k].1.length = m at d0 ca HVs hl40
      clear e0 e1 hset ht0 hin hlen htn ht ca0 hown hb i1
      have Hlt := Lib.hid hlt
      cases hst : s.testBit t with
      | false =>
        rw [hst] at z0 Hs
        have Hf := Lib.hid (show inR s (l.take (k + 1)) = inR s (l.take k) by rw [Hs.out]; simp)
        clear hst ca
        go_wp2_with fail
        go_roundw
        case rel => exact ⟨k + 1, ps, by omega, by go_num, HO.out, by rw [Hf.out]; exact HV.out, hps, Hb.out⟩
        case measure => simp [intOf]; omega
      | true =>
        rw [hst] at z0 Hs
        cases a with
        | false =>
          have Hf := Lib.hid (show inR s (l.take (k + 1)) = inR s (l.take k) by rw [Hs.out]; simp)
          clear hst
          go_wp2_with (go_at_call 100; refine ca.out.mono ?_; rintro e w2 ⟨rfl, rfl⟩)
          go_roundw
          case rel => exact ⟨k + 1, ps, by omega, by go_num, HO.out, by rw [Hf.out]; exact HV.out, hps, Hb.out⟩
          case measure => simp [intOf]; omega
        | true =>
          have Hf := Lib.hid (show inR s (l.take (k + 1)) = inR s (l.take k) ++ [l[k]] by rw [Hs.out]; rfl)
          clear hst
          go_wp2_with (first
            | (go_at_call 100; refine ca.out.mono ?_; rintro e w2 ⟨rfl, rfl⟩)
            | (at_builtin; refine wpList_append_own _ rfl _ _ 23 rfl w.heap.size 42 j0 _ 2 32 Tryd.underlying23 hj hy0 hy1 hy2 rfl (by decide) _ _ _ rfl (HO.out.alloc _) ⟨_, 0, none⟩ 1 1 _ rfl rfl (cells_new _ [.slice A1 m c1, .int .i64 (t : Int)] 42) (by simp [Value.oneCell']) (by simp only [maxLen]; omega) (by omega) (Hb.out.alloc Hb.out.size _).size ?_; intro v' w7 hown7 hg7 _))
          have b7 : Below w.heap.size w w7 := (Hb.out.alloc Hb.out.size _).grown hg7 (Hb.out.alloc Hb.out.size _).size (fun x hx => (HO.out.lt x hx).1)
          go_roundw
          case rel => exact ⟨k + 1, ps ++ [(.slice A1 m c1, .int .i64 t)], by omega, by go_num, by rw [List.length_append, List.length_singleton, flatV_snoc]; exact hown7, by rw [Hf.out]; exact HVs.out, by rw [List.length_append, List.length_singleton]; omega, b7⟩
          case measure => simp [intOf]; omega
    · obtain rfl : k = l.length := by omega
      rw [List.take_length] at HV
      obtain ⟨A5, c5, rfl⟩ := own_slice hown
      have hR := HV.out.rus hb hb.size hown rfl
      have e5 := HV.out.1
      rw [e5] at hown ⊢
      go_wp2_with fail
      go_ret
      exact ⟨A5, c5, rfl, hR, hb⟩
end Go.Proofs.YtgoojcjfhghmgaaDoor
