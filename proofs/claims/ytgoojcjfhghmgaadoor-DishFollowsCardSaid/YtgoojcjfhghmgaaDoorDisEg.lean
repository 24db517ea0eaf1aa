/- The reference's Follows. -/
import Derived.Test.YtgoojcjfhghmgaaDoorDisEf
import Derived.Deep.RegionWith
namespace Go.Proofs.YtgoojcjfhghmgaaDoor
open Go.RowKit

theorem keep5f {w0 W : World} {n n' : Nat} {c0 c1 c2 e0 e1 : Value} (hlt : n < w0.heap.size) (hlt' : n' < w0.heap.size) (h : w0.cell? ⟨n, 0, none⟩ = some c0 ∧ w0.cell? ⟨n, 1, none⟩ = some c1 ∧ w0.cell? ⟨n, 2, none⟩ = some c2) (h' : w0.cell? ⟨n', 0, none⟩ = some e0 ∧ w0.cell? ⟨n', 1, none⟩ = some e1) (hb : Below w0.heap.size w0 W) :
    W.cell? ⟨n, 0, none⟩ = some c0 ∧ W.cell? ⟨n, 1, none⟩ = some c1 ∧ W.cell? ⟨n, 2, none⟩ = some c2 ∧ W.cell? ⟨n', 0, none⟩ = some e0 ∧ W.cell? ⟨n', 1, none⟩ = some e1 ∧ Below w0.heap.size w0 W :=
  ⟨(hb.cell (p := ⟨n, 0, none⟩) hlt).trans h.1, (hb.cell (p := ⟨n, 1, none⟩) hlt).trans h.2.1, (hb.cell (p := ⟨n, 2, none⟩) hlt).trans h.2.2, (hb.cell (p := ⟨n', 0, none⟩) hlt').trans h'.1, (hb.cell (p := ⟨n', 1, none⟩) hlt').trans h'.2, hb⟩

set_option maxRecDepth 100000 in
set_option maxHeartbeats 40000000 in
theorem Follows_ref (AI AR : Option Addr) (cI cR : Nat) (A : Option Addr) (c B : Nat) (b : Bk) (x : Ru) (w : World) (hB : B ≤ w.heap.size) (h : ItsAt B w AI b.its) (h' : RusAt B w AR b.rus) (hi : IntsAt B w A x.1) (hs : Short b) (hm : x.1.length ≤ 60) :
    Calls Tryd.prog 34 #[.agg #[.int .i64 b.p, .slice AI b.its.length cI, .slice AR b.rus.length cR], .agg #[.slice A x.1.length c, .int .i64 x.2]] w fun e w' => ∃ v, e = .returned (.tuple #[v, .int .i64 (fwE b x)]) ∧ FwV b x v ∧ Below w.heap.size w w' := by
  obtain ⟨W0, hW0⟩ : ∃ W0, W0 = (w.alloc (.cells #[.int .i64 b.p, .slice AI b.its.length cI, .slice AR b.rus.length cR] 25)).alloc (.cells #[.slice A x.1.length c, .int .i64 x.2] 42) := ⟨_, rfl⟩
  have hw0 : Below w.heap.size w W0 := by rw [hW0]; exact balloc (balloc (Below.refl _ _) _) _
  have hb0 : Blk W0 w.heap.size 25 #[.int .i64 b.p, .slice AI b.its.length cI, .slice AR b.rus.length cR] := by rw [hW0]; exact (Blk.new w 25 _).alloc _
  have hb1 : Blk W0 (w.heap.size + 1) 42 #[.slice A x.1.length c, .int .i64 x.2] := by rw [hW0]; exact blk_new' (by simp only [World.size_alloc])
  have hlt : w.heap.size < W0.heap.size := hb0.lt
  have hlt1 : w.heap.size + 1 < W0.heap.size := hb1.lt
  have hI := (h.below (Below.refl _ _) hB).below hw0 (Nat.le_of_lt hlt)
  have hR := (h'.below (Below.refl _ _) hB).below hw0 (Nat.le_of_lt hlt)
  have hP := (hi.below (Below.refl _ _) hB).below hw0 (Nat.le_of_lt hlt)
  have cv := Lib.hid (Validate_ref AI AR cI cR _ b W0 (Nat.le_refl _) hI hR hs)
  have HE := Lib.hid (show fwE b x = if vlR b = 0 then (if ruOk b.p x then 0 else 1) else vlR b from rfl)
  have HR := Lib.hid (fun r => show FwB b x r ↔ (if fwE b x = 0 then FlR b.rus b.p.toNat x r else r = false) from Iff.rfl)
  have HX := Lib.hid (fun W (hW : Below W0.heap.size W0 W) => And.intro (blk3 (hb0.below hW hlt)) (blk2 (hb1.below hW hb1.lt)))
  have HB0 := Lib.hid hb0
  have HB1 := Lib.hid hb1
  have Hw := Lib.hid hw0
  have tok := Lib.hid (Nat.le_refl 0)
  by_cases h0 : vlR b = 0
  · have hv := vl_zero h0
    have hp0 := hv.p0
    have hp1 := hv.p1
    have cs := Lib.hid (fun W (hW : Below W0.heap.size W0 W) => ruleOK_ref A c W0.heap.size x b.p W hW.size (hP.below hW (Nat.le_refl _)) (by omega) ⟨hp0, hp1⟩)
    rw [h0] at cv
    cases hset : ruOk b.p x with
    | false =>
      have e1 : fwE b x = 1 := by rw [HE.out, if_pos h0, hset]; rfl
      have Hn := Lib.hid (show FwV b x (.bool false) from ⟨_, rfl, (HR.out false).2 (by rw [if_neg (by omega)])⟩)
      rw [hset] at cs
      rw [e1]
      clear h h' hi hs hI hR hP hb0 hb1 hw0 hv HE HR hset h0 e1 hB
      go_enter Tryd.func34, Tryd.ntmps34
      go_wp2_with (first
        | (have tk := tok; clear tok; go_at_call 21; rw [← hW0]; clear hW0; refine cv.out.mono ?_; rintro e w1 ⟨rfl, hd⟩; have hd1 := hd; have tok2 := tk; obtain ⟨⟨z0, z1, z2, _⟩, y0, y1, _⟩ := HX.out _ hd1; clear hd)
        | (have tk := tok2; clear tok2; go_at_call 62; refine (cs.out _ hd1).mono ?_; rintro e w2 ⟨rfl, hd2⟩; have hb2 := hd1.trans (hd2.mono hd1.size)))
      go_ret2
      exact ⟨_, rfl, Hn.out, Hw.out.trans (hb2.mono Hw.out.size)⟩
    | true =>
      have e1 : fwE b x = 0 := by rw [HE.out, if_pos h0, hset]; rfl
      obtain ⟨hsx, ht0, htp⟩ := ruOk_mem hset
      obtain ⟨t, ht⟩ := Int.eq_ofNat_of_zero_le ht0
      have htt : x.2.toNat = t := by rw [ht]; rfl
      have hps : ∀ y ∈ x.1, 0 ≤ y ∧ y < ((b.p.toNat : Nat) : Int) := fun y hy => by rw [Int.toNat_of_nonneg hp0]; exact isS_mem hsx y hy
      have hin : intL (natL x.1) = x.1 := int_nat fun y hy => (hps y hy).1
      have hlp := natL_lt hps
      have Hn := Lib.hid (fun y (h1 : Cl b.rus (mk (natL x.1)) allW y) (h2 : y < 2 ^ b.p.toNat) => show FwV b x (.bool (y.testBit t)) from ⟨_, rfl, (HR.out _).2 (by rw [if_pos e1]; exact ⟨y, h1, h2, by rw [htt]⟩)⟩)
      have cm0 := fun W (hW : Below W0.heap.size W0 W) => marks_ref A c W0.heap.size (natL x.1) b.p.toNat W hW.size (by rw [hin]; exact hP.below hW (Nat.le_refl _)) (by rw [natL_length]; omega) hlp (by omega)
      rw [natL_length, Int.toNat_of_nonneg hp0] at cm0
      have cm := Lib.hid cm0
      have cc := Lib.hid (fun g0 W (hW : Below W0.heap.size W0 W) (hbr : BR g0 b.p.toNat (mk (natL x.1)) W) => closed_ref AR cR W0.heap.size g0 b.p.toNat b.p.toNat (mk (natL x.1)) b.rus W hW.size (hR.below hW (Nat.le_refl _)) hbr hs.2.1 hs.2.2.2 (fun x hx => by have := hv.rules x hx; rwa [Int.toNat_of_nonneg hp0]) (by omega) (mk_lt hlp))
      have htp' : (t : Int) < ((b.p.toNat : Nat) : Int) := by omega
      have htn : t < b.p.toNat := by omega
      have htm : (t : Int) < max b.p 0 := by omega
      have t0 : (0 : Int) ≤ (t : Int) := by omega
      rw [hset] at cs
      rw [e1]
      rw [ht] at hW0 HB1 HX cs ⊢
      clear h h' hi hs hI hR hP hb0 hb1 hw0 hv HE HR hset h0 e1 hB cm0 hlp hin hps hsx ht0 htp ht htt hm
      generalize mk (natL x.1) = m at cm cc Hn
      go_enter Tryd.func34, Tryd.ntmps34
      go_wp2_with (first
        | (have tk := tok; clear tok; go_at_call 21; rw [← hW0]; clear hW0; refine cv.out.mono ?_; rintro e w1 ⟨rfl, hd⟩; have hd1 := hd; have tok2 := tk; obtain ⟨⟨z0, z1, z2, _⟩, y0, y1, _⟩ := HX.out _ hd1; clear hd)
        | (have tk := tok2; clear tok2; go_at_call 62; refine (cs.out _ hd1).mono ?_; rintro e w2 ⟨rfl, hd2⟩; have hb2 := hd1.trans (hd2.mono hd1.size); have tok3 := tk))
      clear z0 z1 z2 y0 y1 hd1 hd2
      obtain ⟨⟨z0, z1, z2, _⟩, y0, y1, _⟩ := HX.out _ hb2
      go_region_with (first
        | (go_at_call 77; have tk := tok3; clear tok3; refine (cm.out _ (by repeat (first | exact Below.refl _ _ | assumption | refine Below.drew ?_))).mono ?_; rintro e w5 ⟨rfl, hbb5, hd5⟩; have tok4 := tk; have hb5 : Below W0.heap.size W0 w5 := Below.trans (by repeat (first | exact Below.refl _ _ | assumption | refine Below.drew ?_)) (hd5.mono (Below.size (w := W0) (B := W0.heap.size) (by repeat (first | exact Below.refl _ _ | assumption | refine Below.drew ?_)))); clear z0 z1 z2 y0 y1; obtain ⟨⟨z0, z1, z2, _⟩, y0, y1, _⟩ := HX.out _ hb5)
        | (go_at_call 73; have tk := tok4; clear tok4; refine (cc.out _ _ (by repeat (first | exact Below.refl _ _ | assumption | refine Below.drew ?_)) (BR.below (B := w5.heap.size) hbb5.br (by repeat (first | exact Below.refl _ _ | assumption | refine Below.drew ?_)) hbb5.lt)).mono ?_; rintro e w6 ⟨g6, k6, y, rfl, hcl, hyl, hbb6, hg6, hd6⟩; have tok5 := tk; have hb6 : Below W0.heap.size W0 w6 := Below.trans (by repeat (first | exact Below.refl _ _ | assumption | refine Below.drew ?_)) (hd6.mono (Below.size (w := W0) (B := W0.heap.size) (by repeat (first | exact Below.refl _ _ | assumption | refine Below.drew ?_)))); have z6 := hbb6.cell htn; clear z0 z1 z2 y0 y1; obtain ⟨⟨z0, z1, z2, _⟩, y0, y1, _⟩ := HX.out _ hb6))
      all_goals
        have HB6 := Lib.hid (Hw.out.trans (hb6.mono Hw.out.size))
        have HF6 := Lib.hid (Hn.out y hcl hyl)
        clear hcl hyl hb6
        go_wp2_with fail
        go_ret2
        exact ⟨_, rfl, HF6.out, HB6.out⟩
  · have e1 : fwE b x = vlR b := by rw [HE.out, if_neg h0]
    have Hn := Lib.hid (show FwV b x (.bool false) from ⟨_, rfl, (HR.out false).2 (by rw [if_neg (by rw [e1]; exact h0)])⟩)
    have he2 : (vlR b != 0) = true := by simpa using h0
    rw [e1]
    clear h h' hi hs hI hR hP hb0 hb1 hw0 HE HR h0 e1 hB
    generalize vlR b = e0 at *
    go_enter Tryd.func34, Tryd.ntmps34
    go_wp2_with (have tk := tok; clear tok; go_at_call 21; rw [← hW0]; clear hW0; refine cv.out.mono ?_; rintro e w1 ⟨rfl, hd⟩; obtain ⟨⟨z0, z1, z2, _⟩, y0, y1, _⟩ := HX.out _ hd)
    go_ret2
    exact ⟨_, rfl, Hn.out, Hw.out.trans (hd.mono Hw.out.size)⟩
end Go.Proofs.YtgoojcjfhghmgaaDoor
