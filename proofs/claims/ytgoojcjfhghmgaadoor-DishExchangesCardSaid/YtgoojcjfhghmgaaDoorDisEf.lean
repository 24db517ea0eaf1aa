/- follows, Follows. -/
import Derived.Test.YtgoojcjfhghmgaaDoorDisEe
namespace Go.Proofs.YtgoojcjfhghmgaaDoor
open Go.RowKit

theorem keep2 {w0 W : World} {n : Nat} {c0 c1 : Value} (hlt : n < w0.heap.size) (h : w0.cell? ⟨n, 0, none⟩ = some c0 ∧ w0.cell? ⟨n, 1, none⟩ = some c1) (hb : Below w0.heap.size w0 W) :
    W.cell? ⟨n, 0, none⟩ = some c0 ∧ W.cell? ⟨n, 1, none⟩ = some c1 ∧ Below w0.heap.size w0 W :=
  ⟨(hb.cell (p := ⟨n, 0, none⟩) hlt).trans h.1, (hb.cell (p := ⟨n, 1, none⟩) hlt).trans h.2, hb⟩
/-- Whether a rule follows. -/
def FlR (l : List Ru) (p : Nat) (x : Ru) (r : Bool) : Prop := ∃ y, Cl l (mk (natL x.1)) allW y ∧ y < 2 ^ p ∧ r = y.testBit x.2.toNat
theorem FlR.unique {l : List Ru} {p : Nat} {x : Ru} {r r' : Bool} (h : FlR l p x r) (h' : FlR l p x r') : r = r' := by
  obtain ⟨y, h1, _, rfl⟩ := h
  obtain ⟨z, g1, _, rfl⟩ := h'
  rw [h1.unique g1]
def FlV (l : List Ru) (p : Nat) (x : Ru) (v : Value) : Prop := ∃ r, v = .bool r ∧ FlR l p x r

set_option maxRecDepth 100000 in
set_option maxHeartbeats 4000000 in
theorem follows_any (A AR : Option Addr) (c cR B p : Nat) (l : List Ru) (x : Ru) (w : World) (hB : B ≤ w.heap.size) (h : RusAt B w AR l) (hi : IntsAt B w A x.1) (hs : l.length ≤ 60) (hl : ∀ x ∈ l, x.1.length ≤ 40) (hm : x.1.length ≤ 60) (hr : ∀ x ∈ l, ruOk p x = true) (hx : ruOk p x = true) (hp : p ≤ 10) :
    Calls Tryd.prog 78 #[.slice AR l.length cR, .agg #[.slice A x.1.length c, .int .i64 x.2]] w fun e w' => ∃ v, e = .returned v ∧ FlV l p x v ∧ Below w.heap.size w w' := by
  obtain ⟨ps, t0⟩ := x
  obtain ⟨hset, ht0, htp⟩ := ruOk_mem hx
  obtain ⟨t, rfl⟩ := Int.eq_ofNat_of_zero_le ht0
  simp only at hi hm hset ht0 htp ⊢
  have htn : t < p := by omega
  have hb0 := Blk.new w 42 #[.slice A ps.length c, .int .i64 t]
  have hw0 : Below w.heap.size w (w.alloc (.cells #[.slice A ps.length c, .int .i64 t] 42)) := (Below.refl _ _).alloc (Nat.le_refl _) _
  obtain ⟨W0, hW0⟩ : ∃ W0, W0 = w.alloc (.cells #[.slice A ps.length c, .int .i64 t] 42) := ⟨_, rfl⟩
  rw [← hW0] at hb0 hw0
  have hlt : w.heap.size < W0.heap.size := hb0.lt
  have hR := (h.below (Below.refl _ _) hB).below hw0 (Nat.le_of_lt hlt)
  have hP := (hi.below (Below.refl _ _) hB).below hw0 (Nat.le_of_lt hlt)
  have hps := isS_mem hset
  have hin : intL (natL ps) = ps := int_nat fun x hx => (hps x hx).1
  have hlp := natL_lt hps
  have cm0 := fun W (hW : Below W0.heap.size W0 W) => mask_any A c W0.heap.size (natL ps) W (by rw [hin]; exact hP.below hW (Nat.le_refl _)) (by rw [natL_length]; omega) (fun x hx => by have := hlp x hx; omega)
  rw [natL_length] at cm0
  have cm := Lib.hid cm0
  have cc := Lib.hid (fun W (hW : Below W0.heap.size W0 W) => closure_any AR cR W0.heap.size l p (mk (natL ps)) (-1) allW W hW.size (hR.below hW (Nat.le_refl _)) hs hl hr hp (mk_lt hlp) minus_one)
  have kt := fun y (hy : y < 2 ^ p) => bit_test (m := y) (i := t) (Nat.lt_of_lt_of_le hy (Nat.pow_le_pow_right (by decide) (by omega)))
  have Kt := Lib.hid kt
  have HF := Lib.hid (fun y (h1 : Cl l (mk (natL ps)) allW y) (h2 : y < 2 ^ p) => show FlV l p (ps, (t : Int)) (.bool (y.testBit t)) from ⟨_, rfl, y, h1, h2, by simp⟩)
  have HB := Lib.hid hb0
  have Hw := Lib.hid hw0
  clear h hi hs hl hm hr hx hset ht0 htp hb0 hw0 hR hP hps hin hlp cm0 kt hB
  generalize mk (natL ps) = m at cm cc HF
  have tok := Lib.hid (Nat.le_refl 0)
  go_enter Tryd.func78, Tryd.ntmps78
  go_wp2_with fail
  rw [← hW0]
  clear hW0
  go_region_held3 (fun W => W.cell? ⟨w.heap.size, 0, none⟩ = some (.slice A ps.length c) ∧ W.cell? ⟨w.heap.size, 1, none⟩ = some (.int .i64 t) ∧ Below W0.heap.size W0 W)
    ((refine keep2 hlt ⟨HB.out.cell 0, HB.out.cell 1⟩ ?_; repeat (first | exact Below.refl _ _ | assumption | refine Below.drew ?_)))
    (first
      | (go_at_call 76; have tk := tok; clear tok; refine (cm.out _ (by repeat (first | exact Below.refl _ _ | assumption | refine Below.drew ?_))).mono ?_; rintro e w5 ⟨rfl, rfl⟩; have tok2 := tk)
      | (go_at_call 75; have tk := tok2; clear tok2; refine (cc.out _ (by repeat (first | exact Below.refl _ _ | assumption | refine Below.drew ?_))).mono ?_; rintro e w6 ⟨y, rfl, hcl, hyl, hd6⟩; have kty := Kt.out y hyl; have hb6 : Below W0.heap.size W0 w6 := Below.trans (by repeat (first | exact Below.refl _ _ | assumption | refine Below.drew ?_)) (hd6.mono (Below.size (w := W0) (B := W0.heap.size) (by repeat (first | exact Below.refl _ _ | assumption | refine Below.drew ?_)))); have q0 := (hb6.cell (p := ⟨w.heap.size, 0, none⟩) hlt).trans (HB.out.cell 0); have q1 := (hb6.cell (p := ⟨w.heap.size, 1, none⟩) hlt).trans (HB.out.cell 1)))
  all_goals
    have HB6 := Lib.hid (Hw.out.trans (hb6.mono Hw.out.size))
    have HF6 := Lib.hid (HF.out y hcl hyl)
    clear hcl hyl hb6 kty
    generalize y.testBit t = r at HF6 ⊢
    cases r
    all_goals
      go_wp2_with fail
      go_ret
      exact ⟨_, rfl, HF6.out, HB6.out⟩

/-- The error of a book and a rule. -/
def fwE (b : Bk) (x : Ru) : Int := if vlR b = 0 then (if ruOk b.p x then 0 else 1) else vlR b
def FwB (b : Bk) (x : Ru) (r : Bool) : Prop := if fwE b x = 0 then FlR b.rus b.p.toNat x r else r = false
def FwV (b : Bk) (x : Ru) (v : Value) : Prop := ∃ r, v = .bool r ∧ FwB b x r
theorem FwB.unique {b : Bk} {x : Ru} {r r' : Bool} (h : FwB b x r) (h' : FwB b x r') : r = r' := by
  unfold FwB at h h'
  split at h
  · rename_i h0; rw [if_pos h0] at h'; exact h.unique h'
  · rename_i h0; rw [if_neg h0] at h'; rw [h, h']
theorem keep5 {w0 W : World} {n n' : Nat} {c0 c1 c2 e0 e1 : Value} (hlt : n < w0.heap.size) (hlt' : n' < w0.heap.size) (h : w0.cell? ⟨n, 0, none⟩ = some c0 ∧ w0.cell? ⟨n, 1, none⟩ = some c1 ∧ w0.cell? ⟨n, 2, none⟩ = some c2) (h' : w0.cell? ⟨n', 0, none⟩ = some e0 ∧ w0.cell? ⟨n', 1, none⟩ = some e1) (hb : Below w0.heap.size w0 W) :
    (W.cell? ⟨n, 0, none⟩ = some c0 ∧ W.cell? ⟨n, 1, none⟩ = some c1 ∧ W.cell? ⟨n, 2, none⟩ = some c2) ∧ (W.cell? ⟨n', 0, none⟩ = some e0 ∧ W.cell? ⟨n', 1, none⟩ = some e1) ∧ Below w0.heap.size w0 W :=
  ⟨⟨(hb.cell (p := ⟨n, 0, none⟩) hlt).trans h.1, (hb.cell (p := ⟨n, 1, none⟩) hlt).trans h.2.1, (hb.cell (p := ⟨n, 2, none⟩) hlt).trans h.2.2⟩, ⟨(hb.cell (p := ⟨n', 0, none⟩) hlt').trans h'.1, (hb.cell (p := ⟨n', 1, none⟩) hlt').trans h'.2⟩, hb⟩

set_option maxRecDepth 100000 in
set_option maxHeartbeats 4000000 in
theorem Follows_any (AI AR : Option Addr) (cI cR : Nat) (A : Option Addr) (c B : Nat) (b : Bk) (x : Ru) (w : World) (hB : B ≤ w.heap.size) (h : ItsAt B w AI b.its) (h' : RusAt B w AR b.rus) (hi : IntsAt B w A x.1) (hs : Short b) (hm : x.1.length ≤ 60) :
    Calls Tryd.prog 33 #[.agg #[.int .i64 b.p, .slice AI b.its.length cI, .slice AR b.rus.length cR], .agg #[.slice A x.1.length c, .int .i64 x.2]] w fun e w' => ∃ v, e = .returned (.tuple #[v, .int .i64 (fwE b x)]) ∧ FwV b x v ∧ Below w.heap.size w w' := by
  obtain ⟨W0, hW0⟩ : ∃ W0, W0 = (w.alloc (.cells #[.int .i64 b.p, .slice AI b.its.length cI, .slice AR b.rus.length cR] 25)).alloc (.cells #[.slice A x.1.length c, .int .i64 x.2] 42) := ⟨_, rfl⟩
  have hw0 : Below w.heap.size w W0 := by rw [hW0]; exact balloc (balloc (Below.refl _ _) _) _
  have hb0 : Blk W0 w.heap.size 25 #[.int .i64 b.p, .slice AI b.its.length cI, .slice AR b.rus.length cR] := by rw [hW0]; exact (Blk.new w 25 _).alloc _
  have hb1 : Blk W0 (w.heap.size + 1) 42 #[.slice A x.1.length c, .int .i64 x.2] := by rw [hW0]; exact blk_new' (by simp only [World.size_alloc])
  have hlt : w.heap.size < W0.heap.size := hb0.lt
  have hI := (h.below (Below.refl _ _) hB).below hw0 (Nat.le_of_lt hlt)
  have hR := (h'.below (Below.refl _ _) hB).below hw0 (Nat.le_of_lt hlt)
  have hP := (hi.below (Below.refl _ _) hB).below hw0 (Nat.le_of_lt hlt)
  have cv := Lib.hid (Validate_any AI AR cI cR _ b W0 (Nat.le_refl _) hI hR hs)
  have cs := Lib.hid (fun W (hW : Below W0.heap.size W0 W) => isRule_any A c W0.heap.size x b.p W hW.size (hP.below hW (Nat.le_refl _)) (by omega))
  have HE := Lib.hid (show fwE b x = if vlR b = 0 then (if ruOk b.p x then 0 else 1) else vlR b from rfl)
  have HR := Lib.hid (fun r => show FwB b x r ↔ (if fwE b x = 0 then FlR b.rus b.p.toNat x r else r = false) from Iff.rfl)
  have HX := Lib.hid (fun W (hW : Below W0.heap.size W0 W) => And.intro (blk3 (hb0.below hW hlt)) (blk2 (hb1.below hW hb1.lt)))
  have Hw := Lib.hid hw0
  have tok := Lib.hid (Nat.le_refl 0)
  by_cases h0 : vlR b = 0
  · have hv := vl_zero h0
    have hp0 := hv.p0
    have hp1 := hv.p1
    rw [h0] at cv
    cases hset : ruOk b.p x with
    | false =>
      have e1 : fwE b x = 1 := by rw [HE.out, if_pos h0, hset]; rfl
      have Hn := Lib.hid (show FwV b x (.bool false) from ⟨_, rfl, (HR.out false).2 (by rw [if_neg (by omega)])⟩)
      rw [hset] at cs
      rw [e1]
      clear h h' hi hs hI hR hP hb0 hb1 hw0 hv HE HR hset h0 e1 hB
      go_enter Tryd.func33, Tryd.ntmps33
      go_wp2_with (first
        | (have tk := tok; clear tok; go_at_call 20; rw [← hW0]; clear hW0; refine cv.out.mono ?_; rintro e w1 ⟨rfl, hd⟩; have hd1 := hd; have tok2 := tk; obtain ⟨⟨z0, z1, z2, _⟩, y0, y1, _⟩ := HX.out _ hd1; clear hd)
        | (have tk := tok2; clear tok2; go_at_call 60; refine (cs.out _ hd1).mono ?_; rintro e w2 ⟨rfl, hd2⟩; have hb2 := hd1.trans (hd2.mono hd1.size)))
      go_ret2
      exact ⟨_, rfl, Hn.out, Hw.out.trans (hb2.mono Hw.out.size)⟩
    | true =>
      have e1 : fwE b x = 0 := by rw [HE.out, if_pos h0, hset]; rfl
      have Hn := Lib.hid (fun v (h1 : FlV b.rus b.p.toNat x v) => show FwV b x v from by obtain ⟨r, e, h2⟩ := h1; exact ⟨r, e, (HR.out r).2 (by rw [if_pos e1]; exact h2)⟩)
      have cf := Lib.hid (fun W (hW : Below W0.heap.size W0 W) => follows_any A AR c cR W0.heap.size b.p.toNat b.rus x W hW.size (hR.below hW (Nat.le_refl _)) (hP.below hW (Nat.le_refl _)) hs.2.1 hs.2.2.2 hm (fun x hx => by have := hv.rules x hx; rwa [Int.toNat_of_nonneg hp0]) (by rwa [Int.toNat_of_nonneg hp0]) (by omega))
      rw [hset] at cs
      rw [e1]
      clear h h' hi hs hI hR hP hb0 hb1 hw0 hv HE HR hset h0 e1 hB
      go_enter Tryd.func33, Tryd.ntmps33
      go_wp2_with (first
        | (have tk := tok; clear tok; go_at_call 20; rw [← hW0]; clear hW0; refine cv.out.mono ?_; rintro e w1 ⟨rfl, hd⟩; have hd1 := hd; have tok2 := tk; obtain ⟨⟨z0, z1, z2, _⟩, y0, y1, _⟩ := HX.out _ hd1; clear hd)
        | (have tk := tok2; clear tok2; go_at_call 60; refine (cs.out _ hd1).mono ?_; rintro e w2 ⟨rfl, hd2⟩; have hb2 := hd1.trans (hd2.mono hd1.size); have tok3 := tk; clear z0 z1 z2 y0 y1; obtain ⟨⟨z0, z1, z2, _⟩, y0, y1, _⟩ := HX.out _ hb2)
        | (have tk := tok3; clear tok3; go_at_call 78; refine (cf.out _ hb2).mono ?_; rintro e w3 ⟨v3, rfl, hr3, hd3⟩; have hb3 := hb2.trans (hd3.mono hb2.size)))
      go_ret2
      exact ⟨v3, rfl, Hn.out v3 hr3, Hw.out.trans (hb3.mono Hw.out.size)⟩
  · have e1 : fwE b x = vlR b := by rw [HE.out, if_neg h0]
    have Hn := Lib.hid (show FwV b x (.bool false) from ⟨_, rfl, (HR.out false).2 (by rw [if_neg (by rw [e1]; exact h0)])⟩)
    have he2 : (vlR b != 0) = true := by simpa using h0
    rw [e1]
    clear h h' hi hs hI hR hP hb0 hb1 hw0 HE HR h0 e1 hB
    generalize vlR b = e0 at *
    go_enter Tryd.func33, Tryd.ntmps33
    go_wp2_with (have tk := tok; clear tok; go_at_call 20; rw [← hW0]; clear hW0; refine cv.out.mono ?_; rintro e w1 ⟨rfl, hd⟩; obtain ⟨⟨z0, z1, z2, _⟩, y0, y1, _⟩ := HX.out _ hd)
    go_ret2
    exact ⟨_, rfl, Hn.out, Hw.out.trans (hd.mono Hw.out.size)⟩
end Go.Proofs.YtgoojcjfhghmgaaDoor
