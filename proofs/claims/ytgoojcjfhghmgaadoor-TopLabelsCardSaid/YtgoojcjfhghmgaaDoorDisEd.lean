/- The reference's Closure. -/
import Derived.Test.YtgoojcjfhghmgaaDoorDisEc
namespace Go.Proofs.YtgoojcjfhghmgaaDoor
open Go.RowKit

set_option maxRecDepth 100000 in
set_option maxHeartbeats 4000000 in
theorem Closure_ref (AI AR : Option Addr) (cI cR : Nat) (A : Option Addr) (c B : Nat) (b : Bk) (ps : List Int) (w : World) (hB : B ≤ w.heap.size) (h : ItsAt B w AI b.its) (h' : RusAt B w AR b.rus) (hi : IntsAt B w A ps) (hs : Short b) (hm : ps.length ≤ 60) :
    Calls Tryd.prog 32 #[.agg #[.int .i64 b.p, .slice AI b.its.length cI, .slice AR b.rus.length cR], .slice A ps.length c] w fun e w' => ∃ v, e = .returned (.tuple #[v, .int .i64 (clE b ps)]) ∧ ClR b ps w.heap.size v w' ∧ Below w.heap.size w w' := by
  have hb0 := Blk.new w 25 #[.int .i64 b.p, .slice AI b.its.length cI, .slice AR b.rus.length cR]
  have hw0 : Below w.heap.size w (w.alloc (.cells #[.int .i64 b.p, .slice AI b.its.length cI, .slice AR b.rus.length cR] 25)) := (Below.refl _ _).alloc (Nat.le_refl _) _
  obtain ⟨W0, hW0⟩ : ∃ W0, W0 = w.alloc (.cells #[.int .i64 b.p, .slice AI b.its.length cI, .slice AR b.rus.length cR] 25) := ⟨_, rfl⟩
  rw [← hW0] at hb0 hw0
  have hlt : w.heap.size < W0.heap.size := hb0.lt
  have hI := (h.below (Below.refl _ _) hB).below hw0 (Nat.le_of_lt hlt)
  have hR := (h'.below (Below.refl _ _) hB).below hw0 (Nat.le_of_lt hlt)
  have hP := (hi.below (Below.refl _ _) hB).below hw0 (Nat.le_of_lt hlt)
  have cv := Lib.hid (Validate_ref AI AR cI cR _ b W0 (Nat.le_refl _) hI hR hs)
  have cs0 := fun W (hW : Below W0.heap.size W0 W) => IsSet_ref A c W0.heap.size ps (b.p - 1) W (hP.below hW (Nat.le_refl _)) (by omega)
  rw [show b.p - 1 + 1 = b.p by omega] at cs0
  have cs := Lib.hid cs0
  clear cs0
  have HE := Lib.hid (show clE b ps = if vlR b = 0 then (if isS ps b.p then 0 else 1) else vlR b from rfl)
  have HR := Lib.hid (fun v W => show ClR b ps w.heap.size v W ↔ (if clE b ps = 0 then ∃ x : Nat, Cl b.rus (mk (natL ps)) allW x ∧ x < 2 ^ b.p.toNat ∧ W.ownsRow w.heap.size 3 1 v (bl x).length (natV (bl x)) else v = .slice none 0 0) from Iff.rfl)
  have HB := Lib.hid hb0
  have Hw := Lib.hid hw0
  by_cases h0 : vlR b = 0
  · have hv := vl_zero h0
    rw [h0] at cv
    have jp : wrap64 (b.p - 1) = b.p - 1 := by have h1 := hv.p0; have h2 := hv.p1; unfold wrap64; omega
    cases hset : isS ps b.p with
    | false =>
      have e1 : clE b ps = 1 := by rw [HE.out, if_pos h0, hset]; rfl
      have Hn := Lib.hid (fun v W (hv : v = Value.slice none 0 0) => (HR.out v W).2 (by rw [if_neg (by omega)]; exact hv))
      rw [hset] at cs
      rw [e1]
      clear h h' hi hs hI hR hP hb0 hw0 hv HE HR hset h0 e1 hB
      have tok := Lib.hid (Nat.le_refl 0)
      go_enter Tryd.func32, Tryd.ntmps32
      go_wp2_with (first
        | (have tk := tok; clear tok; go_at_call 21; rw [← hW0]; clear hW0; refine cv.out.mono ?_; rintro e w1 ⟨rfl, hd⟩; have hd1 := hd; have hx1 := HB.out.below hd1 hlt; have z0 := hx1.cell 0; have z1 := hx1.cell 1; have z2 := hx1.cell 2; have tok2 := tk; clear hd)
        | (have tk := tok2; clear tok2; go_at_call 61; (try rw [jp]); refine (cs.out _ hd1).mono ?_; rintro e w2 ⟨rfl, hd2⟩; have hb2 := hd1.trans (hd2.below _)))
      go_ret2
      exact ⟨_, rfl, Hn.out _ _ rfl, Hw.out.trans (hb2.mono Hw.out.size)⟩
    | true =>
      have e1 : clE b ps = 0 := by rw [HE.out, if_pos h0, hset]; rfl
      have hp := hv.p1
      have hp0 := hv.p0
      have hps : ∀ x ∈ ps, 0 ≤ x ∧ x < ((b.p.toNat : Nat) : Int) := fun x hx => by rw [Int.toNat_of_nonneg hp0]; exact isS_mem hset x hx
      have hin : intL (natL ps) = ps := int_nat fun x hx => (hps x hx).1
      have hlp := natL_lt hps
      have Hn := Lib.hid (fun v W x (h1 : Cl b.rus (mk (natL ps)) allW x) (h2 : x < 2 ^ b.p.toNat) (h3 : W.ownsRow w.heap.size 3 1 v (bl x).length (natV (bl x))) => (HR.out v W).2 (by rw [if_pos e1]; exact ⟨x, h1, h2, h3⟩))
      have cm0 := fun W (hW : Below W0.heap.size W0 W) => marks_ref A c W0.heap.size (natL ps) b.p.toNat W hW.size (by rw [hin]; exact hP.below hW (Nat.le_refl _)) (by rw [natL_length]; omega) hlp (by omega)
      rw [natL_length, Int.toNat_of_nonneg hp0] at cm0
      have cm := Lib.hid cm0
      have cc := Lib.hid (fun g0 W (hW : Below W0.heap.size W0 W) (hbr : BR g0 b.p.toNat (mk (natL ps)) W) => closed_ref AR cR W0.heap.size g0 b.p.toNat b.p.toNat (mk (natL ps)) b.rus W hW.size (hR.below hW (Nat.le_refl _)) hbr hs.2.1 hs.2.2.2 (fun x hx => by have := hv.rules x hx; rwa [Int.toNat_of_nonneg hp0]) (by omega) (mk_lt hlp))
      have cl := Lib.hid (fun g0 c0 x (hx : x < 2 ^ b.p.toNat) W (hbr : BR g0 b.p.toNat x W) => places_ref g0 c0 x b.p.toNat W hbr (by omega) hx)
      have HZ := Lib.hid (fun W (hW : Below W0.heap.size W0 W) => And.intro ((hb0.below hW hlt).cell 0) (And.intro ((hb0.below hW hlt).cell 1) ((hb0.below hW hlt).cell 2)))
      rw [hset] at cs
      rw [e1]
      clear h h' hi hs hI hR hP hb0 hw0 hv HE HR hset h0 e1 hB cm0 hlp hin hps
      generalize mk (natL ps) = m at cm cc Hn
      have tok := Lib.hid (Nat.le_refl 0)
      go_enter Tryd.func32, Tryd.ntmps32
      go_wp2_with (first
        | (have tk := tok; clear tok; go_at_call 21; rw [← hW0]; clear hW0; refine cv.out.mono ?_; rintro e w1 ⟨rfl, hd⟩; have hd1 := hd; have hx1 := HB.out.below hd1 hlt; have z0 := hx1.cell 0; have z1 := hx1.cell 1; have z2 := hx1.cell 2; have tok2 := tk; clear hd)
        | (have tk := tok2; clear tok2; go_at_call 61; (try rw [jp]); refine (cs.out _ hd1).mono ?_; rintro e w2 ⟨rfl, hd2⟩; have hb2 := hd1.trans (hd2.below _); have tok3 := tk))
      clear z0 z1 z2 hx1 hd1 hd2 jp
      have tk := tok3
      clear tok3
      have tok := tk
      clear tk
      go_region_held3 (fun W => W.cell? ⟨w.heap.size, 0, none⟩ = some (.int .i64 b.p) ∧ W.cell? ⟨w.heap.size, 1, none⟩ = some (.slice AI b.its.length cI) ∧ W.cell? ⟨w.heap.size, 2, none⟩ = some (.slice AR b.rus.length cR) ∧ Below W0.heap.size W0 W)
        ((refine keepB hlt ⟨HB.out.cell 0, HB.out.cell 1, HB.out.cell 2⟩ ?_; repeat (first | exact Below.refl _ _ | assumption | refine Below.drew ?_)))
        (first
          | (go_at_call 77; have tk := tok; clear tok; refine (cm.out _ (by repeat (first | exact Below.refl _ _ | assumption | refine Below.drew ?_))).mono ?_; rintro e w5 ⟨rfl, hbb5, hd5⟩; have tok2 := tk; have hb5 : Below W0.heap.size W0 w5 := Below.trans (by repeat (first | exact Below.refl _ _ | assumption | refine Below.drew ?_)) (hd5.mono (Below.size (w := W0) (B := W0.heap.size) (by repeat (first | exact Below.refl _ _ | assumption | refine Below.drew ?_)))))
          | (go_at_call 73; have tk := tok2; clear tok2; refine (cc.out _ _ (by repeat (first | exact Below.refl _ _ | assumption | refine Below.drew ?_)) (BR.below (B := w5.heap.size) hbb5.br (by repeat (first | exact Below.refl _ _ | assumption | refine Below.drew ?_)) hbb5.lt)).mono ?_; rintro e w6 ⟨g6, k6, x, rfl, hcl, hxl, hbb6, hg6, hd6⟩; have tok3 := tk; have hb6 : Below W0.heap.size W0 w6 := Below.trans (by repeat (first | exact Below.refl _ _ | assumption | refine Below.drew ?_)) (hd6.mono (Below.size (w := W0) (B := W0.heap.size) (by repeat (first | exact Below.refl _ _ | assumption | refine Below.drew ?_)))))
          | (go_at_call 70; have tk := tok3; clear tok3; refine (cl.out _ _ x hxl _ (BR.below (B := w6.heap.size) hbb6.br (by repeat (first | exact Below.refl _ _ | assumption | refine Below.drew ?_)) hbb6.lt)).mono ?_; rintro e w7 ⟨v, rfl, ho7, hd7⟩; have hb7 : Below W0.heap.size W0 w7 := Below.trans (by repeat (first | exact Below.refl _ _ | assumption | refine Below.drew ?_)) (hd7.mono (Below.size (w := W0) (B := W0.heap.size) (by repeat (first | exact Below.refl _ _ | assumption | refine Below.drew ?_)))); have ho8 := own_base ho7 (Below.size (w := W0) (B := W0.heap.size) (by repeat (first | exact Below.refl _ _ | assumption | refine Below.drew ?_))); clear ho7))
      all_goals
        have HB7 := Lib.hid (Hw.out.trans (hb7.mono Hw.out.size))
        have HR7 := Lib.hid (Hn.out _ _ _ hcl hxl (own_base ho8 (Nat.le_of_lt hlt)))
        clear hcl hxl hb6 hb7 ho8
        go_wp2_with fail
        go_ret2
        exact ⟨_, rfl, HR7.out, HB7.out⟩
  · have e1 : clE b ps = vlR b := by rw [HE.out, if_neg h0]
    have Hn := Lib.hid (fun v W (hv : v = Value.slice none 0 0) => (HR.out v W).2 (by rw [if_neg (by rw [e1]; exact h0)]; exact hv))
    have he2 : (vlR b != 0) = true := by simpa using h0
    rw [e1]
    clear h h' hi hs hI hR hP hb0 hw0 HE HR h0 e1 hB
    generalize vlR b = e0 at *
    go_enter Tryd.func32, Tryd.ntmps32
    go_wp2_with (go_at_call 21; rw [← hW0]; clear hW0; refine cv.out.mono ?_; rintro e w1 ⟨rfl, hd⟩; have hx1 := HB.out.below hd hlt; have z0 := hx1.cell 0; have z1 := hx1.cell 1; have z2 := hx1.cell 2)
    go_ret2
    exact ⟨_, rfl, Hn.out _ _ rfl, Hw.out.trans (hd.mono Hw.out.size)⟩
end Go.Proofs.YtgoojcjfhghmgaaDoor
