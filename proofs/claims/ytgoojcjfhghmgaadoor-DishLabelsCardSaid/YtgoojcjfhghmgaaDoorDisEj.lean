/- Contains; the reference's Contains, Label. -/
import Derived.Test.YtgoojcjfhghmgaaDoorDisEi
namespace Go.Proofs.YtgoojcjfhghmgaaDoor
open Go.RowKit

/-- What Contains returns. -/
def CnR (b : Bk) (item : Int) (base : Nat) (v : Value) (w : World) : Prop :=
  if nmR b item = 0 then cnS b item.toNat < 2 ^ b.its.length ∧ b.its.length ≤ 20 ∧ w.ownsRow base 3 1 v (bl (cnS b item.toNat)).length (natV (bl (cnS b item.toNat))) else v = .slice none 0 0

set_option maxRecDepth 100000 in
set_option maxHeartbeats 4000000 in
theorem Contains_any (AI AR : Option Addr) (cI cR B : Nat) (b : Bk) (item : Int) (w : World) (hB : B ≤ w.heap.size) (h : ItsAt B w AI b.its) (h' : RusAt B w AR b.rus) (hs : Short b) (hT : Tab w) :
    Calls Tryd.prog 26 #[.agg #[.int .i64 b.p, .slice AI b.its.length cI, .slice AR b.rus.length cR], .int .i64 item] w fun e w' => ∃ v, e = .returned (.tuple #[v, .int .i64 (nmR b item)]) ∧ CnR b item w.heap.size v w' ∧ Below w.heap.size w w' := by
  have hb0 := Blk.new w 25 #[.int .i64 b.p, .slice AI b.its.length cI, .slice AR b.rus.length cR]
  have hw0 : Below w.heap.size w (w.alloc (.cells #[.int .i64 b.p, .slice AI b.its.length cI, .slice AR b.rus.length cR] 25)) := (Below.refl _ _).alloc (Nat.le_refl _) _
  obtain ⟨W0, hW0⟩ : ∃ W0, W0 = w.alloc (.cells #[.int .i64 b.p, .slice AI b.its.length cI, .slice AR b.rus.length cR] 25) := ⟨_, rfl⟩
  rw [← hW0] at hb0 hw0
  have hlt : w.heap.size < W0.heap.size := hb0.lt
  have hI := (h.below (Below.refl _ _) hB).below hw0 (Nat.le_of_lt hlt)
  have hR := (h'.below (Below.refl _ _) hB).below hw0 (Nat.le_of_lt hlt)
  have cn := Lib.hid (named_any AI AR cI cR _ b item W0 (Nat.le_refl _) hI hR hs)
  have HB := Lib.hid hb0
  have Hw := Lib.hid hw0
  by_cases h0 : nmR b item = 0
  · obtain ⟨hv0, hi0, hi1⟩ := nm_zero h0
    have hv := vl_zero hv0
    have hp1 := hv.p1
    have hp0 := hv.p0
    have ni := hv.ni
    have hit : item.toNat < b.its.length := by omega
    have hcn := Nat.lt_of_lt_of_le (cnS_lt hv hit) (Nat.pow_le_pow_right (show 0 < 2 by decide) hit)
    have Hn := Lib.hid (fun v W (h3 : W.ownsRow w.heap.size 3 1 v (bl (cnS b item.toNat)).length (natV (bl (cnS b item.toNat)))) => show CnR b item w.heap.size v W by rw [CnR, if_pos h0]; exact ⟨hcn, ni, h3⟩)
    have hT0 := hT.below hw0 hT.2
    have hC60 : cnS b item.toNat < 1152921504606846976 := Nat.lt_of_lt_of_le hcn (Nat.le_trans (Nat.pow_le_pow_right (by decide) (show b.its.length ≤ 60 by omega)) (by decide))
    have hC20 : (bl (cnS b item.toNat)).length ≤ 1000 := by have := bl_length hcn (by omega); omega
    have c1 := fun W (hW : Below W0.heap.size W0 W) => contained_any AI AR cI cR W0.heap.size b item.toNat W hW.size (hI.below hW (Nat.le_refl _)) hv hit
    rw [Int.toNat_of_nonneg hi0] at c1
    have cc := Lib.hid c1
    have cl := Lib.hid (fun W (hW : Below W0.heap.size W0 W) => list_any (cnS b item.toNat) hC60 W (hT0.below hW hT0.2) hC20)
    generalize cnS b item.toNat = C at *
    rw [h0] at cn
    have Hz := Lib.hid h0
    clear h h' hs hI hR hb0 hw0 hv hv0 h0 hi0 hi1 hit hcn hB hT hT0 hC60 hC20 c1
    have tok := Lib.hid (Nat.le_refl 0)
    go_enter Tryd.func26, Tryd.ntmps26
    go_wp2_with (first
      | (have tk := tok; clear tok; go_at_call 67; rw [← hW0]; clear hW0; refine cn.out.mono ?_; rintro e w1 ⟨rfl, hd⟩; have hd1 := hd; have tok2 := tk; have hx1 := HB.out.below hd1 hlt; have z0 := hx1.cell 0; have z1 := hx1.cell 1; have z2 := hx1.cell 2; clear hd)
      | (have tk := tok2; clear tok2; go_at_call 68; refine (cc.out _ hd1).mono ?_; rintro e w2 ⟨rfl, _, hd⟩; have hb2 := hd1.trans (hd.mono hd1.size); have tok3 := tk; clear hd)
      | (have tk := tok3; clear tok3; go_at_call 65; refine (cl.out _ hb2).mono ?_; rintro e w3 ⟨v3, rfl, ho, hd⟩; have hb3 := hb2.trans (hd.mono hb2.size)))
    go_ret2
    exact ⟨v3, by rw [Hz.out]; rfl, Hn.out v3 _ (own_base ho (Nat.le_trans (Nat.le_of_lt hlt) hb2.size)), Hw.out.trans (hb3.mono Hw.out.size)⟩
  · have Hn := Lib.hid (fun v W (hv : v = Value.slice none 0 0) => show CnR b item w.heap.size v W by rw [CnR, if_neg h0]; exact hv)
    have he2 : (nmR b item != 0) = true := by simpa using h0
    generalize nmR b item = e0 at cn he2 ⊢
    clear h h' hs hI hR hb0 hw0 hB h0
    go_enter Tryd.func26, Tryd.ntmps26
    go_wp2_with (go_at_call 67; rw [← hW0]; clear hW0; refine cn.out.mono ?_; rintro e w1 ⟨rfl, hd⟩; have hx1 := HB.out.below hd hlt; have z0 := hx1.cell 0; have z1 := hx1.cell 1; have z2 := hx1.cell 2)
    go_ret2
    exact ⟨_, rfl, Hn.out _ _ rfl, Hw.out.trans (hd.mono Hw.out.size)⟩

set_option maxRecDepth 100000 in
set_option maxHeartbeats 4000000 in
theorem Contains_ref (AI AR : Option Addr) (cI cR B : Nat) (b : Bk) (item : Int) (w : World) (hB : B ≤ w.heap.size) (h : ItsAt B w AI b.its) (h' : RusAt B w AR b.rus) (hs : Short b) :
    Calls Tryd.prog 27 #[.agg #[.int .i64 b.p, .slice AI b.its.length cI, .slice AR b.rus.length cR], .int .i64 item] w fun e w' => ∃ v, e = .returned (.tuple #[v, .int .i64 (nmR b item)]) ∧ CnR b item w.heap.size v w' ∧ Below w.heap.size w w' := by
  have hb0 := Blk.new w 25 #[.int .i64 b.p, .slice AI b.its.length cI, .slice AR b.rus.length cR]
  have hw0 : Below w.heap.size w (w.alloc (.cells #[.int .i64 b.p, .slice AI b.its.length cI, .slice AR b.rus.length cR] 25)) := (Below.refl _ _).alloc (Nat.le_refl _) _
  obtain ⟨W0, hW0⟩ : ∃ W0, W0 = w.alloc (.cells #[.int .i64 b.p, .slice AI b.its.length cI, .slice AR b.rus.length cR] 25) := ⟨_, rfl⟩
  rw [← hW0] at hb0 hw0
  have hlt : w.heap.size < W0.heap.size := hb0.lt
  have hI := (h.below (Below.refl _ _) hB).below hw0 (Nat.le_of_lt hlt)
  have hR := (h'.below (Below.refl _ _) hB).below hw0 (Nat.le_of_lt hlt)
  have cn := Lib.hid (named_ref AI AR cI cR _ b item W0 (Nat.le_refl _) hI hR hs)
  have HB := Lib.hid hb0
  have Hw := Lib.hid hw0
  by_cases h0 : nmR b item = 0
  · obtain ⟨hv0, hi0, hi1⟩ := nm_zero h0
    have hv := vl_zero hv0
    have hp1 := hv.p1
    have hp0 := hv.p0
    have ni := hv.ni
    have hit : item.toNat < b.its.length := by omega
    have hcn := Nat.lt_of_lt_of_le (cnS_lt hv hit) (Nat.pow_le_pow_right (show 0 < 2 by decide) hit)
    have Hn := Lib.hid (fun v W (h3 : W.ownsRow w.heap.size 3 1 v (bl (cnS b item.toNat)).length (natV (bl (cnS b item.toNat)))) => show CnR b item w.heap.size v W by rw [CnR, if_pos h0]; exact ⟨hcn, ni, h3⟩)
    have c1 := fun W (hW : Below W0.heap.size W0 W) => inside_ref AI AR cI cR W0.heap.size b item.toNat W hW.size (hI.below hW (Nat.le_refl _)) hv hit
    rw [Int.toNat_of_nonneg hi0] at c1
    have cc := Lib.hid c1
    have cl := Lib.hid (fun g0 W (hbr : BR g0 b.its.length (cnS b item.toNat) W) => places_ref g0 b.its.length (cnS b item.toNat) b.its.length W hbr (by omega) hcn)
    generalize cnS b item.toNat = C at *
    rw [h0] at cn
    have Hz := Lib.hid h0
    clear h h' hs hI hR hb0 hw0 hv hv0 h0 hi0 hi1 hit hcn hB c1
    have tok := Lib.hid (Nat.le_refl 0)
    go_enter Tryd.func27, Tryd.ntmps27
    go_wp2_with (first
      | (have tk := tok; clear tok; go_at_call 69; rw [← hW0]; clear hW0; refine cn.out.mono ?_; rintro e w1 ⟨rfl, hd⟩; have hd1 := hd; have tok2 := tk; have hx1 := HB.out.below hd1 hlt; have z0 := hx1.cell 0; have z1 := hx1.cell 1; have z2 := hx1.cell 2; clear hd)
      | (have tk := tok2; clear tok2; go_at_call 71; refine (cc.out _ hd1).mono ?_; rintro e w2 ⟨rfl, hbb, hd⟩; have hb2 := hd1.trans (hd.mono hd1.size); have tok3 := tk; have hbr := hbb.br; clear hd hbb)
      | (have tk := tok3; clear tok3; go_at_call 70; refine (cl.out _ _ hbr).mono ?_; rintro e w3 ⟨v3, rfl, ho, hd⟩; have hb3 := hb2.trans (hd.mono hb2.size)))
    go_ret2
    exact ⟨v3, by rw [Hz.out]; rfl, Hn.out v3 _ (own_base ho (Nat.le_trans (Nat.le_of_lt hlt) hb2.size)), Hw.out.trans (hb3.mono Hw.out.size)⟩
  · have Hn := Lib.hid (fun v W (hv : v = Value.slice none 0 0) => show CnR b item w.heap.size v W by rw [CnR, if_neg h0]; exact hv)
    have he2 : (nmR b item != 0) = true := by simpa using h0
    generalize nmR b item = e0 at cn he2 ⊢
    clear h h' hs hI hR hb0 hw0 hB h0
    go_enter Tryd.func27, Tryd.ntmps27
    go_wp2_with (go_at_call 69; rw [← hW0]; clear hW0; refine cn.out.mono ?_; rintro e w1 ⟨rfl, hd⟩; have hx1 := HB.out.below hd hlt; have z0 := hx1.cell 0; have z1 := hx1.cell 1; have z2 := hx1.cell 2)
    go_ret2
    exact ⟨_, rfl, Hn.out _ _ rfl, Hw.out.trans (hd.mono Hw.out.size)⟩

set_option maxRecDepth 100000 in
set_option maxHeartbeats 4000000 in
theorem Label_ref (AI AR : Option Addr) (cI cR B : Nat) (b : Bk) (item : Int) (w : World) (hB : B ≤ w.heap.size) (h : ItsAt B w AI b.its) (h' : RusAt B w AR b.rus) (hs : Short b) :
    Calls Tryd.prog 29 #[.agg #[.int .i64 b.p, .slice AI b.its.length cI, .slice AR b.rus.length cR], .int .i64 item] w fun e w' => ∃ v, e = .returned (.tuple #[v, .int .i64 (nmR b item)]) ∧ LbR b item w.heap.size v w' ∧ Below w.heap.size w w' := by
  have hb0 := Blk.new w 25 #[.int .i64 b.p, .slice AI b.its.length cI, .slice AR b.rus.length cR]
  have hw0 : Below w.heap.size w (w.alloc (.cells #[.int .i64 b.p, .slice AI b.its.length cI, .slice AR b.rus.length cR] 25)) := (Below.refl _ _).alloc (Nat.le_refl _) _
  obtain ⟨W0, hW0⟩ : ∃ W0, W0 = w.alloc (.cells #[.int .i64 b.p, .slice AI b.its.length cI, .slice AR b.rus.length cR] 25) := ⟨_, rfl⟩
  rw [← hW0] at hb0 hw0
  have hlt : w.heap.size < W0.heap.size := hb0.lt
  have hI := (h.below (Below.refl _ _) hB).below hw0 (Nat.le_of_lt hlt)
  have hR := (h'.below (Below.refl _ _) hB).below hw0 (Nat.le_of_lt hlt)
  have cn := Lib.hid (named_ref AI AR cI cR _ b item W0 (Nat.le_refl _) hI hR hs)
  have HB := Lib.hid hb0
  have Hw := Lib.hid hw0
  by_cases h0 : nmR b item = 0
  · obtain ⟨hv0, hi0, hi1⟩ := nm_zero h0
    have hv := vl_zero hv0
    have hp1 := hv.p1
    have hp0 := hv.p0
    have ni := hv.ni
    have hit : item.toNat < b.its.length := by omega
    have hcn := Nat.lt_of_lt_of_le (cnS_lt hv hit) (Nat.pow_le_pow_right (show 0 < 2 by decide) hit)
    have Hn := Lib.hid (fun v W x (h1 : Cl b.rus (bsS b item.toNat) allW x) (h2 : x < 2 ^ b.p.toNat) (h3 : W.ownsRow w.heap.size 3 1 v (bl x).length (natV (bl x))) => show LbR b item w.heap.size v W by rw [LbR, if_pos h0]; exact ⟨x, ⟨h1, h2⟩, h3⟩)
    have c1 := fun W (hW : Below W0.heap.size W0 W) => base_ref AI AR cI cR W0.heap.size b item.toNat W hW.size (hI.below hW (Nat.le_refl _)) hs hv hit
    rw [Int.toNat_of_nonneg hi0] at c1
    have cm := Lib.hid c1
    have cc := Lib.hid (fun g0 W (hW : Below W0.heap.size W0 W) (hbr : BR g0 b.p.toNat (bsS b item.toNat) W) => closed_ref AR cR W0.heap.size g0 b.p.toNat b.p.toNat (bsS b item.toNat) b.rus W hW.size (hR.below hW (Nat.le_refl _)) hbr hs.2.1 hs.2.2.2 (fun x hx => by have := hv.rules x hx; rwa [Int.toNat_of_nonneg hp0]) (by omega) (bsS_lt hv hit))
    have cl := Lib.hid (fun g0 c0 x (hx : x < 2 ^ b.p.toNat) W (hbr : BR g0 b.p.toNat x W) => places_ref g0 c0 x b.p.toNat W hbr (by omega) hx)
    generalize bsS b item.toNat = m at *
    rw [h0] at cn
    have Hz := Lib.hid h0
    clear h h' hs hI hR hb0 hw0 hv hv0 h0 hi0 hi1 hit hcn hB c1
    have tok := Lib.hid (Nat.le_refl 0)
    go_enter Tryd.func29, Tryd.ntmps29
    go_wp2_with (have tk := tok; clear tok; go_at_call 69; rw [← hW0]; clear hW0; refine cn.out.mono ?_; rintro e w1 ⟨rfl, hd⟩; have hb2 := hd; clear hd; have tok2 := tk)
    go_region_held3 (fun W => W.cell? ⟨w.heap.size, 0, none⟩ = some (.int .i64 b.p) ∧ W.cell? ⟨w.heap.size, 1, none⟩ = some (.slice AI b.its.length cI) ∧ W.cell? ⟨w.heap.size, 2, none⟩ = some (.slice AR b.rus.length cR) ∧ Below W0.heap.size W0 W)
      ((refine keepB hlt ⟨HB.out.cell 0, HB.out.cell 1, HB.out.cell 2⟩ ?_; repeat (first | exact Below.refl _ _ | assumption | refine Below.drew ?_)))
      (first
        | (go_at_call 74; have tk := tok2; clear tok2; refine (cm.out _ (by repeat (first | exact Below.refl _ _ | assumption | refine Below.drew ?_))).mono ?_; rintro e w5 ⟨rfl, hbb5, hd5⟩; have tok3 := tk; have hb5 : Below W0.heap.size W0 w5 := Below.trans (by repeat (first | exact Below.refl _ _ | assumption | refine Below.drew ?_)) (hd5.mono (Below.size (w := W0) (B := W0.heap.size) (by repeat (first | exact Below.refl _ _ | assumption | refine Below.drew ?_)))))
        | (go_at_call 73; have tk := tok3; clear tok3; refine (cc.out _ _ (by repeat (first | exact Below.refl _ _ | assumption | refine Below.drew ?_)) (BR.below (B := w5.heap.size) hbb5.br (by repeat (first | exact Below.refl _ _ | assumption | refine Below.drew ?_)) hbb5.lt)).mono ?_; rintro e w6 ⟨g6, k6, x, rfl, hcl, hxl, hbb6, hg6, hd6⟩; have tok4 := tk; have hb6 : Below W0.heap.size W0 w6 := Below.trans (by repeat (first | exact Below.refl _ _ | assumption | refine Below.drew ?_)) (hd6.mono (Below.size (w := W0) (B := W0.heap.size) (by repeat (first | exact Below.refl _ _ | assumption | refine Below.drew ?_)))))
        | (go_at_call 70; have tk := tok4; clear tok4; refine (cl.out _ _ x hxl _ (BR.below (B := w6.heap.size) hbb6.br (by repeat (first | exact Below.refl _ _ | assumption | refine Below.drew ?_)) hbb6.lt)).mono ?_; rintro e w7 ⟨v, rfl, ho7, hd7⟩; have hb7 : Below W0.heap.size W0 w7 := Below.trans (by repeat (first | exact Below.refl _ _ | assumption | refine Below.drew ?_)) (hd7.mono (Below.size (w := W0) (B := W0.heap.size) (by repeat (first | exact Below.refl _ _ | assumption | refine Below.drew ?_)))); have ho8 := own_base ho7 (Below.size (w := W0) (B := W0.heap.size) (by repeat (first | exact Below.refl _ _ | assumption | refine Below.drew ?_))); clear ho7))
    all_goals
      have HB7 := Lib.hid (Hw.out.trans (hb7.mono Hw.out.size))
      have HR7 := Lib.hid (Hn.out _ _ _ hcl hxl (own_base ho8 (Nat.le_of_lt hlt)))
      clear hcl hxl hb6 hb7 ho8
      go_wp2_with fail
      go_ret2
      exact ⟨_, by rw [Hz.out]; rfl, HR7.out, HB7.out⟩
  · have Hn := Lib.hid (fun v W (hv : v = Value.slice none 0 0) => show LbR b item w.heap.size v W by rw [LbR, if_neg h0]; exact hv)
    have he2 : (nmR b item != 0) = true := by simpa using h0
    generalize nmR b item = e0 at cn he2 ⊢
    clear h h' hs hI hR hb0 hw0 hB h0
    go_enter Tryd.func29, Tryd.ntmps29
    go_wp2_with (go_at_call 69; rw [← hW0]; clear hW0; refine cn.out.mono ?_; rintro e w1 ⟨rfl, hd⟩; have hx1 := HB.out.below hd hlt; have z0 := hx1.cell 0; have z1 := hx1.cell 1; have z2 := hx1.cell 2)
    go_ret2
    exact ⟨_, rfl, Hn.out _ _ rfl, Hw.out.trans (hd.mono Hw.out.size)⟩

end Go.Proofs.YtgoojcjfhghmgaaDoor
