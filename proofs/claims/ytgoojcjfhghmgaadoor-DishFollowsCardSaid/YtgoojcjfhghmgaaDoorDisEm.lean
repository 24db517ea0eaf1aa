/- The law of rules that follow. -/
import Derived.Test.YtgoojcjfhghmgaaDoorDisEg
namespace Go.Proofs.YtgoojcjfhghmgaaDoor
open Go.RowKit

/-- A rule of a book follows. -/
theorem own_follows {b : Bk} {y : Ru} {r : Bool} (hy : y ∈ b.rus) (h : FwB b y r) (h0 : fwE b y = 0) : r = true := by
  rw [FwB, if_pos h0] at h
  obtain ⟨z, h1, h2, rfl⟩ := h
  have hv : vlR b = 0 := by
    unfold fwE at h0
    split at h0
    · assumption
    · contradiction
  have hok := (vl_zero hv).rules y hy
  obtain ⟨hset, _, _⟩ := ruOk_mem hok
  refine h1.2 y hy ?_ rfl
  simp only [allB, List.all_eq_true]
  intro q hq
  exact h1.1.1 q (by rw [mk_bit, List.contains_iff_mem]; exact hq)

set_option maxRecDepth 100000 in
set_option maxHeartbeats 4000000 in
theorem law_follows (AI AR : Option Addr) (cI cR : Nat) (A : Option Addr) (c : Nat) (b : Bk) (x : Ru) (wh : Int) (w : World) (h : ItsAt w.heap.size w AI b.its) (h' : RusAt w.heap.size w AR b.rus) (hi : IntsAt w.heap.size w A x.1) (hT : Tab w) :
    Calls Tryd.prog 7 #[.agg #[.int .i64 b.p, .slice AI b.its.length cI, .slice AR b.rus.length cR], .agg #[.slice A x.1.length c, .int .i64 x.2], .int .i64 wh] w fun e w' => e = .returned (.bool true) ∧ Below w.heap.size w w' := by
  obtain ⟨W0, hW0⟩ : ∃ W0, W0 = (w.alloc (.cells #[.int .i64 b.p, .slice AI b.its.length cI, .slice AR b.rus.length cR] 25)).alloc (.cells #[.slice A x.1.length c, .int .i64 x.2] 42) := ⟨_, rfl⟩
  have hw0 : Below w.heap.size w W0 := by rw [hW0]; exact balloc (balloc (Below.refl _ _) _) _
  have hb0 : Blk W0 w.heap.size 25 #[.int .i64 b.p, .slice AI b.its.length cI, .slice AR b.rus.length cR] := by rw [hW0]; exact (Blk.new w 25 _).alloc _
  have hb1 : Blk W0 (w.heap.size + 1) 42 #[.slice A x.1.length c, .int .i64 x.2] := by rw [hW0]; exact blk_new' (by simp only [World.size_alloc])
  have hlt : w.heap.size < W0.heap.size := hb0.lt
  have hI := h.below hw0 (Nat.le_of_lt hlt)
  have hR := h'.below hw0 (Nat.le_of_lt hlt)
  have hP := hi.below hw0 (Nat.le_of_lt hlt)
  have hT0 := hT.below hw0 hT.2
  have clg := Lib.hid (Long_any AI AR cI cR _ b W0 (Nat.le_refl _) hI hR)
  have ck := Lib.hid (fun W (hW : Below W0.heap.size W0 W) => known_any W (hT0.below hW hT0.2))
  have Hw := Lib.hid hw0
  have HX := Lib.hid (fun W (hW : Below W0.heap.size W0 W) => And.intro (blk3 (hb0.below hW hlt)) (blk2 (hb1.below hW hb1.lt)))
  have tok := Lib.hid (Nat.le_refl 0)
  cases hlg : lgR b with
  | true =>
    rw [hlg] at clg
    clear h h' hi hI hR hP hT hT0 hb0 hb1 hw0 hlg
    go_enter Tryd.func7, Tryd.ntmps7
    go_wp2_with (first
      | (have tk := tok; clear tok; go_at_call 17; rw [← hW0]; clear hW0; refine clg.out.mono ?_; rintro e w1 ⟨rfl, hd1⟩; have tok2 := tk; obtain ⟨⟨z0, z1, z2, _⟩, y0, y1, _⟩ := HX.out _ hd1)
      | (have tk := tok2; clear tok2; go_at_call 18; refine (ck.out _ hd1).mono ?_; rintro e w2 ⟨rfl, hd2⟩; have hb2 := hd1.trans (hd2.mono hd1.size)))
    go_ret
    exact ⟨rfl, Hw.out.trans (hb2.mono Hw.out.size)⟩
  | false =>
    rw [hlg] at clg
    by_cases h60 : 60 < x.1.length
    · have hld : decide ((60 : Int) < (x.1.length : Int)) = true := by simp; omega
      clear h h' hi hI hR hP hT hT0 hb0 hb1 hw0 hlg
      go_enter Tryd.func7, Tryd.ntmps7
      go_wp2_with (first
        | (have tk := tok; clear tok; go_at_call 17; rw [← hW0]; clear hW0; refine clg.out.mono ?_; rintro e w1 ⟨rfl, hd1⟩; have tok2 := tk; obtain ⟨⟨z0, z1, z2, _⟩, y0, y1, _⟩ := HX.out _ hd1)
        | (have tk := tok2; clear tok2; go_at_call 18; refine (ck.out _ hd1).mono ?_; rintro e w2 ⟨rfl, hd2⟩; have hb2 := hd1.trans (hd2.mono hd1.size)))
      go_ret
      exact ⟨rfl, Hw.out.trans (hb2.mono Hw.out.size)⟩
    · have hld : decide ((60 : Int) < (x.1.length : Int)) = false := by simp; omega
      have hs := lg_short hlg
      have c1 := Lib.hid (fun W (hW : Below W0.heap.size W0 W) => Follows_any AI AR cI cR A c W0.heap.size b x W hW.size (hI.below hW (Nat.le_refl _)) (hR.below hW (Nat.le_refl _)) (hP.below hW (Nat.le_refl _)) hs (by omega))
      have c2 := Lib.hid (fun W (hW : Below W0.heap.size W0 W) => Follows_ref AI AR cI cR A c W0.heap.size b x W hW.size (hI.below hW (Nat.le_refl _)) (hR.below hW (Nat.le_refl _)) (hP.below hW (Nat.le_refl _)) hs (by omega))
      have c3 := Lib.hid (fun y A1 c1 (hy : y ∈ b.rus) (i1 : IntsAt W0.heap.size W0 A1 y.1) W (hW : Below W0.heap.size W0 W) => Follows_any AI AR cI cR A1 c1 W0.heap.size b y W hW.size (hI.below hW (Nat.le_refl _)) (hR.below hW (Nat.le_refl _)) (i1.below hW (Nat.le_refl _)) hs (by have := hs.2.2.2 y hy; omega))
      have HR := Lib.hid hR
      have Hown := Lib.hid (fun y r (hy : y ∈ b.rus) (h1 : FwB b y r) (h0 : fwE b y = 0) => own_follows hy h1 h0)
      have hr60 := hs.2.1
      generalize fwE b x = e0 at c1 c2
      clear h h' hi hI hR hP hT hT0 hb0 hb1 hw0 hlg hs
      by_cases hr0 : b.rus.length = 0
      · have hrd : ((b.rus.length : Int) == 0) = true := by simp [hr0]
        clear hr0
        go_enter Tryd.func7, Tryd.ntmps7
        go_wp2_with (first
          | (have tk := tok; clear tok; go_at_call 17; rw [← hW0]; clear hW0; refine clg.out.mono ?_; rintro e w1 ⟨rfl, hd1⟩; have tok2 := tk; obtain ⟨⟨z0, z1, z2, _⟩, y0, y1, _⟩ := HX.out _ hd1)
          | (have tk := tok2; clear tok2; go_at_call 33; refine (c1.out _ hd1).mono ?_; rintro e w2 ⟨v2, rfl, ⟨r2, rfl, hr2⟩, hd⟩; have hb2 := hd1.trans (hd.mono hd1.size); have tok3 := tk; clear hd z0 z1 z2 y0 y1; obtain ⟨⟨z0, z1, z2, _⟩, y0, y1, _⟩ := HX.out _ hb2)
          | (have tk := tok3; clear tok3; go_at_call 34; refine (c2.out _ hb2).mono ?_; rintro e w3 ⟨v3, rfl, ⟨r3, rfl, hr3⟩, hd⟩; have e23 := hr2.unique hr3; subst e23; have hb3 := hb2.trans (hd.mono hb2.size); have tok4 := tk; clear hd hr2 hr3 z0 z1 z2 y0 y1; obtain ⟨⟨z0, z1, z2, _⟩, y0, y1, _⟩ := HX.out _ hb3)
          | (have tk := tok4; clear tok4; go_at_call 18; refine (ck.out _ hb3).mono ?_; rintro e w4 ⟨rfl, hd2⟩; have hb4 := hb3.trans (hd2.mono hb3.size)))
        go_ret
        exact ⟨rfl, Hw.out.trans (hb4.mono Hw.out.size)⟩
      · obtain ⟨u, hu⟩ : ∃ u, IntKind.u64.wrap wh = u := ⟨_, rfl⟩
        have hu0 : 0 ≤ u := by rw [← hu, IntKind.wrap_u64]; omega
        have hkl : (u % (b.rus.length : Int)).toNat < b.rus.length := by
          have h1 := Int.emod_lt_of_pos u (show (0 : Int) < b.rus.length by omega)
          have h2 := Int.emod_nonneg u (show (b.rus.length : Int) ≠ 0 by omega)
          omega
        have hku : ((u % (b.rus.length : Int)).toNat : Int) = u % (b.rus.length : Int) := Int.toNat_of_nonneg (Int.emod_nonneg u (show (b.rus.length : Int) ≠ 0 by omega))
        obtain ⟨bb, off, A1, k1, hAR, hbB, e0', e1', i1⟩ := HR.out _ hkl
        have cy := Lib.hid (fun W (hW : Below W0.heap.size W0 W) => c3.out b.rus[(u % (b.rus.length : Int)).toNat] A1 k1 (List.getElem_mem hkl) i1 W hW)
        have Hy := Lib.hid (fun r => Hown.out b.rus[(u % (b.rus.length : Int)).toNat] r (List.getElem_mem hkl))
        generalize b.rus[(u % (b.rus.length : Int)).toNat] = y at e0' e1' cy Hy
        generalize (u % (b.rus.length : Int)).toNat = k at hkl hku e0' e1'
        clear HR Hown i1 c3
        subst hAR
        generalize b.rus.length = n at *
        have hrd : ((n : Int) == 0) = false := by simp; omega
        have hn1 : IntKind.u64.wrap (n : Int) = (n : Int) := by rw [IntKind.wrap_u64]; omega
        have hn0 : (n : Int) ≠ 0 := by omega
        have hn2 : n ≠ 0 := by omega
        have hn3 : (n == 0) = false := by simp; omega
        have hk1 : IntKind.i64.wrap (u % (n : Int)) = (k : Int) := by rw [← hku, IntKind.wrap_i64]; omega
        have hk2 : u % (n : Int) = (k : Int) := hku.symm
        have hk3 : Int.tmod u (n : Int) = (k : Int) := by rw [Int.tmod_eq_emod_of_nonneg hu0]; exact hku.symm
        have hkn : (k : Int) < (n : Int) := by omega
        have hk4 : IntKind.i64.wrap (k : Int) = (k : Int) := by rw [IntKind.wrap_i64]; omega
        have hk0 : (0 : Int) ≤ (k : Int) := by omega
        clear hku hkl hu0 hr0
        go_enter Tryd.func7, Tryd.ntmps7
        go_wp2_with (first
          | (have tk := tok; clear tok; go_at_call 17; rw [← hW0]; clear hW0; refine clg.out.mono ?_; rintro e w1 ⟨rfl, hd1⟩; have tok2 := tk; obtain ⟨⟨z0, z1, z2, _⟩, y0, y1, _⟩ := HX.out _ hd1)
          | (have tk := tok2; clear tok2; go_at_call 33; refine (c1.out _ hd1).mono ?_; rintro e w2 ⟨v2, rfl, ⟨r2, rfl, hr2⟩, hd⟩; have hb2 := hd1.trans (hd.mono hd1.size); have tok3 := tk; clear hd z0 z1 z2 y0 y1; obtain ⟨⟨z0, z1, z2, _⟩, y0, y1, _⟩ := HX.out _ hb2)
          | (have tk := tok3; clear tok3; go_at_call 34; refine (c2.out _ hb2).mono ?_; rintro e w3 ⟨v3, rfl, ⟨r3, rfl, hr3⟩, hd⟩; have e23 := hr2.unique hr3; subst e23; have hb3 := hb2.trans (hd.mono hb2.size); have tok4 := tk; clear hd hr2 hr3 z0 z1 z2 y0 y1; obtain ⟨⟨z0, z1, z2, _⟩, y0, y1, _⟩ := HX.out _ hb3))
        clear z0 z1 z2 y0 y1
        have Keep := Lib.hid (fun W (hW : Below W0.heap.size W0 W) => show W.cell? ⟨w.heap.size, 0, none⟩ = some (.int .i64 b.p) ∧ W.cell? ⟨w.heap.size, 1, none⟩ = some (.slice AI b.its.length cI) ∧ W.cell? ⟨w.heap.size, 2, none⟩ = some (.slice (some ⟨bb, off, none⟩) n cR) ∧ W.cell? ⟨bb, off + k * 2, none⟩ = some (.slice A1 y.1.length k1) ∧ W.cell? ⟨bb, off + k * 2 + 1, none⟩ = some (.int .i64 y.2) ∧ Below W0.heap.size W0 W from by
          obtain ⟨⟨z0, z1, z2, _⟩, _, _, _⟩ := HX.out W hW
          exact ⟨z0, z1, z2, (hW.cell (p := ⟨bb, off + k * 2, none⟩) hbB).trans e0', (hW.cell (p := ⟨bb, off + k * 2 + 1, none⟩) hbB).trans e1', hW⟩)
        go_region_held3 (fun W => W.cell? ⟨w.heap.size, 0, none⟩ = some (.int .i64 b.p) ∧ W.cell? ⟨w.heap.size, 1, none⟩ = some (.slice AI b.its.length cI) ∧ W.cell? ⟨w.heap.size, 2, none⟩ = some (.slice (some ⟨bb, off, none⟩) n cR) ∧ W.cell? ⟨bb, off + k * 2, none⟩ = some (.slice A1 y.1.length k1) ∧ W.cell? ⟨bb, off + k * 2 + 1, none⟩ = some (.int .i64 y.2) ∧ Below W0.heap.size W0 W)
          ((refine Keep.out _ ?_; repeat (first | exact Below.refl _ _ | assumption | refine Below.drew ?_)))
          (first
            | (go_at_call 33; have tk := tok4; clear tok4; refine (cy.out _ (by repeat (first | exact Below.refl _ _ | assumption | refine Below.drew ?_))).mono ?_; rintro e w5 ⟨v5, rfl, ⟨r5, rfl, hr5⟩, hd⟩; have hb5 : Below W0.heap.size W0 w5 := Below.trans (by repeat (first | exact Below.refl _ _ | assumption | refine Below.drew ?_)) (hd.mono (Below.size (w := W0) (B := W0.heap.size) (by repeat (first | exact Below.refl _ _ | assumption | refine Below.drew ?_)))); clear hd))
        all_goals
          have Hr5 := Lib.hid (Hy.out r5 hr5)
          clear hr5 Hy cy Keep hb3
          generalize fwE b y = e5 at Hr5 ⊢
          by_cases h5 : e5 = 0
          · obtain rfl := Hr5.out h5
            subst h5
            go_wp2_with (go_at_call 18; refine (ck.out _ hb5).mono ?_; rintro e w6 ⟨rfl, hd⟩; have hb6 := hb5.trans (hd.mono hb5.size))
            go_ret
            exact ⟨rfl, Hw.out.trans (hb6.mono Hw.out.size)⟩
          · have h5d : (e5 != 0) = true := by simpa using h5
            clear Hr5 h5
            go_wp2_with (go_at_call 18; refine (ck.out _ hb5).mono ?_; rintro e w6 ⟨rfl, hd⟩; have hb6 := hb5.trans (hd.mono hb5.size))
            go_ret
            exact ⟨rfl, Hw.out.trans (hb6.mono Hw.out.size)⟩
end Go.Proofs.YtgoojcjfhghmgaaDoor
