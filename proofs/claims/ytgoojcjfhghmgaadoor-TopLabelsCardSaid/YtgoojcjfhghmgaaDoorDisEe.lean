/- Has; the law of closures. -/
import Derived.Test.YtgoojcjfhghmgaaDoorDisEd
namespace Go.Proofs.YtgoojcjfhghmgaaDoor
open Go.RowKit

set_option maxRecDepth 100000 in
set_option maxHeartbeats 1000000 in
theorem Has_ref (A : Option Addr) (c B : Nat) (l : List Int) (n : Int) (w : World) (h : IntsAt B w A l) (hm : l.length ≤ 1000) :
    Calls Tryd.prog 30 #[.slice A l.length c, .int .i64 n] w fun e w' => e = .returned (.bool (l.contains n)) ∧ w' = w := by
  have Hbad := Lib.hid (fun (hx : ∀ j (hj : j < l.length), l[j] ≠ n) => show l.contains n = false from by
    cases hc : l.contains n with
    | false => rfl
    | true =>
      obtain ⟨j, hj, he⟩ := List.getElem_of_mem (List.contains_iff_mem.1 hc)
      exact absurd he (hx j hj))
  have Hgood := Lib.hid (fun k (hk : k < l.length) (hx : l[k] = n) => show l.contains n = true from List.contains_iff_mem.2 (by rw [← hx]; exact List.getElem_mem hk))
  generalize l.contains n = r at Hbad Hgood ⊢
  go_enter Tryd.func30, Tryd.ntmps30
  go_wp2_with fail
  go_loop [5] (fun i => ∃ k : Nat, k ≤ l.length ∧ i = .int .i64 k ∧ ∀ j (hj : j < l.length), j < k → l[j] ≠ n) (fun i => l.length - (intOf i).toNat)
  case atStart => exact ⟨0, Nat.zero_le _, rfl, fun j _ hk => absurd hk (Nat.not_lt_zero j)⟩
  case round =>
    obtain ⟨k, hk, rfl, hn⟩ := hrel
    have Hn := Lib.hid hn
    clear hn
    by_cases hlt : k < l.length
    · obtain ⟨b, off, rfl, hbB, c0⟩ := h.at hlt
      have Hg1 := Lib.hid (fun (hx : l[k] = n) => Hgood.out k hlt hx)
      have Hg2 := Lib.hid (fun hx : l[k] ≠ n => show ∀ j (hj : j < l.length), j < k + 1 → l[j] ≠ n from fun j hj hjk => by
        by_cases e : j = k
        · subst e; exact hx
        · exact Hn.out j hj (by omega))
      clear Hbad Hgood Hn
      generalize l[k] = y at c0 Hg1 Hg2
      by_cases he : y = n
      · have he1 : (y == n) = true := by simpa using he
        have Hr := Lib.hid (Hg1.out he)
        clear he Hg1 Hg2
        go_wp2_with fail
        go_ret
        exact ⟨by rw [Hr.out]; rfl, rfl⟩
      · have he1 : (y == n) = false := by simpa using he
        have Hr := Lib.hid (Hg2.out he)
        clear he Hg1 Hg2
        go_wp2_with fail
        go_round
        case rel => exact ⟨k + 1, by omega, by go_num, Hr.out⟩
        case measure => simp [intOf]; omega
    · obtain rfl : k = l.length := by omega
      have Hr := Lib.hid (Hbad.out fun j hj => Hn.out j hj hj)
      clear Hbad Hgood Hn
      go_wp2_with fail
      go_ret
      exact ⟨by rw [Hr.out]; rfl, rfl⟩

/-- The list of a closure. -/
def ClL (b : Bk) (ps L : List Int) : Prop := if clE b ps = 0 then ∃ x : Nat, Cl b.rus (mk (natL ps)) allW x ∧ x < 2 ^ b.p.toNat ∧ b.p.toNat ≤ 10 ∧ L = intL (bl x) else L = []
theorem ClR.ints {b : Bk} {ps : List Int} {base : Nat} {v : Value} {W : World} (h : ClR b ps base v W) : ∃ L A c, v = .slice A (List.length L) c ∧ IntsAt W.heap.size W A L ∧ ClL b ps L := by
  unfold ClR at h
  split at h
  · rename_i h0
    obtain ⟨x, h1, h2, h3⟩ := h
    obtain ⟨A, c, e, i⟩ := IntsAt.of_nat h3
    have := (vl_zero (cl_zero h0).1).p1
    exact ⟨_, A, c, e, i, by rw [ClL, if_pos h0]; exact ⟨x, h1, h2, by omega, rfl⟩⟩
  · rename_i h0
    exact ⟨[], none, 0, h, IntsAt.nil _ _ _, by rw [ClL, if_neg h0]⟩
theorem ClL.unique {b : Bk} {ps L L' : List Int} (h : ClL b ps L) (h' : ClL b ps L') : L = L' := by
  unfold ClL at h h'
  split at h
  · obtain ⟨x, h1, h2, h3, rfl⟩ := h
    rename_i h0
    rw [if_pos h0] at h'
    obtain ⟨y, g1, g2, g3, rfl⟩ := h'
    rw [h1.unique g1]
  · rename_i h0
    rw [if_neg h0] at h'
    rw [h, h']
theorem ClL.short {b : Bk} {ps L : List Int} (h : ClL b ps L) : L.length ≤ 10 := by
  unfold ClL at h
  split at h
  · obtain ⟨x, h1, h2, h3, rfl⟩ := h
    have := bl_short h2 h3
    simpa [intL] using this
  · rw [h]; simp
theorem mk_mem {ps : List Int} {q : Int} (hq : q ∈ ps) : (mk (natL ps)).testBit q.toNat = true := by
  rw [mk_bit, List.contains_iff_mem]
  exact List.mem_map.2 ⟨q, hq, rfl⟩
theorem mem_intL {l : List Nat} {q : Int} (h0 : 0 ≤ q) : q ∈ intL l ↔ q.toNat ∈ l := by
  unfold intL
  rw [List.mem_map]
  constructor
  · rintro ⟨x, hx, rfl⟩; simpa using hx
  · exact fun h => ⟨q.toNat, h, Int.toNat_of_nonneg h0⟩
theorem p64 {x p : Nat} (hx : x < 2 ^ p) (hp : p ≤ 10) : x < 18446744073709551616 := Nat.lt_of_lt_of_le hx (Nat.le_trans (Nat.pow_le_pow_right (by decide) hp) (by decide))
theorem ClL.has {b : Bk} {ps L : List Int} (h : ClL b ps L) (h0 : clE b ps = 0) : ∀ q ∈ ps, L.contains q = true := by
  intro q hq
  rw [ClL, if_pos h0] at h
  obtain ⟨x, h1, h2, h3, rfl⟩ := h
  have hset := (cl_zero h0).2
  have hnn : ∀ y ∈ ps, 0 ≤ y := fun y hy => (isS_mem hset y hy).1
  rw [List.contains_iff_mem, mem_intL (hnn q hq), mem_bl x (p64 h2 h3)]
  exact h1.1.1 _ (mk_mem hq)
theorem mk_bl {x p : Nat} (hx : x < 2 ^ p) (hp : p ≤ 10) : mk (bl x) = x := by
  apply Nat.eq_of_testBit_eq
  intro i
  rw [mk_bit, Bool.eq_iff_iff, List.contains_iff_mem, mem_bl x (p64 hx hp)]
theorem natL_intL (l : List Nat) : natL (intL l) = l := by
  unfold natL intL
  rw [List.map_map]
  conv => rhs; rw [← List.map_id l]
  exact List.map_congr_left fun x _ => by simp
theorem isS_bl {x p : Nat} {q : Int} (hx : x < 2 ^ p) (hp : p ≤ 10) (hq : (p : Int) = q) : isS (intL (bl x)) q = true := by
  unfold isS
  rw [Bool.and_eq_true, decide_eq_true_eq, List.all_eq_true]
  constructor
  · unfold intL
    rw [List.pairwise_map]
    exact (bl_asc x (p64 hx hp)).imp fun h => by omega
  · intro z hz
    unfold intL at hz
    obtain ⟨y, hy, rfl⟩ := List.mem_map.1 hz
    have := bl_lt hx (by omega) hy
    rw [decide_eq_true_eq]
    omega
theorem ClL.again {b : Bk} {ps L : List Int} (h : ClL b ps L) (h0 : clE b ps = 0) : clE b L = 0 ∧ ∀ L', ClL b L L' → L' = L := by
  rw [ClL, if_pos h0] at h
  obtain ⟨x, h1, h2, h3, rfl⟩ := h
  have hv := (cl_zero h0).1
  have hp0 := (vl_zero hv).p0
  have e1 : clE b (intL (bl x)) = 0 := by rw [clE, if_pos hv, isS_bl h2 h3 (by omega)]; rfl
  refine ⟨e1, fun L' h' => ?_⟩
  rw [ClL, if_pos e1, natL_intL, mk_bl h2 h3] at h'
  obtain ⟨y, g1, g2, g3, rfl⟩ := h'
  have : Cl b.rus x allW x := ⟨Way.start _ _ _, h1.2⟩
  rw [g1.unique this]

set_option maxRecDepth 100000 in
set_option maxHeartbeats 4000000 in
theorem law_closes (AI AR : Option Addr) (cI cR : Nat) (A : Option Addr) (c : Nat) (b : Bk) (ps : List Int) (w : World) (h : ItsAt w.heap.size w AI b.its) (h' : RusAt w.heap.size w AR b.rus) (hi : IntsAt w.heap.size w A ps) (hT : Tab w) :
    Calls Tryd.prog 6 #[.agg #[.int .i64 b.p, .slice AI b.its.length cI, .slice AR b.rus.length cR], .slice A ps.length c] w fun e w' => e = .returned (.bool true) ∧ Below w.heap.size w w' := by
  have hb0 := Blk.new w 25 #[.int .i64 b.p, .slice AI b.its.length cI, .slice AR b.rus.length cR]
  have hw0 : Below w.heap.size w (w.alloc (.cells #[.int .i64 b.p, .slice AI b.its.length cI, .slice AR b.rus.length cR] 25)) := (Below.refl _ _).alloc (Nat.le_refl _) _
  obtain ⟨W0, hW0⟩ : ∃ W0, W0 = w.alloc (.cells #[.int .i64 b.p, .slice AI b.its.length cI, .slice AR b.rus.length cR] 25) := ⟨_, rfl⟩
  rw [← hW0] at hb0 hw0
  have hlt : w.heap.size < W0.heap.size := hb0.lt
  have hI := h.below hw0 (Nat.le_of_lt hlt)
  have hR := h'.below hw0 (Nat.le_of_lt hlt)
  have hP := hi.below hw0 (Nat.le_of_lt hlt)
  have hT0 := hT.below hw0 hT.2
  have clg := Lib.hid (Long_any AI AR cI cR _ b W0 (Nat.le_refl _) hI hR)
  have ck := Lib.hid (fun W (hW : Below W0.heap.size W0 W) => known_any W (hT0.below hW hT0.2))
  have Hw := Lib.hid hw0
  have HX := Lib.hid (fun W (hW : Below W0.heap.size W0 W) => blk3 (hb0.below hW hlt))
  have tok := Lib.hid (Nat.le_refl 0)
  cases hlg : lgR b with
  | true =>
    rw [hlg] at clg
    clear h h' hi hI hR hP hT hT0 hb0 hw0 hlg
    go_enter Tryd.func6, Tryd.ntmps6
    go_wp2_with (first
      | (have tk := tok; clear tok; go_at_call 17; rw [← hW0]; clear hW0; refine clg.out.mono ?_; rintro e w1 ⟨rfl, hd1⟩; have tok2 := tk; obtain ⟨z0, z1, z2, _⟩ := HX.out _ hd1)
      | (have tk := tok2; clear tok2; go_at_call 18; refine (ck.out _ hd1).mono ?_; rintro e w2 ⟨rfl, hd2⟩; have hb2 := hd1.trans (hd2.mono hd1.size)))
    go_ret
    exact ⟨rfl, Hw.out.trans (hb2.mono Hw.out.size)⟩
  | false =>
    rw [hlg] at clg
    by_cases h60 : 60 < ps.length
    · have hld : decide ((60 : Int) < (ps.length : Int)) = true := by simp; omega
      clear h h' hi hI hR hP hT hT0 hb0 hw0 hlg
      go_enter Tryd.func6, Tryd.ntmps6
      go_wp2_with (first
        | (have tk := tok; clear tok; go_at_call 17; rw [← hW0]; clear hW0; refine clg.out.mono ?_; rintro e w1 ⟨rfl, hd1⟩; have tok2 := tk; obtain ⟨z0, z1, z2, _⟩ := HX.out _ hd1)
        | (have tk := tok2; clear tok2; go_at_call 18; refine (ck.out _ hd1).mono ?_; rintro e w2 ⟨rfl, hd2⟩; have hb2 := hd1.trans (hd2.mono hd1.size)))
      go_ret
      exact ⟨rfl, Hw.out.trans (hb2.mono Hw.out.size)⟩
    · have hld : decide ((60 : Int) < (ps.length : Int)) = false := by simp; omega
      have hs := lg_short hlg
      have c1 := Lib.hid (fun W (hW : Below W0.heap.size W0 W) => Closure_any AI AR cI cR A c W0.heap.size b ps W hW.size (hI.below hW (Nat.le_refl _)) (hR.below hW (Nat.le_refl _)) (hP.below hW (Nat.le_refl _)) hs (by omega) (hT0.below hW hT0.2))
      have c2 := Lib.hid (fun W (hW : Below W0.heap.size W0 W) => Closure_ref AI AR cI cR A c W0.heap.size b ps W hW.size (hI.below hW (Nat.le_refl _)) (hR.below hW (Nat.le_refl _)) (hP.below hW (Nat.le_refl _)) hs (by omega))
      have c3 := Lib.hid (fun A' c' B' L W (hW : Below W0.heap.size W0 W) (hB' : B' ≤ W.heap.size) (i' : IntsAt B' W A' L) (hL : L.length ≤ 60) => Closure_any AI AR cI cR A' c' W.heap.size b L W (Nat.le_refl _) (hI.below hW hW.size) (hR.below hW hW.size) (i'.below (Below.refl _ _) hB') hs hL (hT0.below hW hT0.2))
      have HPs := Lib.hid hP
      have Hrefl := Lib.hid (Below.refl W0.heap.size W0)
      clear h h' hi hI hR hP hT hT0 hb0 hw0 hlg hs
      by_cases h0 : clE b ps = 0
      · have Ha := Lib.hid (fun L (hL : ClL b ps L) => And.intro (hL.has h0) (hL.again h0))
        rw [h0] at c1 c2
        clear h0
        go_enter Tryd.func6, Tryd.ntmps6
        go_wp2_with (first
          | (have tk := tok; clear tok; go_at_call 17; rw [← hW0]; clear hW0; refine clg.out.mono ?_; rintro e w1 ⟨rfl, hd1⟩; have tok2 := tk; obtain ⟨z0, z1, z2, _⟩ := HX.out _ hd1)
          | (have tk := tok2; clear tok2; go_at_call 31; refine (c1.out _ hd1).mono ?_; rintro e w2 ⟨v2, rfl, hv2, hd⟩; have hb2 := hd1.trans (hd.mono hd1.size); obtain ⟨L2, A2, k2, rfl, i2, hL2⟩ := hv2.ints; have tok3 := tk; clear hd hv2 z0 z1 z2; obtain ⟨z0, z1, z2, _⟩ := HX.out _ hb2)
          | (have tk := tok3; clear tok3; go_at_call 32; refine (c2.out _ hb2).mono ?_; rintro e w3 ⟨v3, rfl, hv3, hd⟩; have hb3 := hb2.trans (hd.mono hb2.size); obtain ⟨L3, A3, k3, rfl, i3, hL3⟩ := hv3.ints; have e23 := hL2.unique hL3; subst e23; have i2' := i2.below hd hd.size; have tok4 := tk; clear hd hv3 z0 z1 z2; obtain ⟨z0, z1, z2, _⟩ := HX.out _ hb3)
          | (have tk := tok4; clear tok4; go_at_call 25; refine (sameInts_ref A2 A3 k2 k3 _ L2 L2 _ i2' i3 (by have := hL2.short; omega)).mono ?_; rintro e w4 ⟨rfl, hd⟩; have hb4 := hb3.trans (hd.below _); have i4 := i2'.below (hd.below w3.heap.size) (hd.below w3.heap.size).size; have tok5 := tk; clear hd i2' i3 z0 z1 z2; obtain ⟨z0, z1, z2, _⟩ := HX.out _ hb4))
        obtain ⟨hhas, hcl0, hag⟩ := Ha.out L2 hL2
        have Hhas := Lib.hid hhas
        have Hag := Lib.hid hag
        have hsh := hL2.short
        have I4 := Lib.hid i4
        clear Ha hhas hag hL2 hL3 i4
        go_loop [9] (fun i => ∃ k : Nat, k ≤ ps.length ∧ i = .int .i64 k) (fun i => ps.length - (intOf i).toNat)
        case atStart => exact ⟨0, Nat.zero_le _, rfl⟩
        case round =>
          obtain ⟨k, hk, rfl⟩ := hrel
          by_cases hlt2 : k < ps.length
          · obtain ⟨bb, off, rfl, hbB, q0⟩ := HPs.out.at hlt2
            have q1 := (hb4.cell (p := ⟨bb, off + k, none⟩) hbB).trans q0
            have hc := Has_ref A2 k2 _ L2 ps[k] w4 I4.out (by omega)
            rw [Hhas.out ps[k] (List.getElem_mem hlt2)] at hc
            have Hc := Lib.hid hc
            clear hc q0
            generalize ps[k] = y at q1 Hc
            go_wp2_with (go_at_call 30; refine Hc.out.mono ?_; rintro e w5 ⟨rfl, rfl⟩)
            go_round
            case rel => exact ⟨k + 1, by omega, by go_num⟩
            case measure => simp [intOf]; omega
          · have c5 := Lib.hid (c3.out A2 k2 _ L2 w4 hb4 (Nat.le_refl _) (I4.out.below (Below.refl _ _) (by first | exact Nat.le_refl _ | exact Below.size (w := w3) (B := w3.heap.size) (by assumption))) (by omega))
            rw [hcl0] at c5
            go_wp2_with (first
              | (have tk := tok5; clear tok5; go_at_call 31; refine c5.out.mono ?_; rintro e w5 ⟨v5, rfl, hv5, hd⟩; have hb5 := hb4.trans (hd.mono hb4.size); obtain ⟨L5, A5, k5, rfl, i5, hL5⟩ := hv5.ints; have e25 := Hag.out _ hL5; subst e25; have i6 := I4.out.below hd hd.size; have tok6 := tk; clear hd hv5)
              | (have tk := tok6; clear tok6; go_at_call 25; refine (sameInts_ref A5 A2 k5 k2 _ L5 L5 _ i5 i6 (by omega)).mono ?_; rintro e w6 ⟨rfl, hd⟩; have hb6 := hb5.trans (hd.below _); have tok7 := tk; clear hd)
              | (have tk := tok7; clear tok7; go_at_call 18; refine (ck.out _ hb6).mono ?_; rintro e w7 ⟨rfl, hd⟩; have hb7 := hb6.trans (hd.mono hb6.size); clear hd))
            go_ret
            exact ⟨rfl, Hw.out.trans (hb7.mono Hw.out.size)⟩
      · have he2 : (clE b ps != 0) = true := by simpa using h0
        generalize clE b ps = e0 at c1 c2 he2
        clear h0 c3
        go_enter Tryd.func6, Tryd.ntmps6
        go_wp2_with (first
          | (have tk := tok; clear tok; go_at_call 17; rw [← hW0]; clear hW0; refine clg.out.mono ?_; rintro e w1 ⟨rfl, hd1⟩; have tok2 := tk; obtain ⟨z0, z1, z2, _⟩ := HX.out _ hd1)
          | (have tk := tok2; clear tok2; go_at_call 31; refine (c1.out _ hd1).mono ?_; rintro e w2 ⟨v2, rfl, hv2, hd⟩; have hb2 := hd1.trans (hd.mono hd1.size); obtain ⟨L2, A2, k2, rfl, i2, hL2⟩ := hv2.ints; have tok3 := tk; clear hd hv2 z0 z1 z2; obtain ⟨z0, z1, z2, _⟩ := HX.out _ hb2)
          | (have tk := tok3; clear tok3; go_at_call 32; refine (c2.out _ hb2).mono ?_; rintro e w3 ⟨v3, rfl, hv3, hd⟩; have hb3 := hb2.trans (hd.mono hb2.size); obtain ⟨L3, A3, k3, rfl, i3, hL3⟩ := hv3.ints; have e23 := hL2.unique hL3; subst e23; have i2' := i2.below hd hd.size; have tok4 := tk; clear hd hv3 z0 z1 z2)
          | (have tk := tok4; clear tok4; go_at_call 25; refine (sameInts_ref A2 A3 k2 k3 _ L2 L2 _ i2' i3 (by have := hL2.short; omega)).mono ?_; rintro e w4 ⟨rfl, hd⟩; have hb4 := hb3.trans (hd.below _); have tok5 := tk; clear hd)
          | (have tk := tok5; clear tok5; go_at_call 18; refine (ck.out _ hb4).mono ?_; rintro e w5 ⟨rfl, hd⟩; have hb5 := hb4.trans (hd.mono hb4.size); clear hd))
        go_ret
        exact ⟨rfl, Hw.out.trans (hb5.mono Hw.out.size)⟩
end Go.Proofs.YtgoojcjfhghmgaaDoor
