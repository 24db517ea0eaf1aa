/- The reference's Trips: better f84, f53. -/
import Derived.Test.YtmodbpglopfghaaVanCd
set_option linter.unusedSimpArgs false
set_option linter.unusedVariables false
namespace Go.Proofs.Ytmodbpglopfghaa
open Go Go.RowKit

noncomputable def ltB (p q : Int × List Nat) : Bool := @decide (ltP p q) (Classical.propDecidable _)
theorem ltB_true {p q : Int × List Nat} (h : ltP p q) : ltB p q = true := by unfold ltB; exact @decide_eq_true _ (Classical.propDecidable _) h
theorem ltB_false {p q : Int × List Nat} (h : ¬ ltP p q) : ltB p q = false := by unfold ltB; exact @decide_eq_false _ (Classical.propDecidable _) h
section
variable {s s' : Int} {a b : List Nat} {i : Nat}
theorem ltB_lt (h : s < s') : ltB (s, a) (s', b) = true := ltB_true (.inl h)
theorem ltB_gt (h : s' < s) : ltB (s, a) (s', b) = false := ltB_false fun h' => by
  rcases h' with h' | ⟨h', _⟩
  · simp only at h'; omega
  · simp only at h'; omega
theorem ltB_len (h : a.length < b.length) : ltB (s, a) (s, b) = true := ltB_true (.inr ⟨rfl, .inl h⟩)
theorem ltB_len' (h : b.length < a.length) : ltB (s, a) (s, b) = false := ltB_false fun h' => by
  rcases h' with h' | ⟨_, h' | ⟨h', _⟩⟩
  · simp only at h'; omega
  · simp only at h'; omega
  · simp only at h'; omega
theorem lexS_at : ∀ {a b : List Nat} {i : Nat} (ha : i < a.length) (hb : i < b.length), a.take i = b.take i → a[i] ≠ b[i] → (lexS a b ↔ a[i] < b[i])
  | x :: a, y :: b, 0, _, _, _, hne => by
    simp only [List.getElem_cons_zero] at hne ⊢
    simp only [lexS]
    constructor
    · rintro (h | ⟨h, _⟩)
      · exact h
      · exact absurd h hne
    · exact .inl
  | x :: a, y :: b, i + 1, ha, hb, ht, hne => by
    simp only [List.take_succ_cons, List.cons.injEq] at ht
    obtain ⟨rfl, ht⟩ := ht
    simp only [List.getElem_cons_succ] at hne ⊢
    rw [← lexS_at (by simpa using ha) (by simpa using hb) ht hne]
    simp [lexS]
theorem ltB_at (hl : a.length = b.length) (ha : i < a.length) (hb : i < b.length) (ht : a.take i = b.take i) (hne : a[i] ≠ b[i]) : ltB (s, a) (s, b) = decide (a[i] < b[i]) := by
  by_cases h : a[i] < b[i]
  · rw [decide_eq_true h]
    exact ltB_true (.inr ⟨rfl, .inr ⟨hl, (lexS_at ha hb ht hne).2 h⟩⟩)
  · rw [decide_eq_false h]
    refine ltB_false fun h' => ?_
    rcases h' with h' | ⟨_, h' | ⟨_, h'⟩⟩
    · simp only at h'; omega
    · simp only at h'; omega
    · exact h ((lexS_at ha hb ht hne).1 h')
theorem ltB_same (h : a = b) : ltB (s, a) (s, b) = false := ltB_false (by subst h; exact ltP_irrefl _)
end

set_option maxRecDepth 100000 in
set_option maxHeartbeats 2000000 in
theorem better_any (A A' : Option Addr) (c c' n m : Nat) (s s' : Int) (ra rb : List (List Int)) (w : World) (h : TblAt w.heap.size w A ra) (h' : TblAt w.heap.size w A' rb) (hn : ra.length = n) (hm : rb.length = m) (hx : n ≤ 1000) (hy : m ≤ 1000) :
    Calls Try.prog 84 #[.agg #[.slice A n c, .int .i64 s], .agg #[.slice A' m c', .int .i64 s']] w fun e w' => e = .returned (.bool (ltB (s, ra.map List.length) (s', rb.map List.length))) ∧ Below w.heap.size w w' := by
  have H := Lib.hid h
  have H' := Lib.hid h'
  clear h h'
  obtain ⟨la, hla⟩ : ∃ la, la = ra.map List.length := ⟨_, rfl⟩
  obtain ⟨lb, hlb⟩ : ∃ lb, lb = rb.map List.length := ⟨_, rfl⟩
  rw [← hla, ← hlb]
  have hn' : la.length = n := by rw [hla, List.length_map, hn]
  have hm' : lb.length = m := by rw [hlb, List.length_map, hm]
  have Hn := Lib.hid hn
  have Hm := Lib.hid hm
  have Hn' := Lib.hid hn'
  have Hm' := Lib.hid hm'
  have Hla := Lib.hid (show ∀ i (h : i < la.length), ∃ (h2 : i < ra.length), la[i] = ra[i].length from fun i h => ⟨by rw [hla, List.length_map] at h; exact h, by simp [hla]⟩)
  have Hlb := Lib.hid (show ∀ i (h : i < lb.length), ∃ (h2 : i < rb.length), lb[i] = rb[i].length from fun i h => ⟨by rw [hlb, List.length_map] at h; exact h, by simp [hlb]⟩)
  clear hn hm hn' hm' hla hlb
  rcases Int.lt_trichotomy s s' with hs | hs | hs
  · have hd : (s != s') = true := by simp; omega
    rw [ltB_lt hs]
    have HB0 := Lib.hid (show Below w.heap.size w ((w.alloc (.cells #[.slice A n c, .int .i64 s] 103)).alloc (.cells #[.slice A' m c', .int .i64 s'] 103)) from balloc (balloc (Below.refl _ _) _) _)
    go_enter Try.func84, Try.ntmps84
    go_wp2_with fail
    go_ret
    exact ⟨rfl, HB0.out⟩
  · subst hs
    rcases Nat.lt_trichotomy n m with hl | hl | hl
    · have hd : ((n : Int) != (m : Int)) = true := by simp; omega
      rw [ltB_len (by rw [Hn'.out, Hm'.out]; exact hl)]
      have HB0 := Lib.hid (show Below w.heap.size w ((w.alloc (.cells #[.slice A n c, .int .i64 s] 103)).alloc (.cells #[.slice A' m c', .int .i64 s] 103)) from balloc (balloc (Below.refl _ _) _) _)
      go_enter Try.func84, Try.ntmps84
      go_wp2_with fail
      go_ret
      exact ⟨rfl, HB0.out⟩
    · subst hl
      generalize hr : ltB (s, la) (s, lb) = r
      have HR := Lib.hid hr
      clear hr
      go_enter Try.func84, Try.ntmps84
      go_wp2_with fail
      generalize hW0 : (w.alloc (.cells #[.slice A n c, .int .i64 s] 103)).alloc (.cells #[.slice A' n c', .int .i64 s] 103) = W0
      have HK0 := Lib.hid (show Blk W0 w.heap.size 103 #[.slice A n c, .int .i64 s] by rw [← hW0]; exact (Blk.new _ _ _).alloc _)
      have HK1 := Lib.hid (show Blk W0 (w.heap.size + 1) 103 #[.slice A' n c', .int .i64 s] by rw [← hW0]; exact blk_new' (by simp))
      have HB0 := Lib.hid (show Below w.heap.size w W0 by rw [← hW0]; exact balloc (balloc (Below.refl _ _) _) _)
      clear hW0
      have HX := Lib.hid (fun (W : World) (hW : Below W0.heap.size W0 W) => And.intro (blk2 (HK0.out.below hW HK0.out.lt)) (blk2 (HK1.out.below hW HK1.out.lt)))
      have HA := Lib.hid (fun (W : World) (hW : Below W0.heap.size W0 W) => And.intro (H.out.below (HB0.out.trans (hW.mono HB0.out.size)) (HB0.out.trans (hW.mono HB0.out.size)).size) (H'.out.below (HB0.out.trans (hW.mono HB0.out.size)) (HB0.out.trans (hW.mono HB0.out.size)).size))
      have HBr := Lib.hid (Below.refl W0.heap.size W0)
      go_loopw [5] (fun vi wx => ∃ i : Nat, i ≤ n ∧ vi = .int .i64 i ∧ Aside (la.take i = lb.take i) ∧ Below W0.heap.size W0 wx) (fun vi _ => n - (intOf vi).toNat)
      case atStart => exact ⟨0, Nat.zero_le _, rfl, by simp [Aside], HBr.out⟩
      case round =>
        clear HBr
        obtain ⟨i, hi, rfl, heq, hbx⟩ := hrel
        have HEq := Lib.hid heq.out
        have HBx := Lib.hid hbx
        obtain ⟨⟨x0, x1, _⟩, y0, y1, _⟩ := HX.out _ hbx
        clear heq hbx
        by_cases hlt : i < n
        · obtain ⟨h2, e2⟩ := Hla.out i (by rw [Hn'.out]; exact hlt)
          obtain ⟨h3, e3⟩ := Hlb.out i (by rw [Hm'.out]; exact hlt)
          obtain ⟨b1, o1, A1, c1, rfl, _, z0, iz0⟩ := (HA.out _ HBx.out).1 i h2
          obtain ⟨b2, o2, A2, c2, rfl, _, z1, iz1⟩ := (HA.out _ HBx.out).2 i h3
          rw [← e2] at z0
          rw [← e3] at z1
          have hiI : (i : Int) < (n : Int) := by omega
          have hi0 : (0 : Int) ≤ (i : Int) := by omega
          have HAt := Lib.hid (fun hne => HR.out.symm.trans (ltB_at (s := s) (by rw [Hn'.out, Hm'.out]) (by rw [Hn'.out]; exact hlt) (by rw [Hm'.out]; exact hlt) HEq.out hne))
          have HEq2 := Lib.hid (show la[i]'(by rw [Hn'.out]; exact hlt) = lb[i]'(by rw [Hm'.out]; exact hlt) → la.take (i + 1) = lb.take (i + 1) from fun e => by
            rw [List.take_succ_eq_append_getElem (by rw [Hn'.out]; exact hlt), List.take_succ_eq_append_getElem (by rw [Hm'.out]; exact hlt), HEq.out, e])
          generalize la[i]'(by rw [Hn'.out]; exact hlt) = p at *
          generalize lb[i]'(by rw [Hm'.out]; exact hlt) = q at *
          clear e2 e3 iz0 iz1 h2 h3
          by_cases he : p = q
          · have HE3 := Lib.hid (HEq2.out he)
            subst he
            clear HAt HEq2
            have hd : ((p : Int) != (p : Int)) = false := by simp
            go_wp2_with fail
            go_quiet (fail)
            go_wp2_with fail
            go_roundw
            case rel => exact ⟨i + 1, by omega, by go_num, HE3.out, below_drewN HBx.out _⟩
            case measure => simp [intOf]; omega
          · have HA2 := Lib.hid (HAt.out he)
            have hd : ((p : Int) != (q : Int)) = true := by simp; omega
            clear HAt HEq2 HEq
            by_cases hpq : p < q
            · rw [decide_eq_true hpq] at HA2
              have hd2 : (p : Int) < (q : Int) := by omega
              clear he
              go_wp2_with fail
              go_quiet (fail)
              go_wp2_with fail
              go_quiet (fail)
              go_wp2_with fail
              go_ret
              exact ⟨by rw [HA2.out]; rfl, HB0.out.trans ((below_drewN (below_drewN HBx.out _) _).mono HB0.out.size)⟩
            · rw [decide_eq_false hpq] at HA2
              have hd2 : (q : Int) ≤ (p : Int) := by omega
              clear he
              go_wp2_with fail
              go_quiet (fail)
              go_wp2_with fail
              go_quiet (fail)
              go_wp2_with fail
              go_ret
              exact ⟨by rw [HA2.out]; rfl, HB0.out.trans ((below_drewN (below_drewN HBx.out _) _).mono HB0.out.size)⟩
        · obtain rfl : i = n := by omega
          have HE := Lib.hid (show r = false from HR.out.symm.trans (ltB_same (by
            have := HEq.out
            rwa [List.take_of_length_le (by rw [Hn'.out]; exact Nat.le_refl _), List.take_of_length_le (by rw [Hm'.out]; exact Nat.le_refl _)] at this)))
          go_wp2_with fail
          go_ret
          exact ⟨by rw [HE.out]; rfl, HB0.out.trans (HBx.out.mono HB0.out.size)⟩
    · have hd : ((n : Int) != (m : Int)) = true := by simp; omega
      rw [show ltB (s, la) (s, lb) = decide (n < m) by rw [ltB_len' (by rw [Hn'.out, Hm'.out]; exact hl), decide_eq_false (by omega)]]
      have HB0 := Lib.hid (show Below w.heap.size w ((w.alloc (.cells #[.slice A n c, .int .i64 s] 103)).alloc (.cells #[.slice A' m c', .int .i64 s] 103)) from balloc (balloc (Below.refl _ _) _) _)
      go_enter Try.func84, Try.ntmps84
      go_wp2_with fail
      go_ret
      exact ⟨rfl, HB0.out⟩
  · have hd : (s != s') = true := by simp; omega
    rw [show ltB (s, la) (s', lb) = decide (s < s') by rw [ltB_gt hs, decide_eq_false (by omega)]]
    have HB0 := Lib.hid (show Below w.heap.size w ((w.alloc (.cells #[.slice A n c, .int .i64 s] 103)).alloc (.cells #[.slice A' m c', .int .i64 s'] 103)) from balloc (balloc (Below.refl _ _) _) _)
    go_enter Try.func84, Try.ntmps84
    go_wp2_with fail
    go_ret
    exact ⟨rfl, HB0.out⟩

/-- The error of ways, stops, a tour and a number of boxes. -/
noncomputable def tpR (rows : List (List Int)) (n : Nat) (g : Nat → Nat → Int) (t : List Int) (bx : Int) : Int :=
  if tsR rows n g t ≠ 0 then tsR rows n g t else if ¬ (0 ≤ bx ∧ bx ≤ 100) then 1 else @ite _ (∀ x ∈ toN t, g x 3 ≤ bx) (Classical.propDecidable _) 0 11
section
variable {rows : List (List Int)} {n : Nat} {g : Nat → Nat → Int} {t : List Int} {bx : Int}
theorem tp_ts (h : tsR rows n g t ≠ 0) : tpR rows n g t bx = tsR rows n g t := if_pos h
theorem tp_out (h : tsR rows n g t = 0) (h2 : ¬ (0 ≤ bx ∧ bx ≤ 100)) : tpR rows n g t bx = 1 := by
  unfold tpR
  rw [if_neg (by simpa using h), if_pos h2]
theorem tp_big (h : tsR rows n g t = 0) (h2 : 0 ≤ bx ∧ bx ≤ 100) (h3 : ¬ ∀ x ∈ toN t, g x 3 ≤ bx) : tpR rows n g t bx = 11 := by
  unfold tpR
  rw [if_neg (by simpa using h), if_neg (by simpa using h2), if_neg h3]
theorem tp_ok (h : tsR rows n g t = 0) (h2 : 0 ≤ bx ∧ bx ≤ 100) (h3 : ∀ x ∈ toN t, g x 3 ≤ bx) : tpR rows n g t bx = 0 := by
  unfold tpR
  rw [if_neg (by simpa using h), if_neg (by simpa using h2), if_pos h3]
theorem tp_zero (h : tpR rows n g t bx = 0) : tsR rows n g t = 0 ∧ (0 ≤ bx ∧ bx ≤ 100) ∧ ∀ x ∈ toN t, g x 3 ≤ bx := by
  by_cases h1 : tsR rows n g t = 0
  · by_cases h2 : 0 ≤ bx ∧ bx ≤ 100
    · by_cases h3 : ∀ x ∈ toN t, g x 3 ≤ bx
      · exact ⟨h1, h2, h3⟩
      · rw [tp_big h1 h2 h3] at h; cases h
    · rw [tp_out h1 h2] at h; cases h
  · rw [tp_ts h1] at h; exact absurd h h1
/-- What is needed of a good tour. -/
theorem tp_facts (h : tpR rows n g t bx = 0) : ∃ l : List Nat, t = intL l ∧ VW rows ∧ n = rows.length ∧ VS n g ∧ (∀ x ∈ l, x < n) ∧ l.Nodup ∧ l.length ≤ 10 ∧ (∀ x ∈ l, g x 3 ≤ bx) ∧ Stp n l := by
  obtain ⟨h1, h2, h3⟩ := tp_zero h
  obtain ⟨⟨hv, hn, hs⟩, htu⟩ := ts_zero h1
  obtain ⟨e, hst⟩ := tu_stp htu
  rw [← hn] at hst
  refine ⟨toN t, e.symm, hv, hn, hs, fun x hx => (hst.2 x hx).2, hst.1, ?_, h3, hst⟩
  have h7 := hv.n1
  have := nodup_len n (toN t) hst.1 fun x hx => (hst.2 x hx).2
  omega
end
/-- The best of the first i cuttings. -/
theorem best_all {f : Nat → Nat → Int} {bx : Nat → Int} {cap : Int} {t ss : List Nat} {L : List (List Nat)} (hA : CutA bx cap t L) (hs : ss ∈ L) (h : ∀ j (hj : j < L.length), ¬ ltP (smC f L[j] t, L[j]) (smC f ss t, ss)) : BestP f bx cap t (smC f ss t, ss) := by
  refine ⟨(hA.1 _).1 hs, rfl, fun r hr => ?_⟩
  obtain ⟨j, hj, rfl⟩ := List.getElem_of_mem ((hA.1 r).2 hr)
  exact h j hj
end Go.Proofs.Ytmodbpglopfghaa
