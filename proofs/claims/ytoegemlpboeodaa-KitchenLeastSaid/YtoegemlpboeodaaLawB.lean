/- KitchenBefore and KitchenJoins: the calls return true. -/
import Derived.Test.YtoegemlpboeodaaLawA
import Derived.Deep.RegionHeld3
namespace Go.Proofs.Ytoegemlpboeodaa
open Go.RowKit

theorem before_below (a b c d : Int) (w : World) : Calls Try.prog 19 #[.agg #[.int .i64 a, .int .i64 b], .agg #[.int .i64 c, .int .i64 d]] w fun e w' =>
    e = .returned (.bool (befB (a, b) (c, d))) ∧ Below w.heap.size w w' :=
  (before_any a b c d w).mono fun e w' ⟨he, hw⟩ => ⟨he, by subst hw; exact ((Below.refl _ _).alloc (Nat.le_refl _) _).alloc (by simp) _⟩

theorem before_ref' (a b c d : Int) (w : World) : Calls Try.prog 20 #[.agg #[.int .i64 a, .int .i64 b], .agg #[.int .i64 c, .int .i64 d]] w fun e w' =>
    e = .returned (.bool (befB (a, b) (c, d))) ∧ Below w.heap.size w w' :=
  (before_ref a b c d w).mono fun e w' ⟨he, hw⟩ => ⟨he, by subst hw; exact ((Below.refl _ _).alloc (Nat.le_refl _) _).alloc (by simp) _⟩

/-- Two structs of two ints in new blocks, whatever has come since. -/
def S2 (w : World) (a b c d : Int) (W : World) : Prop :=
  W.cell? ⟨w.heap.size, 0, none⟩ = some (.int .i64 a) ∧ W.cell? ⟨w.heap.size, 1, none⟩ = some (.int .i64 b) ∧ W.cell? ⟨w.heap.size + 1, 0, none⟩ = some (.int .i64 c) ∧ W.cell? ⟨w.heap.size + 1, 1, none⟩ = some (.int .i64 d) ∧
    Below (w.heap.size + 2) ((w.alloc (.cells #[.int .i64 a, .int .i64 b] 30)).alloc (.cells #[.int .i64 c, .int .i64 d] 30)) W ∧ w.heap.size + 2 ≤ W.heap.size
theorem S2.start (w : World) (a b c d : Int) : S2 w a b c d ((w.alloc (.cells #[.int .i64 a, .int .i64 b] 30)).alloc (.cells #[.int .i64 c, .int .i64 d] 30)).drew :=
  ⟨by simp, by simp, by simp, by simp, (Below.refl _ _).drew, by simp⟩
theorem S2.call {w W W' : World} {a b c d : Int} (h : S2 w a b c d W) (hb : Below W.heap.size W W') : S2 w a b c d W' := by
  obtain ⟨h0, h1, h2, h3, h4, h5⟩ := h
  exact ⟨(hb.cell (cell_lt h0)).trans h0, (hb.cell (cell_lt h1)).trans h1, (hb.cell (cell_lt h2)).trans h2, (hb.cell (cell_lt h3)).trans h3, h4.trans (hb.mono h5), Nat.le_trans h5 hb.size⟩

theorem S2.below {w W : World} {a b c d : Int} (h : S2 w a b c d W) : Below w.heap.size w W :=
  (((Below.refl _ w).alloc (Nat.le_refl _) _).alloc (by simp) _).trans (h.2.2.2.2.1.mono (by omega))

set_option maxRecDepth 100000 in
set_option maxHeartbeats 1000000 in
theorem before_law (a b c d : Int) (w : World) :
    Calls Try.prog 4 #[.agg #[.int .i64 a, .int .i64 b], .agg #[.int .i64 c, .int .i64 d]] w fun e w' => e = .returned (.bool true) ∧ Below w.heap.size w w' := by
  have hor := befB_total (a, b) (c, d)
  cases h1 : befB (a, b) (c, d) <;> cases h2 : befB (c, d) (a, b)
  · simp [h1, h2] at hor
  all_goals
    clear hor
    go_enter Try.func4, Try.ntmps4
    go_wp2_with fail
    go_region_held3 (fun w' => w'.cell? ⟨w.heap.size, 0, none⟩ = some (.int .i64 a) ∧ w'.cell? ⟨w.heap.size, 1, none⟩ = some (.int .i64 b) ∧ w'.cell? ⟨w.heap.size + 1, 0, none⟩ = some (.int .i64 c) ∧ w'.cell? ⟨w.heap.size + 1, 1, none⟩ = some (.int .i64 d) ∧ Below (w.heap.size + 2) ((w.alloc (.cells #[.int .i64 a, .int .i64 b] 30)).alloc (.cells #[.int .i64 c, .int .i64 d] 30)) w' ∧ w.heap.size + 2 ≤ w'.heap.size)
      (first | exact S2.start w a b c d | exact S2.call (by assumption) hb | exact S2.call ⟨by assumption, by assumption, by assumption, by assumption, by assumption, by assumption⟩ hb)
      ((first | (go_at_call 19; refine (before_below _ _ _ _ _).mono ?_; rintro e w' ⟨rfl, hb⟩)))
    have hS : S2 w a b c d w' := by assumption
    have HS := Lib.hid hS
    clear hb
    obtain ⟨s0, s1, s2, s3, s4, s5⟩ := hS
    have tok : True := trivial
    go_wp2_with (first
      | (go_at_call 20; have _t := tok; refine (before_ref' _ _ _ _ _).mono ?_; rintro e w2 ⟨rfl, hb2⟩; clear tok _t; have HS2 := Lib.hid (S2.call HS.out hb2); obtain ⟨t0, t1, t2, t3, t4, t5⟩ := HS2.out)
      | (go_at_call 20; refine (before_ref' _ _ _ _ _).mono ?_; rintro e w3 ⟨rfl, hb3⟩; have HS3 := Lib.hid (S2.call HS2.out hb3))
      | (go_at_call 18; refine (known_any _).mono ?_; rintro e w5 ⟨rfl, hb5⟩; have HS5 := Lib.hid (S2.call HS3.out hb5)))
    go_ret
    exact ⟨rfl, HS5.out.below⟩

theorem okH_more {h a n d s m : Int} (ok : okH h a n d s = true) (h0 : 0 ≤ m) (h1 : m ≤ 1000 - s) : okH (coolR h a n d s) a n d m = true ∧ okH h a n d (s + m) = true ∧ coolR (coolR h a n d s) a n d m = coolR h a n d (s + m) := by
  obtain ⟨f, ha, hh, hs0, hs1⟩ := okH_iff ok
  have hc := coolI_bd f ha s.toNat hh
  have e1 : coolR h a n d s = iter (coolS a n d) s.toNat h := if_pos ok
  have o1 : okH (coolR h a n d s) a n d m = true := by
    rw [e1]; simp only [okH, Bool.and_eq_true, inB_iff]
    exact ⟨hc, ha, ⟨f.d1, f.d2⟩, ⟨f.n1, f.n2⟩, by omega⟩
  have o2 : okH h a n d (s + m) = true := by
    simp only [okH, Bool.and_eq_true, inB_iff]
    exact ⟨hh, ha, ⟨f.d1, f.d2⟩, ⟨f.n1, f.n2⟩, by omega⟩
  refine ⟨o1, o2, ?_⟩
  rw [coolR, if_pos o1, coolR, if_pos ok, coolR, if_pos o2, Int.toNat_add hs0 h0, iter_add]
theorem coolR_mono {h k a n d s : Int} (ok : okH h a n d s = true) (ok' : okH k a n d s = true) (hk : h ≤ k) : coolR h a n d s ≤ coolR k a n d s := by
  obtain ⟨f, _⟩ := okH_iff ok
  rw [coolR, if_pos ok, coolR, if_pos ok']
  exact coolI_mono f hk _

set_option maxRecDepth 100000 in
set_option maxHeartbeats 1000000 in
theorem joins_law (h a n d s l m k : Int) (w : World) :
    Calls Try.prog 3 #[.agg #[.int .i64 h, .int .i64 a, .int .i64 n, .int .i64 d, .int .i64 s, .int .i64 l], .int .i64 m, .int .i64 k] w fun e w' => e = .returned (.bool true) ∧ Below w.heap.size w w' := by
  by_cases ok : okH h a n d s = true
  · obtain ⟨f, ha, hh, hs0, hs1⟩ := okH_iff ok
    have e1 : errH (okH h a n d s) = 0 := by rw [ok]; rfl
    by_cases hm0 : m < 0
    · clear ok f ha hh
      go_enter Try.func3, Try.ntmps3
      go_wp2_with (first
        | (go_at_call 17; refine (Cool_any _ _ _ _ _ _).mono ?_; rintro e w1 ⟨rfl, hb1⟩; have g1 := hb1.mono (B' := w.heap.size + 1) (by simp); obtain ⟨c0, c1, c2, c3, c4, c5⟩ := cells6 g1)
        | (go_at_call 18; refine (known_any _).mono ?_; rintro e w5 ⟨rfl, hb5⟩))
      go_ret
      exact ⟨rfl, below_box (below_next g1 hb5)⟩
    · by_cases hm1 : 1000 - s < m
      · clear ok f ha hh
        go_enter Try.func3, Try.ntmps3
        go_wp2_with (first
          | (go_at_call 17; refine (Cool_any _ _ _ _ _ _).mono ?_; rintro e w1 ⟨rfl, hb1⟩; have g1 := hb1.mono (B' := w.heap.size + 1) (by simp); obtain ⟨c0, c1, c2, c3, c4, c5⟩ := cells6 g1)
          | (go_at_call 18; refine (known_any _).mono ?_; rintro e w5 ⟨rfl, hb5⟩))
        go_ret
        exact ⟨rfl, below_box (below_next g1 hb5)⟩
      · obtain ⟨o1, o2, e4⟩ := okH_more (m := m) ok (by omega) (by omega)
        have e2 : errH (okH (coolR h a n d s) a n d m) = 0 := by rw [o1]; rfl
        have e3 : errH (okH h a n d (s + m)) = 0 := by rw [o2]; rfl
        have hcase : (okH k a n d s = false) ∨ (okH k a n d s = true ∧ k < h) ∨ (okH k a n d s = true ∧ ¬ k < h ∧ coolR h a n d s ≤ coolR k a n d s) := by
          cases hk : okH k a n d s
          · exact .inl rfl
          · by_cases hlt : k < h
            · exact .inr (.inl ⟨rfl, hlt⟩)
            · exact .inr (.inr ⟨rfl, hlt, coolR_mono ok hk (by omega)⟩)
        clear ok f ha hh o1 o2
        have g0 := Below.refl (w.heap.size + 1) (w.alloc (.cells #[.int .i64 h, .int .i64 a, .int .i64 n, .int .i64 d, .int .i64 s, .int .i64 l] 23))
        rcases hcase with h5 | ⟨h5, h6⟩ | ⟨h5, h6, h7⟩
        · have e5 : errH (okH k a n d s) = 1 := by rw [h5]; rfl
          clear h5
          go_enter Try.func3, Try.ntmps3
          go_wp2_with (first
            | (go_at_call 17; refine (Cool_any _ _ _ _ _ _).mono ?_; rintro e wn ⟨rfl, hbn⟩; have gn := below_next (by assumption) hbn; clear hbn; obtain ⟨c0, c1, c2, c3, c4, c5⟩ := cells6 gn)
            | (go_at_call 18; refine (known_any _).mono ?_; rintro e w5 ⟨rfl, hb5⟩))
          go_ret
          exact ⟨rfl, below_box (below_next (by assumption) hb5)⟩
        · have e5 : errH (okH k a n d s) = 0 := by rw [h5]; rfl
          clear h5
          go_enter Try.func3, Try.ntmps3
          go_wp2_with (first
            | (go_at_call 17; refine (Cool_any _ _ _ _ _ _).mono ?_; rintro e wn ⟨rfl, hbn⟩; have gn := below_next (by assumption) hbn; clear hbn; obtain ⟨c0, c1, c2, c3, c4, c5⟩ := cells6 gn)
            | (go_at_call 18; refine (known_any _).mono ?_; rintro e w5 ⟨rfl, hb5⟩))
          go_ret
          exact ⟨rfl, below_box (below_next (by assumption) hb5)⟩
        · have e5 : errH (okH k a n d s) = 0 := by rw [h5]; rfl
          clear h5
          go_enter Try.func3, Try.ntmps3
          go_wp2_with (first
            | (go_at_call 17; refine (Cool_any _ _ _ _ _ _).mono ?_; rintro e wn ⟨rfl, hbn⟩; have gn := below_next (by assumption) hbn; clear hbn; obtain ⟨c0, c1, c2, c3, c4, c5⟩ := cells6 gn)
            | (go_at_call 18; refine (known_any _).mono ?_; rintro e w5 ⟨rfl, hb5⟩))
          go_ret
          exact ⟨rfl, below_box (below_next (by assumption) hb5)⟩
  · have ok' : okH h a n d s = false := by simpa using ok
    have e1 : errH (okH h a n d s) = 1 := by rw [ok']; rfl
    clear ok ok'
    go_enter Try.func3, Try.ntmps3
    go_wp2_with (first
      | (go_at_call 17; refine (Cool_any _ _ _ _ _ _).mono ?_; rintro e w1 ⟨rfl, hb1⟩; have g1 := hb1.mono (B' := w.heap.size + 1) (by simp); obtain ⟨c0, c1, c2, c3, c4, c5⟩ := cells6 g1)
      | (go_at_call 18; refine (known_any _).mono ?_; rintro e w5 ⟨rfl, hb5⟩))
    go_ret
    exact ⟨rfl, below_box (below_next g1 hb5)⟩
end Go.Proofs.Ytoegemlpboeodaa
