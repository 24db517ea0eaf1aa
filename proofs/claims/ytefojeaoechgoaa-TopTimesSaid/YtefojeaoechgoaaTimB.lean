/- Clone, Add. -/
import Derived.Test.YtefojeaoechgoaaTimA
import Derived.Deep.RegionHeld3
import Derived.Lib.SliceRun
namespace Go.Proofs.Ytefojeaoechgoaa
open Go.RowKit

theorem Validate_ok (A : Option Addr) (c B : Nat) (l : List Fc) (w : World) (hB : B ≤ w.heap.size) (h : FactsAt B w A l) (hm : l.length ≤ 1000) (hok : Ok l) :
    Calls Try.prog 17 #[.slice A l.length c] w fun e w' => e = .returned (.int .i64 0) ∧ Below w.heap.size w w' := by
  refine (Validate_any A c B l w hB h hm).mono ?_
  rintro e w' ⟨z, rfl, h1 | h1, hb⟩
  · rw [h1.1]; exact ⟨rfl, hb⟩
  · exact absurd hok h1.2
theorem Validate_bad (A : Option Addr) (c B : Nat) (l : List Fc) (w : World) (hB : B ≤ w.heap.size) (h : FactsAt B w A l) (hm : l.length ≤ 1000) (hok : ¬ Ok l) :
    Calls Try.prog 17 #[.slice A l.length c] w fun e w' => ∃ z, e = .returned (.int .i64 z) ∧ ((z == 0) = false ∧ (z != 0) = true) ∧ Below w.heap.size w w' := by
  refine (Validate_any A c B l w hB h hm).mono ?_
  rintro e w' ⟨z, rfl, h1 | h1, hb⟩
  · exact absurd h1.2 hok
  · exact ⟨z, rfl, ⟨by simpa using h1.1, by simpa using h1.1⟩, hb⟩

theorem keep5 {w1 : World} {g : Nat} {x0 x1 x2 x3 x4 : Value} (hp : g < w1.heap.size) (z : w1.cell? ⟨g, 0, none⟩ = some x0 ∧ w1.cell? ⟨g, 1, none⟩ = some x1 ∧ w1.cell? ⟨g, 2, none⟩ = some x2 ∧ w1.cell? ⟨g, 3, none⟩ = some x3 ∧ w1.cell? ⟨g, 4, none⟩ = some x4) {W : World} (h : Below w1.heap.size w1 W) :
    W.cell? ⟨g, 0, none⟩ = some x0 ∧ W.cell? ⟨g, 1, none⟩ = some x1 ∧ W.cell? ⟨g, 2, none⟩ = some x2 ∧ W.cell? ⟨g, 3, none⟩ = some x3 ∧ W.cell? ⟨g, 4, none⟩ = some x4 ∧ Below w1.heap.size w1 W :=
  ⟨(h.cell hp).trans z.1, (h.cell hp).trans z.2.1, (h.cell hp).trans z.2.2.1, (h.cell hp).trans z.2.2.2.1, (h.cell hp).trans z.2.2.2.2, h⟩
theorem own_cap {w : World} {base e s n c : Nat} {A : Option Addr} {xs : List Value} (h : w.ownsRow base e s (.slice A n c) n xs) : n ≤ c ∧ c ≤ maxLen := by
  rcases h.2 with ⟨e1, e2⟩ | ⟨g, cap, cur, e1, hb, _, hc, hm, _⟩
  · injection e1 with e1 e3 e4
    subst e1 e4
    exact ⟨by omega, Nat.zero_le _⟩
  · injection e1 with e1 e3 e4
    subst e1 e4
    exact ⟨hc, hm⟩
theorem info24 : (Try.prog.info? 24).map (fun i => (i.zero, i.size, i.bytes)) = some (some (.agg #[.int .i64 0, .int .i64 0, .int .i64 0, .int .i64 0, .int .i64 0]), 5, 40) := by kernel_rfl

set_option maxRecDepth 100000 in
set_option maxHeartbeats 1000000 in
theorem Clone_any (A : Option Addr) (c B : Nat) (l : List Fc) (w : World) (hB : B ≤ w.heap.size) (h : FactsAt B w A l) (hm : l.length ≤ 1000) :
    Calls Try.prog 18 #[.slice A l.length c] w fun e w' => ∃ A' c', e = .returned (.slice A' l.length c') ∧ w'.ownsRow w.heap.size 24 5 (.slice A' l.length c') l.length (flatG cF l) ∧ Below w.heap.size w w' := by
  have q22 : ∀ (w : World) (a : Option Addr) (n c n' c' : Nat), (binOp .eql 22 (.slice a n c) (.slice none n' c')).run Try.prog w = .ok (.bool a.isNone) w := fun w a n c n' c' => Lib.run_eql_slice_nil w _ _ a n c n' c' Try.underlying22
  cases A with
  | none =>
    obtain rfl : l = [] := List.eq_nil_of_length_eq_zero (h.none_nil rfl)
    go_enter Try.func18, Try.ntmps18
    go_wp2
    go_ret
    exact ⟨none, 0, rfl, World.ownsRow_nil _ _ _ _, Below.refl _ _⟩
  | some ad =>
    obtain ⟨i0, hi, hz0, hz1, hz2⟩ := info_parts info24
    have H := Lib.hid (RecAt.below h (Below.refl _ _) hB)
    clear h
    go_enter Try.func18, Try.ntmps18
    go_wp2_with (at_builtin; refine wpList_app _ rfl (.tmp 5) (.tmp 6) 22 rfl w.heap.size 24 i0 _ 5 40 Try.underlying22 hi hz0 hz1 hz2 rfl (by decide) (.slice (some ⟨_, 0, none⟩) 0 0) 0 [] rfl (own_new 5 (Nat.le_refl _)) (some ad) l.length c (flatG cF l) rfl (flatG_length cF_length l) (fun e => by cases e) (RecAt.news cF_length (H.out.below ((Below.refl _ _).alloc (Nat.le_refl _) _) (Nat.le_refl _))) (flatF_one l) (by omega) (by decide) (by simp) l.length (by omega) (flatG cF l) rfl ?_; intro A4 c4 w4 hown4 hg4 hlow4; have hb4 : Below w.heap.size w w4 := bgrown ((Below.refl _ _).alloc (Nat.le_refl _) _) hg4 hlow4)
    go_ret
    exact ⟨A4, c4, rfl, hown4, hb4⟩

set_option maxRecDepth 100000 in
set_option maxHeartbeats 1000000 in
theorem Add_bad (A : Option Addr) (c B : Nat) (l : List Fc) (f : Fc) (w : World) (hB : B ≤ w.heap.size) (h : FactsAt B w A l) (hm : l.length ≤ 1000) (hok : ¬ Ok l) :
    Calls Try.prog 6 #[.slice A l.length c, .agg #[.int .i64 f.a, .int .i64 f.c, .int .i64 f.f, .int .i64 f.t, .int .i64 f.m]] w fun e w' => ∃ z, e = .returned (.tuple #[.slice none 0 0, .int .i64 z]) ∧ ((z == 0) = false ∧ (z != 0) = true) ∧ Below w.heap.size w w' := by
  have hw0 : Below w.heap.size w (w.alloc (.cells #[.int .i64 f.a, .int .i64 f.c, .int .i64 f.f, .int .i64 f.t, .int .i64 f.m] 24)) := (Below.refl _ _).alloc (Nat.le_refl _) _
  have cv := Lib.hid (Validate_bad A c _ l _ (Nat.le_refl _) (RecAt.below (RecAt.below h (Below.refl _ _) hB) hw0 hw0.size) hm hok)
  have Hw := Lib.hid hw0
  clear h hw0
  go_enter Try.func6, Try.ntmps6
  go_wp2_with (go_at_call 17; refine cv.out.mono ?_; rintro e w1 ⟨z, rfl, ⟨hz1, hz2⟩, hb1⟩)
  go_ret2
  exact ⟨z, rfl, ⟨hz1, hz2⟩, Hw.out.trans (hb1.mono Hw.out.size)⟩

set_option maxRecDepth 100000 in
set_option maxHeartbeats 1000000 in
theorem Add_any (A : Option Addr) (c B : Nat) (l : List Fc) (f : Fc) (w : World) (hB : B ≤ w.heap.size) (h : FactsAt B w A l) (hok : Ok l) :
    Calls Try.prog 6 #[.slice A l.length c, .agg #[.int .i64 f.a, .int .i64 f.c, .int .i64 f.f, .int .i64 f.t, .int .i64 f.m]] w fun e w' => ∃ v z, e = .returned (.tuple #[v, .int .i64 z]) ∧ ((((z == 0) = false ∧ (z != 0) = true) ∧ v = .slice none 0 0 ∧ ¬ Ok (l ++ [f])) ∨ (z = 0 ∧ Ok (l ++ [f]) ∧ ∃ A' c', v = .slice A' (l.length + 1) c' ∧ FactsAt w'.heap.size w' A' (l ++ [f]) ∧ l.length + 1 ≤ c' ∧ c' ≤ maxLen)) ∧ Below w.heap.size w w' := by
  have hw0 : Below w.heap.size w (w.alloc (.cells #[.int .i64 f.a, .int .i64 f.c, .int .i64 f.f, .int .i64 f.t, .int .i64 f.m] 24)) := (Below.refl _ _).alloc (Nat.le_refl _) _
  have h60 := hok.1
  have hI := RecAt.below h (Below.refl _ _) hB
  have cv := Lib.hid (Validate_ok A c _ l _ (Nat.le_refl _) (RecAt.below hI hw0 hw0.size) (by omega) hok)
  have cc := Lib.hid (fun W (hW : Below w.heap.size w W) => Clone_any A c w.heap.size l W hW.size (RecAt.below hI hW (Nat.le_refl _)) (by omega))
  have Hw := Lib.hid hw0
  have HK := Lib.hid (Blk.new w 24 #[.int .i64 f.a, .int .i64 f.c, .int .i64 f.f, .int .i64 f.t, .int .i64 f.m])
  obtain ⟨i0, hi, hz0, hz1, hz2⟩ := info_parts info24
  clear h hw0 hI
  go_enter Try.func6, Try.ntmps6
  go_wp2_with (go_at_call 17; refine cv.out.mono ?_; rintro e w1 ⟨rfl, hb1⟩)
  have hbw := Hw.out.trans (hb1.mono Hw.out.size)
  have HK1 := HK.out.below hb1 (by simp)
  obtain ⟨k0, k1, k2, k3, k4, _⟩ := blk5 HK1
  have HZ := Lib.hid (And.intro k0 (And.intro k1 (And.intro k2 (And.intro k3 k4))))
  have hlt : w.heap.size < w1.heap.size := HK1.lt
  have tok := Lib.hid (Nat.le_refl 0)
  clear HK1
  go_region_held3 (fun W => W.cell? ⟨w.heap.size, 0, none⟩ = some (.int .i64 f.a) ∧ W.cell? ⟨w.heap.size, 1, none⟩ = some (.int .i64 f.c) ∧ W.cell? ⟨w.heap.size, 2, none⟩ = some (.int .i64 f.f) ∧ W.cell? ⟨w.heap.size, 3, none⟩ = some (.int .i64 f.t) ∧ W.cell? ⟨w.heap.size, 4, none⟩ = some (.int .i64 f.m) ∧ Below w1.heap.size w1 W)
    ((refine keep5 hlt HZ.out ?_; repeat (first | exact Below.refl _ _ | assumption | refine Below.drew ?_ | refine balloc ?_ _)))
    (first
      | (go_at_call 18; have tk := tok; clear tok; refine (cc.out _ (hbw.trans (Below.mono (by repeat (first | exact Below.refl _ _ | assumption | refine Below.drew ?_ | refine balloc ?_ _)) hbw.size))).mono ?_; rintro e w5 ⟨A5, c5, rfl, hown5', hd⟩; have tok2 := tk; have hb5 : Below w1.heap.size w1 w5 := Below.trans (by repeat (first | exact Below.refl _ _ | assumption | refine Below.drew ?_ | refine balloc ?_ _)) (hd.mono (Below.size (w := w1) (B := w1.heap.size) (by repeat (first | exact Below.refl _ _ | assumption | refine Below.drew ?_ | refine balloc ?_ _)))); have hown5 : w5.ownsRow w1.heap.size 24 5 (.slice A5 l.length c5) l.length (flatG cF l) := own_base hown5' (Below.size (w := w1) (B := w1.heap.size) (by repeat (first | exact Below.refl _ _ | assumption | refine Below.drew ?_ | refine balloc ?_ _))))
      | (have tk2 := tok2; clear tok2; refine step_app' _ (by rfl) (.tmp 15) (.tmp 17) 22 (by rfl) w1.heap.size 24 i0 _ 5 40 Try.underlying22 hi hz0 hz1 hz2 (by rfl) (by decide) (.slice A5 l.length c5) l.length (flatG cF l) (by rfl) (by repeat (first | assumption | refine World.ownsRow.drew ?_ | refine World.ownsRow.alloc ?_ _))
          _ 1 1 (cF f) (by rfl) (by rfl) (by simp)
          (news_blk (t := 24) (cs := #[.int .i64 f.a, .int .i64 f.c, .int .i64 f.f, .int .i64 f.t, .int .i64 f.m]) (by repeat (first | with_reducible exact blk_new' (by simp) | with_reducible refine Blk.drew ?_ | with_reducible refine Blk.alloc ?_ _ | with_reducible refine Blk.below ?_ hd (by simp))))
          (by simp [cF, Value.oneCell']) (by omega) (by decide) (Below.size (w := w1) (B := w1.heap.size) (by repeat (first | exact Below.refl _ _ | assumption | refine Below.drew ?_ | refine balloc ?_ _))) (l.length + 1) (by omega) (flatG cF (l ++ [f])) (by rw [flatG_append]; simp [flatG]) ?_; intro A6 c6 w6 hown6 hg6 hlow6; have hb6 : Below w1.heap.size w1 w6 := bgrown (by repeat (first | exact Below.refl _ _ | assumption | refine Below.drew ?_ | refine balloc ?_ _)) hg6 hlow6))
  all_goals
    have hcap := own_cap hown6
    have hF : FactsAt w6.heap.size w6 A6 (l ++ [f]) := RecAt.of_own (c := c6) (base := w1.heap.size) (e := 24) cF_length (by rw [List.length_append]; exact hown6)
    have hbw6 := hbw.trans (hb6.mono hbw.size)
    have HF := Lib.hid (And.intro hF hcap)
    clear hF hcap
    by_cases hok2 : Ok (l ++ [f])
    · have cv2 := Lib.hid (Validate_ok A6 c6 _ (l ++ [f]) w6 (Nat.le_refl _) HF.out.1 (by simp; omega) hok2)
      have Hok := Lib.hid hok2
      rw [List.length_append] at cv2
      go_wp2_with (go_at_call 17; refine cv2.out.mono ?_; rintro e w7 ⟨rfl, hb7⟩)
      go_ret2
      exact ⟨_, 0, rfl, .inr ⟨rfl, Hok.out, A6, c6, rfl, RecAt.below HF.out.1 hb7 hb7.size, HF.out.2⟩, hbw6.trans (hb7.mono hbw6.size)⟩
    · have Hok2 := Lib.hid hok2
      have cv2 := Lib.hid (Validate_bad A6 c6 _ (l ++ [f]) w6 (Nat.le_refl _) HF.out.1 (by simp; omega) hok2)
      rw [List.length_append] at cv2
      go_wp2_with (go_at_call 17; refine cv2.out.mono ?_; rintro e w7 ⟨z, rfl, ⟨hy1, hy2⟩, hb7⟩)
      go_ret2
      exact ⟨_, z, rfl, .inl ⟨⟨hy1, hy2⟩, rfl, Hok2.out⟩, hbw6.trans (hb7.mono hbw6.size)⟩
theorem Add_good (A : Option Addr) (c B : Nat) (l : List Fc) (f : Fc) (w : World) (hB : B ≤ w.heap.size) (h : FactsAt B w A l) (hok : Ok l) (hok2 : Ok (l ++ [f])) :
    Calls Try.prog 6 #[.slice A l.length c, .agg #[.int .i64 f.a, .int .i64 f.c, .int .i64 f.f, .int .i64 f.t, .int .i64 f.m]] w fun e w' => ∃ A' c', e = .returned (.tuple #[.slice A' (l ++ [f]).length c', .int .i64 0]) ∧ FactsAt w'.heap.size w' A' (l ++ [f]) ∧ (l ++ [f]).length ≤ c' ∧ c' ≤ maxLen ∧ Below w.heap.size w w' := by
  refine (Add_any A c B l f w hB h hok).mono ?_
  rintro e w' ⟨v, z, rfl, h1 | ⟨rfl, _, A', c', rfl, h2, h3, h4⟩, hb⟩
  · exact absurd hok2 h1.2.2
  · exact ⟨A', c', by rw [List.length_append]; rfl, h2, by rw [List.length_append]; exact h3, h4, hb⟩
theorem Add_none (A : Option Addr) (c B : Nat) (l : List Fc) (f : Fc) (w : World) (hB : B ≤ w.heap.size) (h : FactsAt B w A l) (hok : Ok l) (hok2 : ¬ Ok (l ++ [f])) :
    Calls Try.prog 6 #[.slice A l.length c, .agg #[.int .i64 f.a, .int .i64 f.c, .int .i64 f.f, .int .i64 f.t, .int .i64 f.m]] w fun e w' => ∃ z, e = .returned (.tuple #[.slice none 0 0, .int .i64 z]) ∧ ((z == 0) = false ∧ (z != 0) = true) ∧ Below w.heap.size w w' := by
  refine (Add_any A c B l f w hB h hok).mono ?_
  rintro e w' ⟨v, z, rfl, h1 | ⟨rfl, h2, _⟩, hb⟩
  · obtain ⟨h1, rfl, _⟩ := h1
    exact ⟨z, rfl, h1, hb⟩
  · exact absurd h2 hok2
end Go.Proofs.Ytefojeaoechgoaa
