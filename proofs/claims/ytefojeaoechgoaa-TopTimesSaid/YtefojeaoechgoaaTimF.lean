/- The closures, and spans. -/
import Derived.Test.YtefojeaoechgoaaTimE
import Derived.Test.YtefojeaoechgoaaPlain2
import Derived.Laws.OwnMore
namespace Go.Proofs.Ytefojeaoechgoaa
open Go.RowKit

theorem own_below {w w1 : World} {base e size n : Nat} {v : Value} {xs : List Value} (h : w.ownsRow base e size v n xs) (hb : Below w.heap.size w w1) : w1.ownsRow base e size v n xs := by
  refine ⟨h.1, ?_⟩
  rcases h.2 with hn | ⟨g, cap, cur, hv, hbg, hh, rest⟩
  · exact .inl hn
  · refine .inr ⟨g, cap, cur, hv, hbg, ?_, rest⟩
    have hlt : g < w.heap.size := (Array.getElem?_eq_some_iff.1 hh).1
    rw [hb.block g hlt]; exact hh
set_option maxHeartbeats 1000000 in
theorem want28 (g0 gc : Nat) (fn : Nat → Int) (w : World) (hD : DB g0 fn w) (hc : w.cell? ⟨gc, 0, none⟩ = some (.slice (some ⟨g0, 0, none⟩) 1000 1000)) (d : Nat) (hd : d < 1000) :
    Calls Try.prog 28 #[.int .i64 d, .pointer (some ⟨gc, 0, none⟩)] w fun e w' => e = .returned (.bool (decide (0 < fn d))) ∧ w = w' := by
  have q0 := hD.cell hd
  generalize fn d = z at q0 ⊢
  clear hD
  go_enter Try.func28, Try.ntmps28
  go_wp2
  go_ret
  exact ⟨rfl, rfl⟩
set_option maxHeartbeats 1000000 in
theorem want23 (g0 g1 gc gd : Nat) (fn fn' : Nat → Int) (w : World) (hD : DB g0 fn w) (hD' : DB g1 fn' w) (hc : w.cell? ⟨gc, 0, none⟩ = some (.slice (some ⟨g0, 0, none⟩) 1000 1000)) (hc' : w.cell? ⟨gd, 0, none⟩ = some (.slice (some ⟨g1, 0, none⟩) 1000 1000)) (d : Nat) (hd : d < 1000) :
    Calls Try.prog 23 #[.int .i64 d, .pointer (some ⟨gc, 0, none⟩), .pointer (some ⟨gd, 0, none⟩)] w fun e w' => e = .returned (.bool (fn d != fn' d)) ∧ Below w.heap.size w w' := by
  have q0 := hD.cell hd
  have q1 := hD'.cell hd
  generalize fn d = z at q0 ⊢
  generalize fn' d = z' at q1 ⊢
  clear hD hD'
  go_enter Try.func23, Try.ntmps23
  go_wp2_with fail
  go_quiet (fail)
  go_wp2_with fail
  go_ret
  exact ⟨rfl, below_drewN (Below.refl _ _) _⟩

theorem info41 : (Try.prog.info? 41).map (fun i => (i.zero, i.size, i.bytes)) = some (some (.agg #[.int .i64 0, .int .i64 0, .int .i64 0]), 3, 24) := by kernel_rfl
theorem own_lo {w : World} {base e s n c : Nat} {A : Option Addr} {xs : List Value} (h : w.ownsRow base e s (.slice A n c) n xs) : ∀ a, A = some a → base ≤ a.block ∧ a.block < w.heap.size := by
  intro a ha
  subst ha
  exact h.lt a.block rfl
theorem own_some {w : World} {base e s n c : Nat} {A : Option Addr} {xs : List Value} (h : w.ownsRow base e s (.slice A n c) n xs) (hn : 0 < n) : ∃ g, A = some ⟨g, 0, none⟩ ∧ base ≤ g ∧ g < w.heap.size := by
  rcases h.2 with ⟨e1, e2⟩ | ⟨g, cap, cur, e1, hb, _⟩
  · omega
  · injection e1 with e1 e3 e4
    subst e1 e4
    exact ⟨g, rfl, hb, (h.lt g rfl).2⟩
theorem set_snoc (l : List Sp) (s : Sp) : (flatG cS (l ++ [s])).set (l.length * 3 + 1) (.int .i64 (s.t + 1)) = flatG cS (l ++ [⟨s.f, s.t + 1, s.m⟩]) := by
  have h1 := flatG_length cS_length l
  rw [flatG_append, flatG_append, List.set_append, if_neg (by omega), h1]
  congr 1
  rw [show l.length * 3 + 1 - l.length * 3 = 1 by omega]
  rfl
theorem last_cells (l : List Sp) (s : Sp) : (flatG cS (l ++ [s]))[l.length * 3]? = some (.int .i64 s.f) ∧ (flatG cS (l ++ [s]))[l.length * 3 + 1]? = some (.int .i64 s.t) ∧ (flatG cS (l ++ [s]))[l.length * 3 + 2]? = some (.int .i64 s.m) := by
  have h1 := flatG_get cS_length (l ++ [s]) l.length 0 (by simp) (by omega)
  have h2 := flatG_get cS_length (l ++ [s]) l.length 1 (by simp) (by omega)
  have h3 := flatG_get cS_length (l ++ [s]) l.length 2 (by simp) (by omega)
  simp only [Nat.add_zero] at h1
  refine ⟨h1.trans ?_, h2.trans ?_, h3.trans ?_⟩ <;> simp [cS]

set_option maxRecDepth 100000 in
set_option maxHeartbeats 1000000 in
theorem spans28 (g0 gc : Nat) (fn : Nat → Int) (want : Nat → Bool) (w : World) (hD : DB g0 fn w)
    (hC : ∀ (d : Nat) (W : World), d < 1000 → Below w.heap.size w W → Calls Try.prog 28 #[.int .i64 d, .pointer (some ⟨gc, 0, none⟩)] W fun e w' => e = .returned (.bool (want d)) ∧ Below W.heap.size W w') :
    Calls Try.prog 22 #[.slice (some ⟨g0, 0, none⟩) 1000 1000, .func (.func 28) #[] #[.pointer (some ⟨gc, 0, none⟩)]] w fun e w' => ∃ A c, e = .returned (.slice A (spanS want fn 1000).length c) ∧ SpansAt w'.heap.size w' A (spanS want fn 1000) ∧ (∀ a, A = some a → w.heap.size ≤ a.block ∧ a.block < w'.heap.size) ∧ Below w.heap.size w w' := by
  have HC := Lib.hid hC
  have H0 := Lib.hid hD
  obtain ⟨i0, hi, hz0, hz1, hz2⟩ := info_parts info41
  clear hC hD
  go_enter Try.func22, Try.ntmps22
  go_wp2_with fail
  go_loopw [5, 11] (fun out i wr => ∃ k : Nat, k ≤ 1000 ∧ i = .int .i64 k ∧ wr.ownsRow w.heap.size 41 3 out (spanS want fn k).length (flatG cS (spanS want fn k)) ∧ Below w.heap.size w wr) (fun _ i _ => 1000 - (intOf i).toNat)
  case atStart => exact ⟨0, Nat.zero_le _, rfl, World.ownsRow_nil _ _ _ _, Below.refl _ _⟩
  case round =>
    obtain ⟨k, hk, rfl, hown, hb⟩ := hrel
    have hlen := spanS_length want fn k
    by_cases hlt : k < 1000
    · have d0 := (hb.cell (p := ⟨g0, k, none⟩) H0.out.lt).trans (H0.out.cell hlt)
      have cc := Lib.hid (HC.out k wr hlt hb)
      have HO := Lib.hid hown
      cases hw : want k with
      | false =>
        rw [hw] at cc
        have Hs := Lib.hid (show spanS want fn (k + 1) = spanS want fn k by simp [spanS, hw])
        clear hw hown
        go_wp2_with (go_at_call 28; refine cc.out.mono ?_; rintro e w1 ⟨rfl, hb1⟩)
        go_roundw
        case rel => exact ⟨k + 1, by omega, by go_num, by rw [Hs.out]; exact own_below HO.out hb1, hb.trans (hb1.mono hb.size)⟩
        case measure => simp [intOf]; omega
      | true =>
        rw [hw] at cc
        have Hs := Lib.hid (show spanS want fn (k + 1) = pushS (spanS want fn k) k (fn k) by simp [spanS, hw])
        clear hw hown
        rcases List.eq_nil_or_concat (spanS want fn k) with he | ⟨o, s, he⟩
        · rw [he] at HO Hs
          rw [pushS_nil] at Hs
          obtain ⟨A5, c5, rfl⟩ := own_form HO.out
          generalize fn k = mm at d0 Hs
          have HE := Lib.hid he
          clear he hlen
          simp only [List.length_nil] at HO
          go_wp2_with (first | (go_at_call 28; refine cc.out.mono ?_; rintro e w1 ⟨rfl, hb1⟩; have HO1 := Lib.hid (own_below HO.out hb1); have HB1 := Lib.hid (hb.trans (hb1.mono hb.size))) | (at_builtin; refine wpList_append_own _ rfl _ _ 34 rfl w.heap.size 41 i0 _ 3 24 Try.underlying34 hi hz0 hz1 hz2 rfl (by decide) _ _ _ rfl (HO1.out.alloc _) ⟨w1.heap.size, 0, none⟩ 1 1 _ rfl rfl (cells_new _ _ _) (by simp [Value.oneCell']) (by simp only [maxLen]; omega) (by omega) (HB1.out.alloc HB1.out.size _).size ?_; intro v' w2 hown2 hg2 _))
          have hb2 : Below w.heap.size w w2 := (HB1.out.alloc HB1.out.size _).grown hg2 (HB1.out.alloc HB1.out.size _).size (fun j hj => (HO1.out.lt j hj).1)
          go_roundw
          case rel => exact ⟨k + 1, by omega, by go_num, by rw [Hs.out]; exact hown2, hb2⟩
          case measure => simp [intOf]; omega
        · rw [List.concat_eq_append] at he
          obtain ⟨sf, st, sm⟩ := s
          rw [he] at HO Hs hlen
          have HE := Lib.hid he
          have e1 : (o ++ [(⟨sf, st, sm⟩ : Sp)]).length = o.length + 1 := by simp
          rw [e1] at HO hlen
          clear he e1
          obtain ⟨A5, c5, rfl⟩ := own_form HO.out
          obtain ⟨g5, rfl, hg5, hg6⟩ := own_some HO.out (by omega)
          obtain ⟨k0, k1, k2⟩ := last_cells o ⟨sf, st, sm⟩
          have HL := Lib.hid (And.intro k0 (And.intro k1 k2))
          clear k0 k1 k2
          generalize fn k = mm at d0 Hs
          by_cases h1 : st = (k : Int) ∧ sm = mm
          · obtain ⟨rfl, rfl⟩ := h1
            rw [pushS_same rfl rfl] at Hs
            go_wp2_with (go_at_call 28; refine cc.out.mono ?_; rintro e w1 ⟨rfl, hb1⟩; have HO1 := Lib.hid (own_below HO.out hb1); have HB1 := Lib.hid (hb.trans (hb1.mono hb.size)); have z1 := (HO1.out.cellAt (o.length * 3 + 1) (by omega)).trans HL.out.2.1; have z2 := (HO1.out.cellAt (o.length * 3 + 2) (by omega)).trans HL.out.2.2; have z3 := HO1.out.frozenAt (o.length * 3 + 1))
            have hst := HO1.out.stored (o.length * 3 + 1) (.int .i64 ((k : Int) + 1))
            have hlen2 : (o ++ [(⟨sf, (k : Int) + 1, sm⟩ : Sp)]).length = o.length + 1 := by simp
            go_roundw
            case rel => exact ⟨k + 1, by omega, by go_num, by rw [Hs.out, hlen2, ← set_snoc o ⟨sf, k, sm⟩]; exact hst.1, HB1.out.grown hst.2 HB1.out.size (fun j hj => by injection hj with hj; subst hj; exact hg5)⟩
            case measure => simp [intOf]; omega
          · rw [pushS_other h1] at Hs
            have hlen2 : (o ++ [(⟨sf, st, sm⟩ : Sp)] ++ [(⟨k, k + 1, mm⟩ : Sp)]).length = o.length + 1 + 1 := by simp
            have h1' : (st == (k : Int)) = false ∨ ((st == (k : Int)) = true ∧ (sm == mm) = false) := by
              by_cases h2 : st = (k : Int)
              · refine .inr ⟨by simpa using h2, ?_⟩
                rw [beq_eq_false_iff_ne]
                exact fun h3 => h1 ⟨h2, h3⟩
              · exact .inl (by simpa using h2)
            have H2 := Lib.hid hlen2
            clear h1 hlen2
            rcases h1' with h2 | ⟨h2, h3⟩
            all_goals
              go_wp2_with (first | (go_at_call 28; refine cc.out.mono ?_; rintro e w1 ⟨rfl, hb1⟩; have HO1 := Lib.hid (own_below HO.out hb1); have HB1 := Lib.hid (hb.trans (hb1.mono hb.size)); have z1 := (HO1.out.cellAt (o.length * 3 + 1) (by omega)).trans HL.out.2.1; have z2 := (HO1.out.cellAt (o.length * 3 + 2) (by omega)).trans HL.out.2.2) | (at_builtin; refine wpList_append_own _ rfl _ _ 34 rfl w.heap.size 41 i0 _ 3 24 Try.underlying34 hi hz0 hz1 hz2 rfl (by decide) _ _ _ rfl (HO1.out.alloc _) ⟨w1.heap.size, 0, none⟩ 1 1 _ rfl rfl (cells_new _ _ _) (by simp [Value.oneCell']) (by simp only [maxLen]; omega) (by omega) (HB1.out.alloc HB1.out.size _).size ?_; intro v' w2 hown2 hg2 _))
              have hb2 : Below w.heap.size w w2 := (HB1.out.alloc HB1.out.size _).grown hg2 (HB1.out.alloc HB1.out.size _).size (fun j hj => (HO1.out.lt j hj).1)
              go_roundw
              case rel => exact ⟨k + 1, by omega, by go_num, by rw [Hs.out]; rw [H2.out, flatG_append]; exact hown2, hb2⟩
              case measure => simp [intOf]; omega
    · obtain rfl : k = 1000 := by omega
      obtain ⟨A5, c5, rfl⟩ := own_form hown
      go_wp2_with fail
      go_ret
      exact ⟨A5, c5, rfl, RecAt.of_own cS_length hown, own_lo hown, hb⟩

set_option maxRecDepth 100000 in
set_option maxHeartbeats 1000000 in
theorem spans23 (g0 gc gd : Nat) (fn : Nat → Int) (want : Nat → Bool) (w : World) (hD : DB g0 fn w)
    (hC : ∀ (d : Nat) (W : World), d < 1000 → Below w.heap.size w W → Calls Try.prog 23 #[.int .i64 d, .pointer (some ⟨gc, 0, none⟩), .pointer (some ⟨gd, 0, none⟩)] W fun e w' => e = .returned (.bool (want d)) ∧ Below W.heap.size W w') :
    Calls Try.prog 22 #[.slice (some ⟨g0, 0, none⟩) 1000 1000, .func (.func 23) #[] #[.pointer (some ⟨gc, 0, none⟩), .pointer (some ⟨gd, 0, none⟩)]] w fun e w' => ∃ A c, e = .returned (.slice A (spanS want fn 1000).length c) ∧ SpansAt w'.heap.size w' A (spanS want fn 1000) ∧ (∀ a, A = some a → w.heap.size ≤ a.block ∧ a.block < w'.heap.size) ∧ Below w.heap.size w w' := by
  have HC := Lib.hid hC
  have H0 := Lib.hid hD
  obtain ⟨i0, hi, hz0, hz1, hz2⟩ := info_parts info41
  clear hC hD
  go_enter Try.func22, Try.ntmps22
  go_wp2_with fail
  go_loopw [5, 11] (fun out i wr => ∃ k : Nat, k ≤ 1000 ∧ i = .int .i64 k ∧ wr.ownsRow w.heap.size 41 3 out (spanS want fn k).length (flatG cS (spanS want fn k)) ∧ Below w.heap.size w wr) (fun _ i _ => 1000 - (intOf i).toNat)
  case atStart => exact ⟨0, Nat.zero_le _, rfl, World.ownsRow_nil _ _ _ _, Below.refl _ _⟩
  case round =>
    obtain ⟨k, hk, rfl, hown, hb⟩ := hrel
    have hlen := spanS_length want fn k
    by_cases hlt : k < 1000
    · have d0 := (hb.cell (p := ⟨g0, k, none⟩) H0.out.lt).trans (H0.out.cell hlt)
      have cc := Lib.hid (HC.out k wr hlt hb)
      have HO := Lib.hid hown
      cases hw : want k with
      | false =>
        rw [hw] at cc
        have Hs := Lib.hid (show spanS want fn (k + 1) = spanS want fn k by simp [spanS, hw])
        clear hw hown
        go_wp2_with (go_at_call 23; refine cc.out.mono ?_; rintro e w1 ⟨rfl, hb1⟩)
        go_roundw
        case rel => exact ⟨k + 1, by omega, by go_num, by rw [Hs.out]; exact own_below HO.out hb1, hb.trans (hb1.mono hb.size)⟩
        case measure => simp [intOf]; omega
      | true =>
        rw [hw] at cc
        have Hs := Lib.hid (show spanS want fn (k + 1) = pushS (spanS want fn k) k (fn k) by simp [spanS, hw])
        clear hw hown
        rcases List.eq_nil_or_concat (spanS want fn k) with he | ⟨o, s, he⟩
        · rw [he] at HO Hs
          rw [pushS_nil] at Hs
          obtain ⟨A5, c5, rfl⟩ := own_form HO.out
          generalize fn k = mm at d0 Hs
          have HE := Lib.hid he
          clear he hlen
          simp only [List.length_nil] at HO
          go_wp2_with (first | (go_at_call 23; refine cc.out.mono ?_; rintro e w1 ⟨rfl, hb1⟩; have HO1 := Lib.hid (own_below HO.out hb1); have HB1 := Lib.hid (hb.trans (hb1.mono hb.size))) | (at_builtin; refine wpList_append_own _ rfl _ _ 34 rfl w.heap.size 41 i0 _ 3 24 Try.underlying34 hi hz0 hz1 hz2 rfl (by decide) _ _ _ rfl (HO1.out.alloc _) ⟨w1.heap.size, 0, none⟩ 1 1 _ rfl rfl (cells_new _ _ _) (by simp [Value.oneCell']) (by simp only [maxLen]; omega) (by omega) (HB1.out.alloc HB1.out.size _).size ?_; intro v' w2 hown2 hg2 _))
          have hb2 : Below w.heap.size w w2 := (HB1.out.alloc HB1.out.size _).grown hg2 (HB1.out.alloc HB1.out.size _).size (fun j hj => (HO1.out.lt j hj).1)
          go_roundw
          case rel => exact ⟨k + 1, by omega, by go_num, by rw [Hs.out]; exact hown2, hb2⟩
          case measure => simp [intOf]; omega
        · rw [List.concat_eq_append] at he
          obtain ⟨sf, st, sm⟩ := s
          rw [he] at HO Hs hlen
          have HE := Lib.hid he
          have e1 : (o ++ [(⟨sf, st, sm⟩ : Sp)]).length = o.length + 1 := by simp
          rw [e1] at HO hlen
          clear he e1
          obtain ⟨A5, c5, rfl⟩ := own_form HO.out
          obtain ⟨g5, rfl, hg5, hg6⟩ := own_some HO.out (by omega)
          obtain ⟨k0, k1, k2⟩ := last_cells o ⟨sf, st, sm⟩
          have HL := Lib.hid (And.intro k0 (And.intro k1 k2))
          clear k0 k1 k2
          generalize fn k = mm at d0 Hs
          by_cases h1 : st = (k : Int) ∧ sm = mm
          · obtain ⟨rfl, rfl⟩ := h1
            rw [pushS_same rfl rfl] at Hs
            go_wp2_with (go_at_call 23; refine cc.out.mono ?_; rintro e w1 ⟨rfl, hb1⟩; have HO1 := Lib.hid (own_below HO.out hb1); have HB1 := Lib.hid (hb.trans (hb1.mono hb.size)); have z1 := (HO1.out.cellAt (o.length * 3 + 1) (by omega)).trans HL.out.2.1; have z2 := (HO1.out.cellAt (o.length * 3 + 2) (by omega)).trans HL.out.2.2; have z3 := HO1.out.frozenAt (o.length * 3 + 1))
            have hst := HO1.out.stored (o.length * 3 + 1) (.int .i64 ((k : Int) + 1))
            have hlen2 : (o ++ [(⟨sf, (k : Int) + 1, sm⟩ : Sp)]).length = o.length + 1 := by simp
            go_roundw
            case rel => exact ⟨k + 1, by omega, by go_num, by rw [Hs.out, hlen2, ← set_snoc o ⟨sf, k, sm⟩]; exact hst.1, HB1.out.grown hst.2 HB1.out.size (fun j hj => by injection hj with hj; subst hj; exact hg5)⟩
            case measure => simp [intOf]; omega
          · rw [pushS_other h1] at Hs
            have hlen2 : (o ++ [(⟨sf, st, sm⟩ : Sp)] ++ [(⟨k, k + 1, mm⟩ : Sp)]).length = o.length + 1 + 1 := by simp
            have h1' : (st == (k : Int)) = false ∨ ((st == (k : Int)) = true ∧ (sm == mm) = false) := by
              by_cases h2 : st = (k : Int)
              · refine .inr ⟨by simpa using h2, ?_⟩
                rw [beq_eq_false_iff_ne]
                exact fun h3 => h1 ⟨h2, h3⟩
              · exact .inl (by simpa using h2)
            have H2 := Lib.hid hlen2
            clear h1 hlen2
            rcases h1' with h2 | ⟨h2, h3⟩
            all_goals
              go_wp2_with (first | (go_at_call 23; refine cc.out.mono ?_; rintro e w1 ⟨rfl, hb1⟩; have HO1 := Lib.hid (own_below HO.out hb1); have HB1 := Lib.hid (hb.trans (hb1.mono hb.size)); have z1 := (HO1.out.cellAt (o.length * 3 + 1) (by omega)).trans HL.out.2.1; have z2 := (HO1.out.cellAt (o.length * 3 + 2) (by omega)).trans HL.out.2.2) | (at_builtin; refine wpList_append_own _ rfl _ _ 34 rfl w.heap.size 41 i0 _ 3 24 Try.underlying34 hi hz0 hz1 hz2 rfl (by decide) _ _ _ rfl (HO1.out.alloc _) ⟨w1.heap.size, 0, none⟩ 1 1 _ rfl rfl (cells_new _ _ _) (by simp [Value.oneCell']) (by simp only [maxLen]; omega) (by omega) (HB1.out.alloc HB1.out.size _).size ?_; intro v' w2 hown2 hg2 _))
              have hb2 : Below w.heap.size w w2 := (HB1.out.alloc HB1.out.size _).grown hg2 (HB1.out.alloc HB1.out.size _).size (fun j hj => (HO1.out.lt j hj).1)
              go_roundw
              case rel => exact ⟨k + 1, by omega, by go_num, by rw [Hs.out]; rw [H2.out, flatG_append]; exact hown2, hb2⟩
              case measure => simp [intOf]; omega
    · obtain rfl : k = 1000 := by omega
      obtain ⟨A5, c5, rfl⟩ := own_form hown
      go_wp2_with fail
      go_ret
      exact ⟨A5, c5, rfl, RecAt.of_own cS_length hown, own_lo hown, hb⟩
end Go.Proofs.Ytefojeaoechgoaa
