/- All orders. -/
import Derived.Test.YtoegemlpboeodaaLists
import Derived.Test.YtoegemlpboeodaaPlain11
import Derived.Deep.RegionHeld3
namespace Go.Proofs.Ytoegemlpboeodaa
open Go.RowKit

theorem info34 : (Try.prog.info? 34).map (fun i => (i.zero, i.size, i.bytes)) = some (some (.slice none 0 0), 1, 24) := by kernel_rfl

theorem LstN.own {g : Option Nat} {w : World} {vs : List Value} {os : List (List Int)} {base e c n : Nat} {A : Option Addr} {o : List Int} (h : LstN g w vs os) (hn : o.length = n) (hown : w.ownsRow base e 1 (.slice A n c) n (o.map (Value.int .i64))) (hg : ∀ k, g = some k → k < base) :
    LstN g w (vs ++ [.slice A n c]) (os ++ [o]) := by
  subst hn
  obtain ⟨h1, h2, h3⟩ := own_caps hown
  refine h.snoc (IntsAt.of_own hown) (fun a ha => ?_) h1 h2
  obtain ⟨h4, h5, h6⟩ := h3 a ha
  exact ⟨h5, fun he => by have := hg _ he.symm; omega, h6⟩
theorem keep1 {w1 : World} {p : Addr} {x : Value} (hp : p.block < w1.heap.size) (z0 : w1.cell? p = some x) {W : World} (h : Below w1.heap.size w1 W) : W.cell? p = some x ∧ Below w1.heap.size w1 W := ⟨(h.cell hp).trans z0, h⟩
theorem insA_map (o : List Int) (k : Int) (a : Nat) : (o.take a).map (Value.int .i64) ++ [.int .i64 k] ++ (o.drop a).map (Value.int .i64) = (insA o k a).map (Value.int .i64) := by simp [insA]
theorem IntsAt.dropD {B c a : Nat} {w : World} {A : Option Addr} {l : List Int} (h : IntsAt B w A l) (hc : l.length ≤ c) : IntsAt B w (if c = a then A else Option.map (fun x => x.add a) A) (l.drop a) := by
  by_cases hca : c = a
  · rw [if_pos hca]
    have : l.drop a = [] := by apply List.eq_nil_of_length_eq_zero; simp; omega
    rw [this]; exact IntsAt.nil _ _ _
  · rw [if_neg hca]
    by_cases h0 : 0 < l.length
    · obtain ⟨b, off, rfl, _⟩ := h.at h0
      have := h.drop a
      simpa [Addr.add_lit] using this
    · have : l.drop a = [] := by apply List.eq_nil_of_length_eq_zero; simp; omega
      rw [this]; exact IntsAt.nil _ _ _
theorem lst_step {W w7 wr : World} {g g' : Option Nat} {us : List Value} {os : List (List Int)} {A : Option Addr} {c m a e : Nat} {o : List Int} (hg : W.grownBy w7 g) (hat : ∀ k, g' = some k → g = some k ∨ k = W.heap.size) (hW : Below wr.heap.size wr W)
    (hown : W.ownsRow wr.heap.size e 1 (.slice A (m + 1) c) (m + 1) ((insA o m a).map (Value.int .i64))) (hL : LstN g wr us os) (hlt : ∀ k, g = some k → k < wr.heap.size) (ho : o.length = m) :
    LstN g' w7 (us ++ [.slice A (m + 1) c]) (os ++ [insA o m a]) :=
  LstN.grown (LstN.own (hL.below hW) (by rw [insA_length, ho]) hown hlt) hg hat
theorem own_cell {w : World} {base e n c : Nat} {A : Option Addr} {xs : List Value} (h : w.ownsRow base e 1 (.slice A n c) n xs) {k : Nat} (hk : k < n) {u : Value} (hu : xs[k]? = some u) :
    ∃ g, A = some ⟨g, 0, none⟩ ∧ g < w.heap.size ∧ base ≤ g ∧ w.cell? ⟨g, k, none⟩ = some u := by
  rcases h.2 with ⟨e1, e2⟩ | ⟨g, cap, cur, e1, hb, _⟩
  · omega
  · injection e1 with e1 e3 e4
    subst e1 e4
    have := h.cells (g := g) rfl k u hu
    rw [Addr.add_lit, Nat.zero_add] at this
    exact ⟨g, rfl, (h.lt g rfl).2, hb, this⟩

set_option maxRecDepth 100000 in
set_option maxHeartbeats 1000000 in
theorem Orders_ref (n : Nat) (hn : n ≤ 7) (w : World) :
    Calls Try.prog 69 #[.int .i64 n] w fun e w' => ∃ v vs, e = .returned v ∧ w'.ownsRow w.heap.size 34 1 v (ordS n).length vs ∧ LstN none w' vs (ordS n) ∧ Below w.heap.size w w' := by
  obtain ⟨i0, hi, hz0, hz1, hz2⟩ := info_parts info34
  obtain ⟨j0, hj, hy0, hy1, hy2⟩ := info_parts info3
  go_enter Try.func69, Try.ntmps69
  go_wp2_with fail
  have B0 : Below w.heap.size w (w.alloc (.cells #[.slice none 0 0] 34)) := (Below.refl _ _).alloc (Nat.le_refl _) _
  go_loopw [3, 4] (fun out k wr => ∃ (m : Nat) (vs : List Value), m ≤ n ∧ k = .int .i64 m ∧ wr.ownsRow w.heap.size 34 1 out (ordS m).length vs ∧ LstN none wr vs (ordS m) ∧ Below w.heap.size w wr) (fun _ k _ => n - (intOf k).toNat)
  case atStart =>
    refine ⟨0, [.slice none 0 0], Nat.zero_le _, rfl, World.ownsRow_lit w #[.slice none 0 0] 1 (Nat.le_refl _) (by decide) rfl, ⟨rfl, fun i h => ?_⟩, B0⟩
    obtain rfl : i = 0 := by simpa [ordS] using h
    exact ⟨none, 0, rfl, IntsAt.nil _ _ _, fun a ha => (by cases ha), Nat.zero_le _, Nat.zero_le _⟩
  case round =>
    obtain ⟨m, vs, hm, rfl, hown, hL, hb⟩ := hrel
    obtain ⟨wo, rfl⟩ : ∃ wo : World, wo = wr := ⟨_, rfl⟩
    have hbd := ordS_bd (n := m) (by omega)
    obtain ⟨A0, c0, rfl⟩ := own_form hown
    by_cases hlt : m < n
    · go_wp2_with fail
      go_loopw [5, 6] (fun nx i w2 => ∃ (j : Nat) (us : List Value), j ≤ (ordS m).length ∧ i = .int .i64 j ∧ w2.ownsRow wo.heap.size 34 1 nx (nextTo (ordS m) m j).length us ∧ LstN nx.ownBlock w2 us (nextTo (ordS m) m j) ∧ Below wo.heap.size wo w2) (fun _ i _ => (ordS m).length - (intOf i).toNat)
      case atStart => exact ⟨0, [], Nat.zero_le _, rfl, World.ownsRow_nil _ _ _ _, LstN.nil _ _, Below.refl _ _⟩
      case round =>
        obtain ⟨j, us, hj', rfl, hown2, hL2, hb2⟩ := hrel
        obtain ⟨wi, rfl⟩ : ∃ wi : World, wi = wr := ⟨_, rfl⟩
        by_cases hlt2 : j < (ordS m).length
        · have hln := nextTo_length m j (by omega)
          have hom : (ordS m)[j].length = m := ordS_length (List.getElem_mem hlt2)
          obtain ⟨A1, c1, hv1, hI1, ha1, hc1, hcm1⟩ := hL.2 j hlt2
          rw [hom] at hv1 hc1
          obtain ⟨g0, rfl, hg0, _, hcell⟩ := own_cell hown hlt2 hv1
          have d0 := (hb2.cell (p := ⟨g0, j, none⟩) hg0).trans hcell
          go_wp2_with fail
          go_loopw [5, 7] (fun nx at_ w3 => ∃ (a : Nat) (us : List Value), a ≤ m + 1 ∧ at_ = .int .i64 a ∧ w3.ownsRow wo.heap.size 34 1 nx (nextTo (ordS m) m j ++ insTo (ordS m)[j] m a).length us ∧ LstN nx.ownBlock w3 us (nextTo (ordS m) m j ++ insTo (ordS m)[j] m a) ∧ Below wo.heap.size wo w3) (fun _ i _ => m + 1 - (intOf i).toNat)
          case atStart => exact ⟨0, us, Nat.zero_le _, rfl, by simpa [insTo] using hown2, by simpa [insTo] using hL2, hb2⟩
          case round =>
            obtain ⟨a, us3, ha, rfl, hown3, hL3, hb3⟩ := hrel
            have e0 := (hb3.cell (p := ⟨g0, j, none⟩) hg0).trans hcell
            by_cases hlt3 : a ≤ m
            · have HZ := Lib.hid hcell
              have hac : a ≤ c1 := by omega
              obtain ⟨o, ho⟩ : ∃ o, (ordS m)[j] = o := ⟨_, rfl⟩
              rw [ho] at hI1 hL3 hown3 hom
              have HI := Lib.hid hI1
              have HL3 := Lib.hid hL3
              have HO3 := Lib.hid hown3
              have Ho := Lib.hid (And.intro ho hom)
              have hn3 : (nextTo (ordS m) m j ++ insTo o m a).length ≤ 50000 := by
                rw [List.length_append, hln]; simp only [insTo, List.length_map, List.length_range]
                have := Nat.mul_le_mul (show j ≤ 5040 by omega) (show m + 1 ≤ 8 by omega)
                omega
              have ht : (o.take a).length = a := by simp; omega
              have hd : (o.drop a).length = m - a := by simp; omega
              have Ht := Lib.hid (And.intro ht hd)
              have HT := Lib.hid (IntsAt.take hI1 a)
              obtain ⟨n3, Hn⟩ : ∃ n3, (nextTo (ordS m) m j ++ insTo o m a).length = n3 := ⟨_, rfl⟩
              rw [Hn] at hn3 HO3
              have Hn3 := Lib.hid Hn
              clear Hn
              clear hI1 hL3 hown3 ho hom hcell ht hd
              go_wp2_with fail
              have HD := Lib.hid (IntsAt.dropD (c := c1) (a := a) HI.out (by rw [Ho.out.2]; exact hc1))
              have tok1 := Lib.hid (Nat.le_refl 0)
              go_region_held3 (fun W => W.cell? ⟨g0, j, none⟩ = some (.slice A1 m c1) ∧ Below wo.heap.size wo W)
                ((refine keep1 (p := ⟨g0, j, none⟩) hg0 HZ.out ?_; first | (refine hb3.trans (Below.mono ?_ hb3.size); (repeat (first | exact Below.refl _ _ | assumption | refine Below.drew ?_ | refine balloc ?_ _)); done) | (repeat (first | assumption | refine Below.drew ?_ | refine balloc ?_ _))))
                (first
                  | (have tk := tok1; clear tok1; refine step_app' _ (by rfl) (.tmp 30) (.tmp 36) 34 (by rfl) wr.heap.size 3 j0 _ 1 8 Try.underlying34 hj hy0 hy1 hy2 (by rfl) (by decide) (.slice (some ⟨_, 0, none⟩) 0 0) 0 [] (by rfl)
                      (by repeat (first | with_reducible exact own_new' 1 (by simp) (by first | exact Nat.le_refl _ | simp | omega) | refine World.ownsRow.drew ?_ | refine World.ownsRow.alloc ?_ _))
                      A1 a c1 ((o.take a).map (Value.int .i64)) (by rfl) (by rw [List.length_map, Ht.out.1, Nat.mul_one]) (fun e => by have := HT.out.none_nil e; rw [Ht.out.1] at this; exact this)
                      (IntsAt.news (IntsAt.below HT.out (hb3.trans (Below.mono (by repeat (first | exact Below.refl _ _ | assumption | refine Below.drew ?_ | refine balloc ?_ _)) hb3.size)) (Nat.le_refl _)))
                      (ints_one _) (by omega) (by decide) (Below.size (w := wr) (B := wr.heap.size) (by repeat (first | exact Below.refl _ _ | assumption | refine Below.drew ?_ | refine balloc ?_ _))) a (by omega) ((o.take a).map (Value.int .i64)) (by rfl) ?_; intro A4 c4 w4 hown4 hg4 hlow4; have tok2 := tk; have hb4 : Below wr.heap.size wr w4 := bgrown (by repeat (first | exact Below.refl _ _ | assumption | refine Below.drew ?_ | refine balloc ?_ _)) hg4 hlow4)
                  | (have tk := tok2; clear tok2; refine step_app' _ (by rfl) (.tmp 37) (.tmp 39) 34 (by rfl) wr.heap.size 3 j0 _ 1 8 Try.underlying34 hj hy0 hy1 hy2 (by rfl) (by decide) (.slice A4 a c4) a ((o.take a).map (Value.int .i64)) (by rfl)
                      (by repeat (first | assumption | refine World.ownsRow.drew ?_ | refine World.ownsRow.alloc ?_ _))
                      _ 1 1 [.int .i64 m] (by rfl) (by rfl) (by simp)
                      (news_blk (t := 3) (cs := #[.int .i64 m]) (by repeat (first | with_reducible exact blk_new' (by simp) | with_reducible refine Blk.drew ?_ | with_reducible refine Blk.alloc ?_ _ | with_reducible refine Blk.grown ?_ hg4 (by simp [Value.ownBlock]))))
                      (by simp [Value.oneCell']) (by omega) (by decide) (Below.size (w := wr) (B := wr.heap.size) (by repeat (first | exact Below.refl _ _ | assumption | refine Below.drew ?_ | refine balloc ?_ _))) (a + 1) (by omega) ((o.take a).map (Value.int .i64) ++ [.int .i64 m]) (by rfl) ?_; intro A5 c5 w5 hown5 hg5 hlow5; have tok3 := tk; have hb5 : Below wr.heap.size wr w5 := bgrown (by repeat (first | exact Below.refl _ _ | assumption | refine Below.drew ?_ | refine balloc ?_ _)) hg5 hlow5)
                  | (have tk := tok3; clear tok3; refine step_app' _ (by rfl) (.tmp 40) (.tmp 46) 34 (by rfl) wr.heap.size 3 j0 _ 1 8 Try.underlying34 hj hy0 hy1 hy2 (by rfl) (by decide) (.slice A5 (a + 1) c5) (a + 1) ((o.take a).map (Value.int .i64) ++ [.int .i64 m]) (by rfl)
                      (by repeat (first | assumption | refine World.ownsRow.drew ?_ | refine World.ownsRow.alloc ?_ _))
                      (if c1 = a then A1 else Option.map (fun x => x.add a) A1) (m - a) (c1 - a) ((o.drop a).map (Value.int .i64)) (by rfl) (by rw [List.length_map, Ht.out.2, Nat.mul_one]) (fun e => by have := HD.out.none_nil e; rw [Ht.out.2] at this; exact this)
                      (IntsAt.news (IntsAt.below HD.out (hb3.trans (Below.mono (by repeat (first | exact Below.refl _ _ | assumption | refine Below.drew ?_ | refine balloc ?_ _)) hb3.size)) (Nat.le_refl _)))
                      (ints_one _) (by omega) (by decide) (Below.size (w := wr) (B := wr.heap.size) (by repeat (first | exact Below.refl _ _ | assumption | refine Below.drew ?_ | refine balloc ?_ _))) (m + 1) (by omega) ((insA o m a).map (Value.int .i64)) (insA_map o m a) ?_; intro A6 c6 w6 hown6 hg6 hlow6; have tok4 := tk; have hb6 : Below wr.heap.size wr w6 := bgrown (by repeat (first | exact Below.refl _ _ | assumption | refine Below.drew ?_ | refine balloc ?_ _)) hg6 hlow6)
                  | (have tk := tok4; clear tok4; refine step_app2 _ (by rfl) (.tmp 29) (.tmp 48) 82 (by rfl) wo.heap.size 34 i0 _ 1 24 Try.underlying82 hi hz0 hz1 hz2 (by rfl) (by decide) u5 n3 us3 (by rfl)
                      (own_below HO3.out (by repeat (first | exact Below.refl _ _ | assumption | refine Below.drew ?_ | refine balloc ?_ _)))
                      ⟨_, 0, none⟩ 1 1 [.slice A6 (m + 1) c6] (by rfl) (by rfl)
                      (news_blk (t := 34) (cs := #[.slice A6 (m + 1) c6]) (by repeat (first | with_reducible exact blk_new' (by simp) | with_reducible refine Blk.drew ?_ | with_reducible refine Blk.alloc ?_ _)) _ rfl)
                      (by simp [Value.oneCell']) (by omega) (by decide) (Nat.le_trans hb3.size (Below.size (w := wr) (B := wr.heap.size) (by repeat (first | exact Below.refl _ _ | assumption | refine Below.drew ?_ | refine balloc ?_ _)))) (n3 + 1) (by omega) (us3 ++ [.slice A6 (m + 1) c6]) (by rfl) ?_; intro A7 c7 w7 hown7 hg7 hlow7 hat7; have hb7 : Below wo.heap.size wo w7 := bgrown (hb3.trans (Below.mono (by repeat (first | exact Below.refl _ _ | assumption | refine Below.drew ?_ | refine balloc ?_ _)) hb3.size)) hg7 hlow7; have hL7 := lst_step (e := 3) (A := A6) (c := c6) (m := m) (a := a) (o := o) hg7 hat7 (by repeat (first | exact Below.refl _ _ | assumption | refine Below.drew ?_ | refine balloc ?_ _)) (by repeat (first | assumption | refine World.ownsRow.drew ?_ | refine World.ownsRow.alloc ?_ _)) HL3.out (fun k hk => (HO3.out.lt k hk).2) Ho.out.2))
              all_goals
                go_wp2_with fail
                go_roundw
                case rel => rw [Ho.out.1]; exact ⟨a + 1, _, by omega, by go_num, by rw [insTo_succ, ← List.append_assoc, List.length_append, Hn3.out]; exact hown7, by rw [insTo_succ, ← List.append_assoc]; exact hL7, hb7⟩
                case measure => simp [intOf]; omega
            · obtain rfl : a = m + 1 := by omega
              go_wp2_with fail
              go_roundw
              case rel => exact ⟨j + 1, us3, by omega, by go_num, by rw [nextTo_succ _ _ hlt2, hom]; exact hown3, by rw [nextTo_succ _ _ hlt2, hom]; exact hL3, hb3⟩
              case measure => simp [intOf]; omega
        · obtain rfl : j = (ordS m).length := by omega
          go_wp2_with fail
          go_roundw
          case rel => exact ⟨m + 1, us, by omega, by go_num, own_base hown2 hb.size, LstN.weak hL2, hb.trans (hb2.mono hb.size)⟩
          case measure => simp [intOf]; omega
    · obtain rfl : m = n := by omega
      go_wp2_with fail
      go_ret
      exact ⟨_, _, rfl, hown, hL, hb⟩
end Go.Proofs.Ytoegemlpboeodaa
