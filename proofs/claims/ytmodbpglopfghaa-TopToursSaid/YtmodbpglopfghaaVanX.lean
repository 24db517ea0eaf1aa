/- All orders. -/
import Derived.Test.YtmodbpglopfghaaVanN
set_option linter.unusedSimpArgs false
set_option linter.unusedVariables false
namespace Go.Proofs.Ytmodbpglopfghaa
open Go.RowKit

def iota (n : Nat) : List Int := (List.range n).map Int.ofNat
theorem iota_length (n : Nat) : (iota n).length = n := by simp [iota]
theorem iota_get (n i : Nat) (h : i < (iota n).length) : (iota n)[i] = (i : Int) := by simp [iota]
theorem mem_iota {n : Nat} {x : Int} : x ∈ iota n ↔ 0 ≤ x ∧ x < n := by
  simp only [iota, List.mem_map, List.mem_range]
  constructor
  · rintro ⟨a, ha, rfl⟩; simp; omega
  · rintro ⟨h1, h2⟩; exact ⟨x.toNat, by omega, by simp; omega⟩
theorem iota_nodup (n : Nat) : (iota n).Nodup := by
  unfold iota List.Nodup
  rw [List.pairwise_map]
  exact (List.nodup_range (n := n)).imp fun h e => h (Int.ofNat.inj e)
theorem iota_succ (n : Nat) : iota (n + 1) = iota n ++ [(n : Int)] := by simp [iota, List.range_succ]
/-- An order with a number put in at a place. -/
def insA (o : List Int) (k : Int) (a : Nat) : List Int := o.take a ++ k :: o.drop a
/-- The orders that come from one by a number more, the first m of them. -/
def insTo (o : List Int) (k : Int) (m : Nat) : List (List Int) := (List.range m).map (insA o k)
/-- The orders that come from the first m ones. -/
def nextTo (out : List (List Int)) (k : Int) (m : Nat) : List (List Int) := (out.take m).flatMap fun o => insTo o k (o.length + 1)
def ordS : Nat → List (List Int)
  | 0 => [[]]
  | k + 1 => nextTo (ordS k) k (ordS k).length
theorem insTo_succ (o : List Int) (k : Int) (m : Nat) : insTo o k (m + 1) = insTo o k m ++ [insA o k m] := by simp [insTo, List.range_succ]
theorem nextTo_succ (out : List (List Int)) (k : Int) {m : Nat} (hm : m < out.length) : nextTo out k (m + 1) = nextTo out k m ++ insTo out[m] k (out[m].length + 1) := by
  unfold nextTo
  rw [List.take_succ_eq_append_getElem hm, List.flatMap_append, List.flatMap_cons, List.flatMap_nil, List.append_nil]
theorem insA_perm (o : List Int) (k : Int) (a : Nat) : (insA o k a).Perm (k :: o) := by
  unfold insA
  refine List.perm_middle.trans ?_
  rw [List.take_append_drop]
theorem insA_length (o : List Int) (k : Int) (a : Nat) : (insA o k a).length = o.length + 1 := (insA_perm o k a).length_eq
theorem ordS_perm : ∀ (n : Nat) (o : List Int), o ∈ ordS n ↔ o.Perm (iota n)
  | 0, o => by
    simp only [ordS, List.mem_singleton]
    constructor
    · rintro rfl; exact List.Perm.refl _
    · intro h; exact h.eq_nil
  | n + 1, o => by
    simp only [ordS, nextTo, List.take_length, List.mem_flatMap, insTo, List.mem_map, List.mem_range]
    rw [iota_succ]
    constructor
    · rintro ⟨p, hp, a, _, rfl⟩
      have hpp := (ordS_perm n p).1 hp
      exact (insA_perm p n a).trans (((List.perm_cons _).2 hpp).trans (List.perm_append_singleton _ _).symm)
    · intro h
      have hn : (n : Int) ∈ o := h.mem_iff.2 (by simp)
      obtain ⟨s, t, rfl⟩ := List.append_of_mem hn
      refine ⟨s ++ t, (ordS_perm n _).2 ?_, s.length, by simp; omega, ?_⟩
      · have h1 : ((n : Int) :: (s ++ t)).Perm ((n : Int) :: iota n) := List.perm_middle.symm.trans (h.trans (List.perm_append_singleton _ _))
        exact (List.perm_cons _).1 h1
      · simp [insA]
theorem ordS_length {n : Nat} {o : List Int} (h : o ∈ ordS n) : o.length = n := by
  rw [((ordS_perm n o).1 h).length_eq, iota_length]
theorem ordS_pos (n : Nat) : 0 < (ordS n).length := List.length_pos_of_mem ((ordS_perm n (iota n)).2 (List.Perm.refl _))
theorem sum_const {α : Type} (f : α → List (List Int)) (m : Nat) : ∀ (l : List α), (∀ x ∈ l, (f x).length = m) → (l.flatMap f).length = l.length * m
  | [], _ => by simp
  | x :: l, h => by
    rw [List.flatMap_cons, List.length_append, h x (by simp), sum_const f m l (fun y hy => h y (by simp [hy])), List.length_cons, Nat.succ_mul]; omega
theorem nextTo_length (n : Nat) (m : Nat) (hm : m ≤ (ordS n).length) : (nextTo (ordS n) n m).length = m * (n + 1) := by
  unfold nextTo
  rw [sum_const _ (n + 1) _ (fun o ho => by
    rw [insTo, List.length_map, List.length_range, ordS_length (List.mem_of_mem_take ho)]), List.length_take, Nat.min_eq_left hm]
theorem ordS_succ_length (n : Nat) : (ordS (n + 1)).length = (ordS n).length * (n + 1) := nextTo_length n _ (Nat.le_refl _)
theorem ordS_next (n m : Nat) (h : m = n + 1) : (ordS m).length = (ordS n).length * m := by subst h; exact ordS_succ_length n
theorem ordS_bd {n : Nat} (h : n ≤ 7) : (ordS n).length ≤ 5040 := by
  have h1 : (ordS 1).length = (ordS 0).length * 1 := ordS_next 0 1 (by rfl)
  have h2 : (ordS 2).length = (ordS 1).length * 2 := ordS_next 1 2 (by rfl)
  have h3 : (ordS 3).length = (ordS 2).length * 3 := ordS_next 2 3 (by rfl)
  have h4 : (ordS 4).length = (ordS 3).length * 4 := ordS_next 3 4 (by rfl)
  have h5 : (ordS 5).length = (ordS 4).length * 5 := ordS_next 4 5 (by rfl)
  have h6 : (ordS 6).length = (ordS 5).length * 6 := ordS_next 5 6 (by rfl)
  have h7 : (ordS 7).length = (ordS 6).length * 7 := ordS_next 6 7 (by rfl)
  have h0 : (ordS 0).length = 1 := rfl
  match n, h with
  | 0, _ => omega
  | 1, _ => omega
  | 2, _ => omega
  | 3, _ => omega
  | 4, _ => omega
  | 5, _ => omega
  | 6, _ => omega
  | 7, _ => omega
  | n + 8, h => omega

theorem insA_map (o : List Int) (k : Int) (a : Nat) : (o.take a).map (Value.int .i64) ++ [.int .i64 k] ++ (o.drop a).map (Value.int .i64) = (insA o k a).map (Value.int .i64) := by simp [insA]
theorem RowsOwn.base {base base' : Nat} {gx : Option Nat} {w : World} {vs : List Value} {rows : List (List Int)} (h : RowsOwn base gx w vs rows) (hb : base' ≤ base) : RowsOwn base' gx w vs rows :=
  ⟨h.1, fun i hi => by
    obtain ⟨A, c, h1, h2, h3⟩ := h.2.1 i hi
    exact ⟨A, c, h1, own_base h2 hb, h3⟩, h.2.2⟩
theorem row_step {W w7 wr : World} {base : Nat} {g g' : Option Nat} {us : List Value} {os : List (List Int)} {A : Option Addr} {c m a : Nat} {o : List Int} (hg : W.grownBy w7 g) (hat : ∀ k, g' = some k → g = some k ∨ k = W.heap.size) (hW : Below wr.heap.size wr W)
    (hown : W.ownsRow wr.heap.size 3 1 (.slice A (m + 1) c) (m + 1) ((insA o m a).map (Value.int .i64))) (hL : RowsOwn base g wr us os) (hlt : ∀ k, g = some k → k < wr.heap.size) (hbs : base ≤ wr.heap.size) (ho : o.length = m) :
    RowsOwn base g' w7 (us ++ [.slice A (m + 1) c]) (os ++ [insA o m a]) :=
  ((hL.below hW).snoc wr.heap.size hbs (by rw [insA_length, ho]) hown hlt (fun i v hv b hb => hL.lt hv hb)).grown hg hat
set_option maxRecDepth 100000 in
set_option maxHeartbeats 1000000 in
theorem Orders_ref (n : Nat) (hn : n ≤ 7) (w : World) :
    Calls Try.prog 90 #[.int .i64 n] w fun e w' => ∃ v vs, e = .returned v ∧ w'.ownsRow w.heap.size 28 1 v (ordS n).length vs ∧ RowsOwn w.heap.size v.ownBlock w' vs (ordS n) ∧ Below w.heap.size w w' := by
  obtain ⟨i0, hi, hz0, hz1, hz2⟩ := info_parts info28
  obtain ⟨j0, hj, hy0, hy1, hy2⟩ := info_parts info3
  go_enter Try.func90, Try.ntmps90
  go_wp2_with fail
  have B0 : Below w.heap.size w (w.alloc (.cells #[.slice none 0 0] 28)) := (Below.refl _ _).alloc (Nat.le_refl _) _
  go_loopw [3, 4] (fun out k wr => ∃ (m : Nat) (vs : List Value), m ≤ n ∧ k = .int .i64 m ∧ wr.ownsRow w.heap.size 28 1 out (ordS m).length vs ∧ RowsOwn w.heap.size out.ownBlock wr vs (ordS m) ∧ Below w.heap.size w wr) (fun _ k _ => n - (intOf k).toNat)
  case atStart =>
    refine ⟨0, [.slice none 0 0], Nat.zero_le _, rfl, World.ownsRow_lit w #[.slice none 0 0] 1 (Nat.le_refl _) (by decide) rfl, ⟨rfl, fun i h => ?_, fun i k v v' hik hv hv' => ?_⟩, B0⟩
    · obtain rfl : i = 0 := by simpa [ordS] using h
      exact ⟨none, 0, rfl, World.ownsRow_nil _ _ _ _, fun k hk => by cases hk⟩
    · have : k < 1 := by
        rcases Nat.lt_or_ge k 1 with h | h
        · exact h
        · rw [List.getElem?_eq_none (by simpa using h)] at hv'; cases hv'
      omega
  case round =>
    obtain ⟨m, vs, hm, rfl, hown, hL, hb⟩ := hrel
    obtain ⟨wo, rfl⟩ : ∃ wo : World, wo = wr := ⟨_, rfl⟩
    have hbd := ordS_bd (n := m) (by omega)
    obtain ⟨A0, c0, rfl⟩ := own_form hown
    by_cases hlt : m < n
    · go_wp2_with fail
      go_loopw [5, 6] (fun nx i w2 => ∃ (j : Nat) (us : List Value), j ≤ (ordS m).length ∧ i = .int .i64 j ∧ w2.ownsRow wo.heap.size 28 1 nx (nextTo (ordS m) m j).length us ∧ RowsOwn wo.heap.size nx.ownBlock w2 us (nextTo (ordS m) m j) ∧ Below wo.heap.size wo w2) (fun _ i _ => (ordS m).length - (intOf i).toNat)
      case atStart => exact ⟨0, [], Nat.zero_le _, rfl, World.ownsRow_nil _ _ _ _, RowsOwn.nil _ _ _, Below.refl _ _⟩
      case round =>
        obtain ⟨j, us, hj', rfl, hown2, hL2, hb2⟩ := hrel
        obtain ⟨wi, rfl⟩ : ∃ wi : World, wi = wr := ⟨_, rfl⟩
        by_cases hlt2 : j < (ordS m).length
        · have hln := nextTo_length m j (by omega)
          have hom : (ordS m)[j].length = m := ordS_length (List.getElem_mem hlt2)
          obtain ⟨A1, c1, hv1, hw1, _⟩ := hL.2.1 j hlt2
          have hI1 : IntsAt wo.heap.size wo A1 (ordS m)[j] := IntsAt.of_own hw1
          have hc1 := (own_caps hw1).1
          clear hw1
          rw [hom] at hv1 hc1
          obtain ⟨g0, rfl, hg0, _, hcell⟩ := own_cell hown hlt2 hv1
          have d0 := (hb2.cell (p := ⟨g0, j, none⟩) hg0).trans hcell
          go_wp2_with fail
          go_loopw [5, 7] (fun nx at_ w3 => ∃ (a : Nat) (us : List Value), a ≤ m + 1 ∧ at_ = .int .i64 a ∧ w3.ownsRow wo.heap.size 28 1 nx (nextTo (ordS m) m j ++ insTo (ordS m)[j] m a).length us ∧ RowsOwn wo.heap.size nx.ownBlock w3 us (nextTo (ordS m) m j ++ insTo (ordS m)[j] m a) ∧ Below wo.heap.size wo w3) (fun _ i _ => m + 1 - (intOf i).toNat)
          case atStart => exact ⟨0, us, Nat.zero_le _, rfl, by simpa [insTo] using hown2, by simpa [insTo] using hL2, hb2⟩
          case round =>
            obtain ⟨a, us3, ha, rfl, hown3, hL3, hb3⟩ := hrel
            have e0 := (hb3.cell (p := ⟨g0, j, none⟩) hg0).trans hcell
            by_cases hlt3 : a ≤ m
            · have HZ := Lib.hid hcell
              have hac : a ≤ c1 := by omega
              obtain ⟨o, ho⟩ : ∃ o, (ordS m)[j] = o := ⟨_, rfl⟩
              rw [ho] at hI1 hL3 hown3 hom
              have HI := Lib.hid hI1
              have HL3 := Lib.hid hL3
              have HO3 := Lib.hid hown3
              have Ho := Lib.hid (And.intro ho hom)
              have hn3 : (nextTo (ordS m) m j ++ insTo o m a).length ≤ 50000 := by
                rw [List.length_append, hln]; simp only [insTo, List.length_map, List.length_range]
                have := Nat.mul_le_mul (show j ≤ 5040 by omega) (show m + 1 ≤ 8 by omega)
                omega
              have ht : (o.take a).length = a := by simp; omega
              have hd : (o.drop a).length = m - a := by simp; omega
              have Ht := Lib.hid (And.intro ht hd)
              have HT := Lib.hid (IntsAt.take hI1 a)
              obtain ⟨n3, Hn⟩ : ∃ n3, (nextTo (ordS m) m j ++ insTo o m a).length = n3 := ⟨_, rfl⟩
              rw [Hn] at hn3 HO3
              have Hn3 := Lib.hid Hn
              clear Hn
              clear hI1 hL3 hown3 ho hom hcell ht hd
              go_wp2_with fail
              have HD := Lib.hid (IntsAt.dropD (c := c1) (a := a) HI.out (by rw [Ho.out.2]; exact hc1))
              have tok1 := Lib.hid (Nat.le_refl 0)
              go_region_held3 (fun W => W.cell? ⟨g0, j, none⟩ = some (.slice A1 m c1) ∧ Below wo.heap.size wo W)
                ((refine keep1 (p := ⟨g0, j, none⟩) hg0 HZ.out ?_; first | (refine hb3.trans (Below.mono ?_ hb3.size); (repeat (first | exact Below.refl _ _ | assumption | refine Below.drew ?_ | refine balloc ?_ _)); done) | (repeat (first | assumption | refine Below.drew ?_ | refine balloc ?_ _))))
                (first
                  | (have tk := tok1; clear tok1; refine step_app' _ (by rfl) (.tmp 30) (.tmp 36) 28 (by rfl) wr.heap.size 3 j0 _ 1 8 Try.underlying28 hj hy0 hy1 hy2 (by rfl) (by decide) (.slice (some ⟨_, 0, none⟩) 0 0) 0 [] (by rfl)
                      (by repeat (first | with_reducible exact own_new' 1 (by simp) (by first | exact Nat.le_refl _ | simp | omega) | refine World.ownsRow.drew ?_ | refine World.ownsRow.alloc ?_ _))
                      A1 a c1 ((o.take a).map (Value.int .i64)) (by rfl) (by rw [List.length_map, Ht.out.1, Nat.mul_one]) (fun e => by have := HT.out.none_nil e; rw [Ht.out.1] at this; exact this)
                      (IntsAt.news (IntsAt.below HT.out (hb3.trans (Below.mono (by repeat (first | exact Below.refl _ _ | assumption | refine Below.drew ?_ | refine balloc ?_ _)) hb3.size)) (Nat.le_refl _)))
                      (ints_one _) (by omega) (by decide) (Below.size (w := wr) (B := wr.heap.size) (by repeat (first | exact Below.refl _ _ | assumption | refine Below.drew ?_ | refine balloc ?_ _))) a (by omega) ((o.take a).map (Value.int .i64)) (by rfl) ?_; intro A4 c4 w4 hown4 hg4 hlow4; have tok2 := tk; have hb4 : Below wr.heap.size wr w4 := bgrown (by repeat (first | exact Below.refl _ _ | assumption | refine Below.drew ?_ | refine balloc ?_ _)) hg4 hlow4)
                  | (have tk := tok2; clear tok2; refine step_app' _ (by rfl) (.tmp 37) (.tmp 39) 28 (by rfl) wr.heap.size 3 j0 _ 1 8 Try.underlying28 hj hy0 hy1 hy2 (by rfl) (by decide) (.slice A4 a c4) a ((o.take a).map (Value.int .i64)) (by rfl)
                      (by repeat (first | assumption | refine World.ownsRow.drew ?_ | refine World.ownsRow.alloc ?_ _))
                      _ 1 1 [.int .i64 m] (by rfl) (by rfl) (by simp)
                      (news_blk (t := 3) (cs := #[.int .i64 m]) (by repeat (first | with_reducible exact blk_new' (by simp) | with_reducible refine Blk.drew ?_ | with_reducible refine Blk.alloc ?_ _ | with_reducible refine Blk.grown ?_ hg4 (by simp [Value.ownBlock]))))
                      (by simp [Value.oneCell']) (by omega) (by decide) (Below.size (w := wr) (B := wr.heap.size) (by repeat (first | exact Below.refl _ _ | assumption | refine Below.drew ?_ | refine balloc ?_ _))) (a + 1) (by omega) ((o.take a).map (Value.int .i64) ++ [.int .i64 m]) (by rfl) ?_; intro A5 c5 w5 hown5 hg5 hlow5; have tok3 := tk; have hb5 : Below wr.heap.size wr w5 := bgrown (by repeat (first | exact Below.refl _ _ | assumption | refine Below.drew ?_ | refine balloc ?_ _)) hg5 hlow5)
                  | (have tk := tok3; clear tok3; refine step_app' _ (by rfl) (.tmp 40) (.tmp 46) 28 (by rfl) wr.heap.size 3 j0 _ 1 8 Try.underlying28 hj hy0 hy1 hy2 (by rfl) (by decide) (.slice A5 (a + 1) c5) (a + 1) ((o.take a).map (Value.int .i64) ++ [.int .i64 m]) (by rfl)
                      (by repeat (first | assumption | refine World.ownsRow.drew ?_ | refine World.ownsRow.alloc ?_ _))
                      (if c1 = a then A1 else Option.map (fun x => x.add a) A1) (m - a) (c1 - a) ((o.drop a).map (Value.int .i64)) (by rfl) (by rw [List.length_map, Ht.out.2, Nat.mul_one]) (fun e => by have := HD.out.none_nil e; rw [Ht.out.2] at this; exact this)
                      (IntsAt.news (IntsAt.below HD.out (hb3.trans (Below.mono (by repeat (first | exact Below.refl _ _ | assumption | refine Below.drew ?_ | refine balloc ?_ _)) hb3.size)) (Nat.le_refl _)))
                      (ints_one _) (by omega) (by decide) (Below.size (w := wr) (B := wr.heap.size) (by repeat (first | exact Below.refl _ _ | assumption | refine Below.drew ?_ | refine balloc ?_ _))) (m + 1) (by omega) ((insA o m a).map (Value.int .i64)) (insA_map o m a) ?_; intro A6 c6 w6 hown6 hg6 hlow6; have tok4 := tk; have hb6 : Below wr.heap.size wr w6 := bgrown (by repeat (first | exact Below.refl _ _ | assumption | refine Below.drew ?_ | refine balloc ?_ _)) hg6 hlow6)
                  | (have tk := tok4; clear tok4; refine step_app2 _ (by rfl) (.tmp 29) (.tmp 48) 22 (by rfl) wo.heap.size 28 i0 _ 1 24 Try.underlying22 hi hz0 hz1 hz2 (by rfl) (by decide) u5 n3 us3 (by rfl)
                      (own_below HO3.out (by repeat (first | exact Below.refl _ _ | assumption | refine Below.drew ?_ | refine balloc ?_ _)))
                      ⟨_, 0, none⟩ 1 1 [.slice A6 (m + 1) c6] (by rfl) (by rfl)
                      (news_blk (t := 28) (cs := #[.slice A6 (m + 1) c6]) (by repeat (first | with_reducible exact blk_new' (by simp) | with_reducible refine Blk.drew ?_ | with_reducible refine Blk.alloc ?_ _)) _ rfl)
                      (by simp [Value.oneCell']) (by omega) (by decide) (Nat.le_trans hb3.size (Below.size (w := wr) (B := wr.heap.size) (by repeat (first | exact Below.refl _ _ | assumption | refine Below.drew ?_ | refine balloc ?_ _)))) (n3 + 1) (by omega) (us3 ++ [.slice A6 (m + 1) c6]) (by rfl) ?_; intro A7 c7 w7 hown7 hg7 hlow7 hat7; have hb7 : Below wo.heap.size wo w7 := bgrown (hb3.trans (Below.mono (by repeat (first | exact Below.refl _ _ | assumption | refine Below.drew ?_ | refine balloc ?_ _)) hb3.size)) hg7 hlow7; have hL7 := row_step (A := A6) (c := c6) (m := m) (a := a) (o := o) hg7 hat7 (by repeat (first | exact Below.refl _ _ | assumption | refine Below.drew ?_ | refine balloc ?_ _)) (by repeat (first | assumption | refine World.ownsRow.drew ?_ | refine World.ownsRow.alloc ?_ _)) HL3.out (fun k hk => (HO3.out.lt k hk).2) hb3.size Ho.out.2))
              all_goals
                go_wp2_with fail
                go_roundw
                case rel => rw [Ho.out.1]; exact ⟨a + 1, _, by omega, by go_num, by rw [insTo_succ, ← List.append_assoc, List.length_append, Hn3.out]; exact hown7, by rw [insTo_succ, ← List.append_assoc]; exact hL7, hb7⟩
                case measure => simp [intOf]; omega
            · obtain rfl : a = m + 1 := by omega
              go_wp2_with fail
              go_roundw
              case rel => exact ⟨j + 1, us3, by omega, by go_num, by rw [nextTo_succ _ _ hlt2, hom]; exact hown3, by rw [nextTo_succ _ _ hlt2, hom]; exact hL3, hb3⟩
              case measure => simp [intOf]; omega
        · obtain rfl : j = (ordS m).length := by omega
          go_wp2_with fail
          go_roundw
          case rel => exact ⟨m + 1, us, by omega, by go_num, own_base hown2 hb.size, hL2.base hb.size, hb.trans (hb2.mono hb.size)⟩
          case measure => simp [intOf]; omega
    · obtain rfl : m = n := by omega
      go_wp2_with fail
      go_ret
      exact ⟨_, _, rfl, hown, hL, hb⟩
end Go.Proofs.Ytmodbpglopfghaa
