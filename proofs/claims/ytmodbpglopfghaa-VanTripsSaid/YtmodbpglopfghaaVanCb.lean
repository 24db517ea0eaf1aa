/- Lists of ints, and plans, compared: slices.Compare f99, cmp.Or f97, compare f82. Written by mkCb.py. -/
import Derived.Test.YtmodbpglopfghaaVanCa
import Derived.Test.YtmodbpglopfghaaOrd
import Derived.Test.YtmodbpglopfghaaShelf
import Derived.Test.YtmodbpglopfghaaApp2
set_option linter.unusedSimpArgs false
set_option linter.unusedVariables false
namespace Go.Proofs.Ytmodbpglopfghaa
open Go Go.RowKit

/-- Which list comes first. -/
def cmpL : List Int → List Int → Int
  | [], [] => 0
  | [], _ :: _ => -1
  | _ :: _, [] => 1
  | x :: a, y :: b => if Lib.compareInt x y = 0 then cmpL a b else Lib.compareInt x y
/-- The first number that is not zero. -/
def orL : List Int → Int
  | [] => 0
  | x :: r => if x = 0 then orL r else x
theorem cmpL_at {xs ys : List Int} {k : Nat} (h1 : k < xs.length) (h2 : k < ys.length) : cmpL (xs.drop k) (ys.drop k) = if Lib.compareInt xs[k] ys[k] = 0 then cmpL (xs.drop (k + 1)) (ys.drop (k + 1)) else Lib.compareInt xs[k] ys[k] := by
  rw [List.drop_eq_getElem_cons h1, List.drop_eq_getElem_cons h2]; rfl
theorem cmpL_long {xs ys : List Int} {k : Nat} (h1 : k < xs.length) (h2 : k = ys.length) : cmpL (xs.drop k) (ys.drop k) = 1 := by
  subst h2
  rw [List.drop_length, List.drop_eq_getElem_cons h1]; rfl
theorem cmpL_short {xs ys : List Int} {k : Nat} (h1 : k = xs.length) (h2 : k < ys.length) : cmpL (xs.drop k) (ys.drop k) = -1 := by
  subst h1
  rw [List.drop_length, List.drop_eq_getElem_cons h2]; rfl
theorem cmpL_end {xs ys : List Int} {k : Nat} (h1 : k = xs.length) (h2 : k = ys.length) : cmpL (xs.drop k) (ys.drop k) = 0 := by
  subst h1
  rw [List.drop_length, h2, List.drop_length]; rfl
theorem orL_at {xs : List Int} {k : Nat} (h1 : k < xs.length) : orL (xs.drop k) = if xs[k] = 0 then orL (xs.drop (k + 1)) else xs[k] := by
  rw [List.drop_eq_getElem_cons h1]; rfl

set_option maxRecDepth 100000 in
set_option maxHeartbeats 1000000 in
theorem slCompare_any (A A' : Option Addr) (c c' B : Nat) (xs ys : List Int) (w : World) (h : IntsAt B w A xs) (h' : IntsAt B w A' ys) (hx : xs.length ≤ 1000) (hy : ys.length ≤ 1000) :
    Calls Try.prog 99 #[.slice A xs.length c, .slice A' ys.length c'] w fun e w' => e = .returned (.int .i64 (cmpL xs ys)) ∧ w = w' := by
  have H := Lib.hid h
  have H' := Lib.hid h'
  clear h h'
  go_enter Try.func99, Try.ntmps99
  go_wp2_with fail
  go_loop [11] (fun vk => ∃ k : Nat, k ≤ xs.length ∧ k ≤ ys.length ∧ vk = .int .i64 k ∧ Aside (cmpL xs ys = cmpL (xs.drop k) (ys.drop k))) (fun vk => xs.length - (intOf vk).toNat)
  case atStart => exact ⟨0, Nat.zero_le _, Nat.zero_le _, rfl, rfl⟩
  case round =>
    obtain ⟨k, hk, hk2, rfl, hc⟩ := hrel
    have HC := Lib.hid hc.out
    clear hc
    by_cases hlt : k < xs.length
    · obtain ⟨b1, o1, rfl, _, y0⟩ := H.out.at hlt
      have hkI : (k : Int) < (xs.length : Int) := by omega
      by_cases hlt2 : k < ys.length
      · obtain ⟨b2, o2, rfl, _, y1⟩ := H'.out.at hlt2
        have hkI2 : (k : Int) < (ys.length : Int) := by omega
        have HD := Lib.hid (cmpL_at hlt hlt2)
        generalize xs[k] = x at y0 HD
        generalize ys[k] = y at y1 HD
        by_cases hz : Lib.compareInt x y = 0
        · have HC2 := Lib.hid (show cmpL xs ys = cmpL (xs.drop (k + 1)) (ys.drop (k + 1)) by rw [HC.out, HD.out, if_pos hz])
          have hd : (Lib.compareInt x y != 0) = false := by simpa using hz
          clear hz HD HC
          go_wp2_with (go_at_call 98; refine (Try.cmp_Compare_int _ _ _).mono ?_; rintro e w1 ⟨rfl, rfl⟩)
          go_round
          case rel => exact ⟨k + 1, by omega, by omega, by go_num, HC2.out⟩
          case measure => simp [intOf]; omega
        · have HC2 := Lib.hid (show cmpL xs ys = Lib.compareInt x y by rw [HC.out, HD.out, if_neg hz])
          have hd : (Lib.compareInt x y != 0) = true := by simpa using hz
          clear hz HD HC
          go_wp2_with (go_at_call 98; refine (Try.cmp_Compare_int _ _ _).mono ?_; rintro e w1 ⟨rfl, rfl⟩)
          go_ret
          exact ⟨by rw [HC2.out]; rfl, rfl⟩
      · have HC2 := Lib.hid (show cmpL xs ys = 1 by rw [HC.out, cmpL_long hlt (by omega)])
        have hkI2 : (ys.length : Int) ≤ (k : Int) := by omega
        go_wp2_with fail
        go_ret
        exact ⟨by rw [HC2.out]; rfl, rfl⟩
    · obtain rfl : k = xs.length := by omega
      by_cases hlt2 : xs.length < ys.length
      · have HC2 := Lib.hid (show cmpL xs ys = -1 by rw [HC.out, cmpL_short rfl hlt2])
        have hkI2 : (xs.length : Int) < (ys.length : Int) := by omega
        go_wp2_with fail
        go_ret
        exact ⟨by rw [HC2.out]; rfl, rfl⟩
      · have HC2 := Lib.hid (show cmpL xs ys = 0 by rw [HC.out, cmpL_end rfl (by omega)])
        have hkI2 : (ys.length : Int) ≤ (xs.length : Int) := by omega
        go_wp2_with fail
        go_ret
        exact ⟨by rw [HC2.out]; rfl, rfl⟩

set_option maxRecDepth 100000 in
set_option maxHeartbeats 1000000 in
theorem Or_any (g c : Nat) (xs : List Int) (w : World) (hx : xs.length ≤ 1000) (h : Blk w g 3 (xs.map (Value.int .i64)).toArray) :
    Calls Try.prog 97 #[.slice (some ⟨g, 0, none⟩) xs.length c] w fun e w' => e = .returned (.int .i64 (orL xs)) ∧ w = w' := by
  have H := Lib.hid (show ∀ k (hk : k < xs.length), w.cell? ⟨g, k, none⟩ = some (.int .i64 xs[k]) from fun k hk => by rw [h.cell]; simp [hk])
  clear h
  go_enter Try.func97, Try.ntmps97
  go_wp2_with fail
  go_loop [8] (fun vk => ∃ k : Nat, k ≤ xs.length ∧ vk = .int .i64 k ∧ Aside (orL xs = orL (xs.drop k))) (fun vk => xs.length - (intOf vk).toNat)
  case atStart => exact ⟨0, Nat.zero_le _, rfl, rfl⟩
  case round =>
    obtain ⟨k, hk, rfl, hc⟩ := hrel
    have HC := Lib.hid hc.out
    clear hc
    by_cases hlt : k < xs.length
    · have y0 := H.out k hlt
      have HD := Lib.hid (orL_at hlt)
      have hkI : (k : Int) < (xs.length : Int) := by omega
      generalize xs[k] = x at y0 HD
      by_cases hz : x = 0
      · have HC2 := Lib.hid (show orL xs = orL (xs.drop (k + 1)) by rw [HC.out, HD.out, if_pos hz])
        subst hz
        clear HD HC
        go_wp2_with fail
        go_round
        case rel => exact ⟨k + 1, by omega, by go_num, HC2.out⟩
        case measure => simp [intOf]; omega
      · have HC2 := Lib.hid (show orL xs = x by rw [HC.out, HD.out, if_neg hz])
        have hd : (x != 0) = true := by simpa using hz
        clear HD HC hz
        go_wp2_with fail
        go_ret
        exact ⟨by rw [HC2.out]; rfl, rfl⟩
    · obtain rfl : k = xs.length := by omega
      have HC2 := Lib.hid (show orL xs = 0 by rw [HC.out, List.drop_length]; rfl)
      go_wp2_with fail
      go_ret
      exact ⟨by rw [HC2.out]; rfl, rfl⟩

set_option maxRecDepth 100000 in
set_option maxHeartbeats 8000000 in
theorem compare_any (A A' : Option Addr) (c c' B n m : Nat) (s s' : Int) (xs ys : List Int) (w : World) (hB : B ≤ w.heap.size) (h : IntsAt B w A xs) (h' : IntsAt B w A' ys) (hn : xs.length = n) (hm : ys.length = m) (hx : n ≤ 1000) (hy : m ≤ 1000) :
    Calls Try.prog 82 #[.agg #[.int .i64 s, .slice A n c], .agg #[.int .i64 s', .slice A' m c']] w fun e w' => e = .returned (.int .i64 (orL [Lib.compareInt s s', Lib.compareInt n m, cmpL xs ys])) ∧ Below w.heap.size w w' := by
  subst hn hm
  have H := Lib.hid (show IntsAt w.heap.size w A xs from h.below (Below.refl _ _) hB)
  have H' := Lib.hid (show IntsAt w.heap.size w A' ys from h'.below (Below.refl _ _) hB)
  clear h h' hB
  have cs0 := Lib.hid (fun (W : World) (hW : Below w.heap.size w W) => slCompare_any A A' c c' w.heap.size xs ys W (H.out.below hW (Nat.le_refl _)) (H'.out.below hW (Nat.le_refl _)) hx hy)
  clear H H'
  have cc1 := fun W => Try.cmp_Compare_int s s' W
  have cc2 := fun W => Try.cmp_Compare_int xs.length ys.length W
  generalize xs.length = n at *
  generalize ys.length = m at *
  generalize cmpL xs ys = c3 at *
  generalize Lib.compareInt s s' = c1 at *
  generalize Lib.compareInt (n : Int) (m : Int) = c2 at *
  have cc1 := Lib.hid cc1
  have cc2 := Lib.hid cc2
  go_enter Try.func82, Try.ntmps82
  go_wp2_with fail
  generalize hW0 : (w.alloc (.cells #[.int .i64 s, .slice A n c] 98)).alloc (.cells #[.int .i64 s', .slice A' m c'] 98) = W0
  have HK0 := Lib.hid (show Blk W0 w.heap.size 98 #[.int .i64 s, .slice A n c] by rw [← hW0]; exact (Blk.new _ _ _).alloc _)
  have HK1 := Lib.hid (show Blk W0 (w.heap.size + 1) 98 #[.int .i64 s', .slice A' m c'] by rw [← hW0]; exact blk_new' (by simp))
  have HB0 := Lib.hid (show Below w.heap.size w W0 by rw [← hW0]; exact balloc (balloc (Below.refl _ _) _) _)
  clear hW0
  refine wp_region_E (S := fun W => W.cell? ⟨w.heap.size, 0, none⟩ = some (.int .i64 s) ∧ W.cell? ⟨w.heap.size, 1, none⟩ = some (.slice A n c) ∧ W.cell? ⟨w.heap.size + 1, 0, none⟩ = some (.int .i64 s') ∧ W.cell? ⟨w.heap.size + 1, 1, none⟩ = some (.slice A' m c')) (E := fun _ => false) (by kernel_rfl) ?_
  have hbi : Below W0.heap.size W0 W0.drew := (Below.refl _ _).drew
  generalize W0.drew = wi0 at hbi ⊢
  have HBi := Lib.hid (Below.refl wi0.heap.size wi0)
  have Keep := Lib.hid (show ∀ W, Below wi0.heap.size wi0 W → W.cell? ⟨w.heap.size, 0, none⟩ = some (.int .i64 s) ∧ W.cell? ⟨w.heap.size, 1, none⟩ = some (.slice A n c) ∧ W.cell? ⟨w.heap.size + 1, 0, none⟩ = some (.int .i64 s') ∧ W.cell? ⟨w.heap.size + 1, 1, none⟩ = some (.slice A' m c') from fun W hW => by
    have hbb := hbi.trans (hW.mono hbi.size)
    obtain ⟨q0, q1, _⟩ := blk2 (HK0.out.below hbb HK0.out.lt)
    obtain ⟨q2, q3, _⟩ := blk2 (HK1.out.below hbb HK1.out.lt)
    exact ⟨q0, q1, q2, q3⟩)
  have HBw := Lib.hid (HB0.out.trans (hbi.mono HB0.out.size))
  have cs := Lib.hid (fun (W : World) (hW : Below wi0.heap.size wi0 W) => cs0.out W (HBw.out.trans (hW.mono HBw.out.size)))
  have hS := Keep.out _ HBi.out
  clear hbi cs0
  refine anyE_tk 0 5 (oi := ?oi1) (v := ?v1) ?hi1 ?hd1 (by kernel_rfl) (by kernel_rfl) (by kernel_rfl) ?hQ1 ?hy1 hS ?rest1
  case hi1 => simp only [List.getElem?_toArray, List.getElem?_cons_zero, List.getElem?_cons_succ]; rfl
  case hd1 => rfl
  case hQ1 => exact fun _ _ _ h => h
  case hy1 => (refine Or.inl ⟨by rfl, ?_⟩; intro w hSw; (try dsimp only at hSw); go_simp; try with_reducible rfl)
  simp only [List.setIfInBounds_toArray, List.set_cons_zero, List.set_cons_succ]
  refine anyE_tk 1 6 (oi := ?oi2) (v := ?v2) ?hi2 ?hd2 (by kernel_rfl) (by kernel_rfl) (by kernel_rfl) ?hQ2 ?hy2 hS ?rest2
  case hi2 => simp only [List.getElem?_toArray, List.getElem?_cons_zero, List.getElem?_cons_succ]; rfl
  case hd2 => rfl
  case hQ2 => exact fun _ _ _ h => h
  case hy2 => (refine Or.inl ⟨by rfl, ?_⟩; intro w hSw; (try dsimp only at hSw); go_simp; try with_reducible rfl)
  simp only [List.setIfInBounds_toArray, List.set_cons_zero, List.set_cons_succ]
  refine anyE_tk 2 7 (oi := ?oi3) (v := ?v3) ?hi3 ?hd3 (by kernel_rfl) (by kernel_rfl) (by kernel_rfl) ?hQ3 ?hy3 hS ?rest3
  case hi3 => simp only [List.getElem?_toArray, List.getElem?_cons_zero, List.getElem?_cons_succ]; rfl
  case hd3 => rfl
  case hQ3 => exact fun _ _ _ h => h
  case hy3 => (refine Or.inl ⟨by rfl, ?_⟩; intro w hSw; (try dsimp only at hSw); go_simp; try with_reducible rfl)
  simp only [List.setIfInBounds_toArray, List.set_cons_zero, List.set_cons_succ]
  refine anyE_tk 3 8 (oi := ?oi4) (v := ?v4) ?hi4 ?hd4 (by kernel_rfl) (by kernel_rfl) (by kernel_rfl) ?hQ4 ?hy4 hS ?rest4
  case hi4 => simp only [List.getElem?_toArray, List.getElem?_cons_zero, List.getElem?_cons_succ]; rfl
  case hd4 => rfl
  case hQ4 => exact fun _ _ _ h => h
  case hy4 => (refine Or.inl ⟨by rfl, ?_⟩; intro w hSw; (try dsimp only at hSw); go_simp; try with_reducible rfl)
  simp only [List.setIfInBounds_toArray, List.set_cons_zero, List.set_cons_succ]
  refine anyE_tk 5 10 (oi := ?oi5) (v := ?v5) ?hi5 ?hd5 (by kernel_rfl) (by kernel_rfl) (by kernel_rfl) ?hQ5 ?hy5 hS ?rest5
  case hi5 => simp only [List.getElem?_toArray, List.getElem?_cons_zero, List.getElem?_cons_succ]; rfl
  case hd5 => rfl
  case hQ5 => exact fun _ _ _ h => h
  case hy5 => (refine Or.inl ⟨by rfl, ?_⟩; intro w hSw; (try dsimp only at hSw); go_simp; try with_reducible rfl)
  simp only [List.setIfInBounds_toArray, List.set_cons_zero, List.set_cons_succ]
  refine anyE_tk 6 11 (oi := ?oi6) (v := ?v6) ?hi6 ?hd6 (by kernel_rfl) (by kernel_rfl) (by kernel_rfl) ?hQ6 ?hy6 hS ?rest6
  case hi6 => simp only [List.getElem?_toArray, List.getElem?_cons_zero, List.getElem?_cons_succ]; rfl
  case hd6 => rfl
  case hQ6 => exact fun _ _ _ h => h
  case hy6 => (refine Or.inl ⟨by rfl, ?_⟩; intro w hSw; (try dsimp only at hSw); go_simp; try with_reducible rfl)
  simp only [List.setIfInBounds_toArray, List.set_cons_zero, List.set_cons_succ]
  refine anyE_tk 7 12 (oi := ?oi7) (v := ?v7) ?hi7 ?hd7 (by kernel_rfl) (by kernel_rfl) (by kernel_rfl) ?hQ7 ?hy7 hS ?rest7
  case hi7 => simp only [List.getElem?_toArray, List.getElem?_cons_zero, List.getElem?_cons_succ]; rfl
  case hd7 => rfl
  case hQ7 => exact fun _ _ _ h => h
  case hy7 => (refine Or.inl ⟨by rfl, ?_⟩; intro w hSw; (try dsimp only at hSw); go_simp; try with_reducible rfl)
  simp only [List.setIfInBounds_toArray, List.set_cons_zero, List.set_cons_succ]
  refine anyE_tk 8 13 (oi := ?oi8) (v := ?v8) ?hi8 ?hd8 (by kernel_rfl) (by kernel_rfl) (by kernel_rfl) ?hQ8 ?hy8 hS ?rest8
  case hi8 => simp only [List.getElem?_toArray, List.getElem?_cons_zero, List.getElem?_cons_succ]; rfl
  case hd8 => rfl
  case hQ8 => exact fun _ _ _ h => h
  case hy8 => (refine Or.inl ⟨by rfl, ?_⟩; intro w hSw; (try dsimp only at hSw); go_simp; try with_reducible rfl)
  simp only [List.setIfInBounds_toArray, List.set_cons_zero, List.set_cons_succ]
  refine anyE_tk 9 14 (oi := ?oi9) (v := ?v9) ?hi9 ?hd9 (by kernel_rfl) (by kernel_rfl) (by kernel_rfl) ?hQ9 ?hy9 hS ?rest9
  case hi9 => simp only [List.getElem?_toArray, List.getElem?_cons_zero, List.getElem?_cons_succ]; rfl
  case hd9 => rfl
  case hQ9 => exact fun _ _ _ h => h
  case hy9 => (refine Or.inl ⟨by rfl, ?_⟩; intro w hSw; (try dsimp only at hSw); go_simp; try with_reducible rfl)
  simp only [List.setIfInBounds_toArray, List.set_cons_zero, List.set_cons_succ]
  refine anyE_tk 10 15 (oi := ?oi10) (v := ?v10) ?hi10 ?hd10 (by kernel_rfl) (by kernel_rfl) (by kernel_rfl) ?hQ10 ?hy10 hS ?rest10
  case hi10 => simp only [List.getElem?_toArray, List.getElem?_cons_zero, List.getElem?_cons_succ]; rfl
  case hd10 => rfl
  case hQ10 => exact fun _ _ _ h => h
  case hy10 => (refine Or.inl ⟨by rfl, ?_⟩; intro w hSw; (try dsimp only at hSw); go_simp; try with_reducible rfl)
  simp only [List.setIfInBounds_toArray, List.set_cons_zero, List.set_cons_succ]
  refine anyE_tk 12 17 (oi := ?oi11) (v := ?v11) ?hi11 ?hd11 (by kernel_rfl) (by kernel_rfl) (by kernel_rfl) ?hQ11 ?hy11 hS ?rest11
  case hi11 => simp only [List.getElem?_toArray, List.getElem?_cons_zero, List.getElem?_cons_succ]; rfl
  case hd11 => rfl
  case hQ11 => exact fun _ _ _ h => h
  case hy11 => (refine Or.inl ⟨by rfl, ?_⟩; intro w hSw; (try dsimp only at hSw); go_simp; try with_reducible rfl)
  simp only [List.setIfInBounds_toArray, List.set_cons_zero, List.set_cons_succ]
  refine anyE_tk 13 18 (oi := ?oi12) (v := ?v12) ?hi12 ?hd12 (by kernel_rfl) (by kernel_rfl) (by kernel_rfl) ?hQ12 ?hy12 hS ?rest12
  case hi12 => simp only [List.getElem?_toArray, List.getElem?_cons_zero, List.getElem?_cons_succ]; rfl
  case hd12 => rfl
  case hQ12 => exact fun _ _ _ h => h
  case hy12 => (refine Or.inl ⟨by rfl, ?_⟩; intro w hSw; (try dsimp only at hSw); go_simp; try with_reducible rfl)
  simp only [List.setIfInBounds_toArray, List.set_cons_zero, List.set_cons_succ]
  refine anyE_tk 14 19 (oi := ?oi13) (v := ?v13) ?hi13 ?hd13 (by kernel_rfl) (by kernel_rfl) (by kernel_rfl) ?hQ13 ?hy13 hS ?rest13
  case hi13 => simp only [List.getElem?_toArray, List.getElem?_cons_zero, List.getElem?_cons_succ]; rfl
  case hd13 => rfl
  case hQ13 => exact fun _ _ _ h => h
  case hy13 => (refine Or.inl ⟨by rfl, ?_⟩; intro w hSw; (try dsimp only at hSw); go_simp; try with_reducible rfl)
  simp only [List.setIfInBounds_toArray, List.set_cons_zero, List.set_cons_succ]
  refine anyE_tk 15 20 (oi := ?oi14) (v := ?v14) ?hi14 ?hd14 (by kernel_rfl) (by kernel_rfl) (by kernel_rfl) ?hQ14 ?hy14 hS ?rest14
  case hi14 => simp only [List.getElem?_toArray, List.getElem?_cons_zero, List.getElem?_cons_succ]; rfl
  case hd14 => rfl
  case hQ14 => exact fun _ _ _ h => h
  case hy14 => (refine Or.inl ⟨by rfl, ?_⟩; intro w hSw; (try dsimp only at hSw); go_simp; try with_reducible rfl)
  simp only [List.setIfInBounds_toArray, List.set_cons_zero, List.set_cons_succ]
  clear hS
  refine anyE_one (i := 4) (o := ?oi15) (by kernel_rfl) ?hi15 (fun K hK => ?step15)
  case hi15 => simp only [List.getElem?_toArray, List.getElem?_cons_zero, List.getElem?_cons_succ]; rfl
  go_simp
  refine (cc1.out _).mono ?_
  rintro e w1 ⟨rfl, hw1⟩
  subst w1
  go_wp2_with fail
  refine hK.out _ _ (fun _ => Keep.out _ HBi.out) ?_
  clear hK K
  try simp only [Act.put, List.setIfInBounds_toArray, List.set_cons_zero, List.set_cons_succ]
  refine anyE_one (i := 11) (o := ?oi16) (by kernel_rfl) ?hi16 (fun K hK => ?step16)
  case hi16 => simp only [List.getElem?_toArray, List.getElem?_cons_zero, List.getElem?_cons_succ]; rfl
  go_simp
  refine (cc2.out _).mono ?_
  rintro e w1 ⟨rfl, hw1⟩
  subst w1
  go_wp2_with fail
  refine hK.out _ _ (fun _ => Keep.out _ HBi.out) ?_
  clear hK K
  try simp only [Act.put, List.setIfInBounds_toArray, List.set_cons_zero, List.set_cons_succ]
  refine anyE_one (i := 16) (o := ?oi17) (by kernel_rfl) ?hi17 (fun K hK => ?step17)
  case hi17 => simp only [List.getElem?_toArray, List.getElem?_cons_zero, List.getElem?_cons_succ]; rfl
  go_simp
  refine (cs.out _ HBi.out).mono ?_
  rintro e w1 ⟨rfl, hw1⟩
  subst w1
  go_wp2_with fail
  refine hK.out _ _ (fun _ => Keep.out _ HBi.out) ?_
  clear hK K
  try simp only [Act.put, List.setIfInBounds_toArray, List.set_cons_zero, List.set_cons_succ]
  refine anyE_one (i := 17) (o := ?oi18) (by kernel_rfl) ?hi18 (fun K hK => ?step18)
  case hi18 => simp only [List.getElem?_toArray, List.getElem?_cons_zero, List.getElem?_cons_succ]; rfl
  go_simp
  go_wp2_with fail
  refine hK.out _ _ (fun _ => Keep.out _ (balloc HBi.out _)) ?_
  clear hK K
  try simp only [Act.put, List.setIfInBounds_toArray, List.set_cons_zero, List.set_cons_succ]
  have HBj := Lib.hid (balloc HBi.out (.cells #[.int .i64 c1, .int .i64 c2, .int .i64 c3] 3))
  refine anyE_one (i := 18) (o := ?oi19) (by kernel_rfl) ?hi19 (fun K hK => ?step19)
  case hi19 => simp only [List.getElem?_toArray, List.getElem?_cons_zero, List.getElem?_cons_succ]; rfl
  go_simp
  refine (Or_any wi0.heap.size 3 [c1, c2, c3] _ (by simp) (by exact blk_new' rfl)).mono ?_
  rintro e w1 ⟨rfl, hw1⟩
  subst w1
  go_wp2_with fail
  refine hK.out _ _ (fun _ => Keep.out _ HBj.out) ?_
  clear hK K
  try simp only [Act.put, List.setIfInBounds_toArray, List.set_cons_zero, List.set_cons_succ]
  refine anyE_one (i := 19) (o := ?oi20) (by kernel_rfl) ?hi20 (fun K hK => ?step20)
  case hi20 => simp only [List.getElem?_toArray, List.getElem?_cons_zero, List.getElem?_cons_succ]; rfl
  go_simp
  go_wp2_with fail
  refine hK.out _ _ (fun _ => Keep.out _ HBj.out) ?_
  clear hK K
  try simp only [Act.put, List.setIfInBounds_toArray, List.set_cons_zero, List.set_cons_succ]
  refine anyE_done (by kernel_rfl) ?_ _
  go_wp2_with fail
  go_ret
  exact ⟨rfl, HBw.out.trans (HBj.out.mono HBw.out.size)⟩
end Go.Proofs.Ytmodbpglopfghaa
