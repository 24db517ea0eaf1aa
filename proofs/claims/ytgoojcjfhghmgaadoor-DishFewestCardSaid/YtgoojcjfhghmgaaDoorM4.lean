/- The reference's base. -/
import Derived.Test.YtgoojcjfhghmgaaDoorM3
import Derived.Test.YtgoojcjfhghmgaaDoorM1
import Derived.Test.YtgoojcjfhghmgaaDoorM2

set_option linter.unusedSimpArgs false
set_option linter.unusedVariables false
namespace Go.Proofs.YtgoojcjfhghmgaaDoor
open Go Go.RowKit

set_option maxRecDepth 100000 in
set_option maxHeartbeats 8000000 in
theorem swapped_ref (AI AR : Option Addr) (cI cR B x y : Nat) (b : Bk) (w : World) (hB : B ≤ w.heap.size) (h : ItsAt B w AI b.its) (h' : RusAt B w AR b.rus) (hs : Short b) (ho : Ord b.its) (hx : x < b.its.length) (hy : y < b.its.length) :
    Calls Tryd.prog 113 #[.agg #[.int .i64 b.p, .slice AI b.its.length cI, .slice AR b.rus.length cR], .agg #[.int .i64 (x : Int), .int .i64 (y : Int)]] w fun e w' =>
      ((∃ AI' AR' cI' cR', exOk b.its ((x : Int), (y : Int)) ∧ e = .returned (.tuple #[.agg #[.int .i64 b.p, .slice AI' b.its.length cI', .slice AR' b.rus.length cR'], .bool true]) ∧ ItsN (fun q => w.heap.size ≤ q) w' AI' (exK b.its ((x : Int), (y : Int)) b.its.length) ∧ RusN (fun q => w.heap.size ≤ q) w' AR' b.rus) ∨
        (¬ exOk b.its ((x : Int), (y : Int)) ∧ e = .returned (.tuple #[.agg #[.int .i64 b.p, .slice AI b.its.length cI, .slice AR b.rus.length cR], .bool false]))) ∧ Below w.heap.size w w' := by
  have hT := h.below (Below.refl _ _) hB
  have hT' := h'.below (Below.refl _ _) hB
  have cc := Lib.hid (fun W (hW : Below w.heap.size w W) => Copy_apart AI AR cI cR w.heap.size b W hW.size (hT.below hW (Nat.le_refl _)) (hT'.below hW (Nat.le_refl _)) hs)
  have nI := hs.1
  have nR := hs.2.1
  have HOrd := Lib.hid ho
  have H40 := Lib.hid hs.2.2.1
  clear h h' hs ho hT hT' hB
  go_enter Tryd.func113, Tryd.ntmps113
  go_wp2_with fail
  generalize hW1 : ((w.alloc (.cells #[.int .i64 b.p, .slice AI b.its.length cI, .slice AR b.rus.length cR] 25)).alloc (.cells #[.int .i64 (x : Int), .int .i64 (y : Int)] 79)).alloc (.cells #[.int .i64 0, .slice none 0 0, .slice none 0 0] 25) = W1
  have HB1 := Lib.hid (show Below w.heap.size w W1 by rw [← hW1]; exact balloc (balloc (balloc (Below.refl _ _) _) _) _)
  have HK0 := Lib.hid (show Blk W1 w.heap.size 25 #[.int .i64 b.p, .slice AI b.its.length cI, .slice AR b.rus.length cR] by rw [← hW1]; exact ((Blk.new _ _ _).alloc _).alloc _)
  have HKs := Lib.hid (show Blk W1 (w.heap.size + 1) 79 #[.int .i64 (x : Int), .int .i64 (y : Int)] by rw [← hW1]; exact (blk_new' (by simp)).alloc _)
  have HK1 := Lib.hid (show Blk W1 (w.heap.size + 1 + 1) 25 #[.int .i64 0, .slice none 0 0, .slice none 0 0] by rw [← hW1]; exact blk_new' (by simp))
  have HS0 := Lib.hid (show w.heap.size + 1 + 1 < W1.heap.size from HK1.out.lt)
  clear hW1
  obtain ⟨x0, x1, x2, _⟩ := blk3 HK0.out
  go_wp2_with (go_at_call 19; refine (cc.out _ HB1.out).mono ?_; rintro e w2 ⟨AI', AR', cI', cR', ps, lo, rfl, hlo, hit, hru, hb2⟩)
  clear x0 x1 x2
  generalize hW3 : w2.alloc (.cells #[.int .i64 b.p, .slice AI' b.its.length cI', .slice AR' b.rus.length cR'] 25) = w3
  have hb23 : Below w2.heap.size w2 w3 := by rw [← hW3]; exact balloc (Below.refl _ _) _
  have HKG := Lib.hid (show Blk w3 w2.heap.size 25 #[.int .i64 b.p, .slice AI' b.its.length cI', .slice AR' b.rus.length cR'] by rw [← hW3]; exact Blk.new _ _ _)
  have HIt := Lib.hid (hit.itM.below hb23)
  have HRu := Lib.hid (hru.below hb23)
  have HB3 := Lib.hid (hb2.trans (hb23.mono hb2.size))
  have Hlo := Lib.hid hlo
  have HGi := Lib.hid (show ∀ g, (Value.slice AI' b.its.length cI').ownBlock = some g → g ≠ w2.heap.size from fun g hg e => by have := (hit.itM.2.1.lt g hg).2; omega)
  have HGw := Lib.hid (show W1.heap.size ≤ w2.heap.size from hb2.size)
  clear hW3 hit hru hlo hb23 hb2 cc
  generalize w2.heap.size = G at *
  have hxI : (x : Int) < (b.its.length : Int) := by omega
  have hyI : (y : Int) < (b.its.length : Int) := by omega
  have hx0 : (0 : Int) ≤ (x : Int) := by omega
  have hy0 : (0 : Int) ≤ (y : Int) := by omega
  go_loopw [7] (fun vi wx => ∃ (i : Nat) (ps : List (Value × Value)), i ≤ b.its.length ∧ vi = .int .i64 i ∧ Aside (ItM lo (.slice AI' b.its.length cI') wx ps (exK b.its ((x : Int), (y : Int)) i)) ∧ Aside (RusN (fun x => W1.heap.size < x ∧ x < lo) wx AR' b.rus) ∧ Aside (Blk wx G 25 #[.int .i64 b.p, .slice AI' b.its.length cI', .slice AR' b.rus.length cR']) ∧ Aside (Below W1.heap.size W1 wx) ∧ Aside (∀ k (hk : k < b.its.length), k < i → (x : Int) ∈ b.its[k].1 → y < k)) (fun vi _ => b.its.length - (intOf vi).toNat)
  case atStart => exact ⟨0, ps, Nat.zero_le _, rfl, by rw [exK_zero]; exact HIt.out, HRu.out, HKG.out, HB3.out, (fun k hk h => absurd h (Nat.not_lt_zero _))⟩
  case round =>
    clear HIt HRu HKG HB3
    obtain ⟨i, ps, hi, rfl, hit, hru, hbl, hbr, hok⟩ := hrel
    have HIt := Lib.hid hit.out
    have HRu := Lib.hid hru.out
    have HBl := Lib.hid hbl.out
    have HBr := Lib.hid hbr.out
    have HOk := Lib.hid hok.out
    obtain ⟨y0', y1', y2', _, _, _⟩ := blk3 hbl.out
    obtain ⟨s0, s1, _, _⟩ := blk2 (HKs.out.below HBr.out HKs.out.lt)
    obtain ⟨b0, b1, b2, _⟩ := blk3 (HK0.out.below HBr.out HK0.out.lt)
    have hGr : G < wr.heap.size := hbl.out.lt
    clear hit hru hbl hbr hok
    by_cases hlti : i < b.its.length
    · have hil : i < (exK b.its ((x : Int), (y : Int)) i).length := by rw [exK_length]; exact hlti
      have hgi : (exK b.its ((x : Int), (y : Int)) i)[i]'hil = b.its[i]'hlti := by rw [exK_get b.its _ i hlti, if_neg (Nat.lt_irrefl i)]
      obtain ⟨g, A1, c1, v2, rfl, hps, e0, fz, hlog, hg, hI⟩ := HIt.out.cell hil
      rw [hgi] at hps e0 hI
      have h40 := (H40.out _ (List.getElem_mem hlti)).1
      have hiI : (i : Int) < (b.its.length : Int) := by omega
      have hi0 : (0 : Int) ≤ (i : Int) := by omega
      have HI := Lib.hid hI
      have HFz := Lib.hid fz
      have HAsc := Lib.hid (HOrd.out i hlti).1
      have HPb := Lib.hid (HOrd.out i hlti).2
      have HSkip := Lib.hid (fun (hx : exM (b.its[i]'hlti).1 ((x : Int), (y : Int)) = (b.its[i]'hlti).1) => exK_skip b.its ((x : Int), (y : Int)) hlti hx)
      have HOkS := Lib.hid (show ((x : Int) ∈ (b.its[i]'hlti).1 → y < i) → ∀ k (hk : k < b.its.length), k < i + 1 → (x : Int) ∈ b.its[k].1 → y < k from fun h k hk hki hx => by
        by_cases e : k = i
        · subst e; exact h hx
        · exact HOk.out k hk (by omega) hx)
      have HSet := Lib.hid (exK_set b.its ((x : Int), (y : Int)) hlti)
      obtain ⟨np, hnp⟩ : ∃ np, np = (b.its[i]'hlti).1.length := ⟨_, rfl⟩
      rw [← hnp] at e0 h40
      have Hnp := Lib.hid hnp
      clear hI fz hps hnp
      by_cases hxy : x = y
      · have hd : ((x : Int) == (y : Int)) = true := by rw [hxy]; simp
        have HSk := Lib.hid (HSkip.out (exM_same HAsc.out (by rw [hxy])))
        have HOk2 := Lib.hid (HOkS.out fun h => by have := (HPb.out _ h).2; omega)
        go_wp2_with fail
        have hbi : Below wr.heap.size wr wr.drew := (Below.refl _ _).drew
        have Keep := Lib.hid (show wr.drew.cell? ⟨w.heap.size + 1, 0, none⟩ = some (.int .i64 (x : Int)) ∧ wr.drew.cell? ⟨w.heap.size + 1, 1, none⟩ = some (.int .i64 (y : Int)) from ⟨s0, s1⟩)
        have HIt2 := Lib.hid (HIt.out.below hbi)
        have HRu2 := Lib.hid (HRu.out.below hbi)
        have HBl2 := Lib.hid (HBl.out.below hbi hGr)
        have HBr2 := Lib.hid (HBr.out.trans (hbi.mono HBr.out.size))
        refine wp_region_E (S := fun W => W.cell? ⟨w.heap.size + 1, 0, none⟩ = some (.int .i64 (x : Int)) ∧ W.cell? ⟨w.heap.size + 1, 1, none⟩ = some (.int .i64 (y : Int))) (E := fun _ => false) (by kernel_rfl) ?_
        generalize wr.drew = wi0 at *
        have hS := Keep.out
        clear hbi
        refine anyE_tk 0 18 (oi := ?oi1) (v := ?v1) ?hi1 ?hd1 (by kernel_rfl) (by kernel_rfl) (by kernel_rfl) ?hQ1 ?hy1 hS ?rest1
        case hi1 => simp only [List.getElem?_toArray, List.getElem?_cons_zero, List.getElem?_cons_succ]; rfl
        case hd1 => rfl
        case hQ1 => exact fun _ _ _ h => h
        case hy1 => (refine Or.inl ⟨by rfl, ?_⟩; intro w hSw; (try dsimp only at hSw); go_simp; try with_reducible rfl)
        simp only [List.setIfInBounds_toArray, List.set_cons_zero, List.set_cons_succ]
        refine anyE_tk 1 19 (oi := ?oi2) (v := ?v2) ?hi2 ?hd2 (by kernel_rfl) (by kernel_rfl) (by kernel_rfl) ?hQ2 ?hy2 hS ?rest2
        case hi2 => simp only [List.getElem?_toArray, List.getElem?_cons_zero, List.getElem?_cons_succ]; rfl
        case hd2 => rfl
        case hQ2 => exact fun _ _ _ h => h
        case hy2 => (refine Or.inl ⟨by rfl, ?_⟩; intro w hSw; (try dsimp only at hSw); go_simp; try with_reducible rfl)
        simp only [List.setIfInBounds_toArray, List.set_cons_zero, List.set_cons_succ]
        refine anyE_tk 2 20 (oi := ?oi3) (v := ?v3) ?hi3 ?hd3 (by kernel_rfl) (by kernel_rfl) (by kernel_rfl) ?hQ3 ?hy3 hS ?rest3
        case hi3 => simp only [List.getElem?_toArray, List.getElem?_cons_zero, List.getElem?_cons_succ]; rfl
        case hd3 => rfl
        case hQ3 => exact fun _ _ _ h => h
        case hy3 => (refine Or.inl ⟨by rfl, ?_⟩; intro w hSw; (try dsimp only at hSw); go_simp; try with_reducible rfl)
        simp only [List.setIfInBounds_toArray, List.set_cons_zero, List.set_cons_succ]
        refine anyE_tk 3 21 (oi := ?oi4) (v := ?v4) ?hi4 ?hd4 (by kernel_rfl) (by kernel_rfl) (by kernel_rfl) ?hQ4 ?hy4 hS ?rest4
        case hi4 => simp only [List.getElem?_toArray, List.getElem?_cons_zero, List.getElem?_cons_succ]; rfl
        case hd4 => rfl
        case hQ4 => exact fun _ _ _ h => h
        case hy4 => (refine Or.inl ⟨by rfl, ?_⟩; intro w hSw; (try dsimp only at hSw); go_simp; try with_reducible rfl)
        simp only [List.setIfInBounds_toArray, List.set_cons_zero, List.set_cons_succ]
        refine anyE_tk 4 22 (oi := ?oi5) (v := ?v5) ?hi5 ?hd5 (by kernel_rfl) (by kernel_rfl) (by kernel_rfl) ?hQ5 ?hy5 hS ?rest5
        case hi5 => simp only [List.getElem?_toArray, List.getElem?_cons_zero, List.getElem?_cons_succ]; rfl
        case hd5 => rfl
        case hQ5 => exact fun _ _ _ h => h
        case hy5 => (refine Or.inl ⟨by rfl, ?_⟩; intro w hSw; (try dsimp only at hSw); go_simp; try with_reducible rfl)
        simp only [List.setIfInBounds_toArray, List.set_cons_zero, List.set_cons_succ]
        refine anyE_tk 5 23 (oi := ?oi6) (v := ?v6) ?hi6 ?hd6 (by kernel_rfl) (by kernel_rfl) (by kernel_rfl) ?hQ6 ?hy6 hS ?rest6
        case hi6 => simp only [List.getElem?_toArray, List.getElem?_cons_zero, List.getElem?_cons_succ]; rfl
        case hd6 => rfl
        case hQ6 => exact fun _ _ _ h => h
        case hy6 => (refine Or.inl ⟨by rfl, ?_⟩; intro w hSw; (try dsimp only at hSw); go_simp; try with_reducible rfl)
        simp only [List.setIfInBounds_toArray, List.set_cons_zero, List.set_cons_succ]
        refine anyE_tk 6 24 (oi := ?oi7) (v := undef) ?hi7 ?hd7 (by kernel_rfl) (by kernel_rfl) (by kernel_rfl) ?hQ7 ?hy7 hS ?rest7
        case hi7 => simp only [List.getElem?_toArray, List.getElem?_cons_zero, List.getElem?_cons_succ]; rfl
        case hd7 => rfl
        case hQ7 => exact fun _ _ _ h => h
        case hy7 => exact Or.inr ⟨by rfl, rfl⟩
        simp only [List.setIfInBounds_toArray, List.set_cons_zero, List.set_cons_succ]
        refine anyE_tk 7 25 (oi := ?oi8) (v := undef) ?hi8 ?hd8 (by kernel_rfl) (by kernel_rfl) (by kernel_rfl) ?hQ8 ?hy8 hS ?rest8
        case hi8 => simp only [List.getElem?_toArray, List.getElem?_cons_zero, List.getElem?_cons_succ]; rfl
        case hd8 => rfl
        case hQ8 => exact fun _ _ _ h => h
        case hy8 => exact Or.inr ⟨by rfl, rfl⟩
        simp only [List.setIfInBounds_toArray, List.set_cons_zero, List.set_cons_succ]
        refine anyE_tk 8 26 (oi := ?oi9) (v := undef) ?hi9 ?hd9 (by kernel_rfl) (by kernel_rfl) (by kernel_rfl) ?hQ9 ?hy9 hS ?rest9
        case hi9 => simp only [List.getElem?_toArray, List.getElem?_cons_zero, List.getElem?_cons_succ]; rfl
        case hd9 => rfl
        case hQ9 => exact fun _ _ _ h => h
        case hy9 => exact Or.inr ⟨by rfl, rfl⟩
        simp only [List.setIfInBounds_toArray, List.set_cons_zero, List.set_cons_succ]
        refine anyE_tk 9 27 (oi := ?oi10) (v := undef) ?hi10 ?hd10 (by kernel_rfl) (by kernel_rfl) (by kernel_rfl) ?hQ10 ?hy10 hS ?rest10
        case hi10 => simp only [List.getElem?_toArray, List.getElem?_cons_zero, List.getElem?_cons_succ]; rfl
        case hd10 => rfl
        case hQ10 => exact fun _ _ _ h => h
        case hy10 => exact Or.inr ⟨by rfl, rfl⟩
        simp only [List.setIfInBounds_toArray, List.set_cons_zero, List.set_cons_succ]
        refine anyE_tk 10 28 (oi := ?oi11) (v := undef) ?hi11 ?hd11 (by kernel_rfl) (by kernel_rfl) (by kernel_rfl) ?hQ11 ?hy11 hS ?rest11
        case hi11 => simp only [List.getElem?_toArray, List.getElem?_cons_zero, List.getElem?_cons_succ]; rfl
        case hd11 => rfl
        case hQ11 => exact fun _ _ _ h => h
        case hy11 => exact Or.inr ⟨by rfl, rfl⟩
        simp only [List.setIfInBounds_toArray, List.set_cons_zero, List.set_cons_succ]
        refine anyE_tk 11 29 (oi := ?oi12) (v := undef) ?hi12 ?hd12 (by kernel_rfl) (by kernel_rfl) (by kernel_rfl) ?hQ12 ?hy12 hS ?rest12
        case hi12 => simp only [List.getElem?_toArray, List.getElem?_cons_zero, List.getElem?_cons_succ]; rfl
        case hd12 => rfl
        case hQ12 => exact fun _ _ _ h => h
        case hy12 => exact Or.inr ⟨by rfl, rfl⟩
        simp only [List.setIfInBounds_toArray, List.set_cons_zero, List.set_cons_succ]
        refine anyE_tk 12 30 (oi := ?oi13) (v := undef) ?hi13 ?hd13 (by kernel_rfl) (by kernel_rfl) (by kernel_rfl) ?hQ13 ?hy13 hS ?rest13
        case hi13 => simp only [List.getElem?_toArray, List.getElem?_cons_zero, List.getElem?_cons_succ]; rfl
        case hd13 => rfl
        case hQ13 => exact fun _ _ _ h => h
        case hy13 => exact Or.inr ⟨by rfl, rfl⟩
        simp only [List.setIfInBounds_toArray, List.set_cons_zero, List.set_cons_succ]
        refine anyE_tk 13 31 (oi := ?oi14) (v := undef) ?hi14 ?hd14 (by kernel_rfl) (by kernel_rfl) (by kernel_rfl) ?hQ14 ?hy14 hS ?rest14
        case hi14 => simp only [List.getElem?_toArray, List.getElem?_cons_zero, List.getElem?_cons_succ]; rfl
        case hd14 => rfl
        case hQ14 => exact fun _ _ _ h => h
        case hy14 => exact Or.inr ⟨by rfl, rfl⟩
        simp only [List.setIfInBounds_toArray, List.set_cons_zero, List.set_cons_succ]
        refine anyE_tk 14 32 (oi := ?oi15) (v := undef) ?hi15 ?hd15 (by kernel_rfl) (by kernel_rfl) (by kernel_rfl) ?hQ15 ?hy15 hS ?rest15
        case hi15 => simp only [List.getElem?_toArray, List.getElem?_cons_zero, List.getElem?_cons_succ]; rfl
        case hd15 => rfl
        case hQ15 => exact fun _ _ _ h => h
        case hy15 => exact Or.inr ⟨by rfl, rfl⟩
        simp only [List.setIfInBounds_toArray, List.set_cons_zero, List.set_cons_succ]
        refine anyE_tk 15 33 (oi := ?oi16) (v := undef) ?hi16 ?hd16 (by kernel_rfl) (by kernel_rfl) (by kernel_rfl) ?hQ16 ?hy16 hS ?rest16
        case hi16 => simp only [List.getElem?_toArray, List.getElem?_cons_zero, List.getElem?_cons_succ]; rfl
        case hd16 => rfl
        case hQ16 => exact fun _ _ _ h => h
        case hy16 => exact Or.inr ⟨by rfl, rfl⟩
        simp only [List.setIfInBounds_toArray, List.set_cons_zero, List.set_cons_succ]
        refine anyE_tk 16 34 (oi := ?oi17) (v := ?v17) ?hi17 ?hd17 (by kernel_rfl) (by kernel_rfl) (by kernel_rfl) ?hQ17 ?hy17 hS ?rest17
        case hi17 => simp only [List.getElem?_toArray, List.getElem?_cons_zero, List.getElem?_cons_succ]; rfl
        case hd17 => rfl
        case hQ17 => exact fun _ _ _ h => h
        case hy17 => (refine Or.inl ⟨by rfl, ?_⟩; intro w hSw; (try dsimp only at hSw); go_simp; try with_reducible rfl)
        simp only [List.setIfInBounds_toArray, List.set_cons_zero, List.set_cons_succ]
        clear hS
        refine anyE_done (by kernel_rfl) ?_ _
        go_wp2_with fail
        go_roundw
        case rel => exact ⟨i + 1, ps, by omega, by go_num, by rw [← HSk.out]; exact HIt2.out, HRu2.out, HBl2.out, HBr2.out, HOk2.out⟩
        case measure => simp [intOf]; omega
      · have hd : ((x : Int) == (y : Int)) = false := by rw [beq_eq_false_iff_ne]; omega
        go_wp2_with fail
        have hbi : Below wr.heap.size wr wr.drew := (Below.refl _ _).drew
        have Keep := Lib.hid (show wr.drew.cell? ⟨w.heap.size + 1, 0, none⟩ = some (.int .i64 (x : Int)) ∧ wr.drew.cell? ⟨w.heap.size + 1, 1, none⟩ = some (.int .i64 (y : Int)) ∧ wr.drew.cell? ⟨G, 1, none⟩ = some (.slice (some ⟨g, 0, none⟩) b.its.length cI') ∧ wr.drew.cell? ⟨g, i * 2, none⟩ = some (.slice A1 np c1) from ⟨s0, s1, y1', e0⟩)
        have HIt2 := Lib.hid (HIt.out.below hbi)
        have HRu2 := Lib.hid (HRu.out.below hbi)
        have HBl2 := Lib.hid (HBl.out.below hbi hGr)
        have HBr2 := Lib.hid (HBr.out.trans (hbi.mono HBr.out.size))
        have HI2 := Lib.hid (HI.out.below hbi hbi.size)
        have HFz2 := Lib.hid (show wr.drew.frozen? ⟨g, i * 2, none⟩ = false from HFz.out)
        have hg2 : g < wr.drew.heap.size := Nat.lt_of_lt_of_le hg hbi.size
        have hG2 : G < wr.drew.heap.size := Nat.lt_of_lt_of_le hGr hbi.size
        have ch0 := Has_ref A1 c1 wr.drew.heap.size (b.its[i]'hlti).1 (x : Int) wr.drew HI2.out (by have := Hnp.out; omega)
        rw [← Hnp.out] at ch0
        refine wp_region_E (S := fun W => W.cell? ⟨w.heap.size + 1, 0, none⟩ = some (.int .i64 (x : Int)) ∧ W.cell? ⟨w.heap.size + 1, 1, none⟩ = some (.int .i64 (y : Int)) ∧ W.cell? ⟨G, 1, none⟩ = some (.slice (some ⟨g, 0, none⟩) b.its.length cI') ∧ W.cell? ⟨g, i * 2, none⟩ = some (.slice A1 np c1)) (E := fun _ => false) (by kernel_rfl) ?_
        generalize wr.drew = wi0 at *
        have hS := Keep.out
        clear hbi s0 s1 y0' y1' y2' b0 b1 b2 e0 hg hGr
        by_cases hxP : (x : Int) ∈ (b.its[i]'hlti).1
        · have hc : (b.its[i]'hlti).1.contains (x : Int) = true := List.contains_iff_mem.2 hxP
          rw [hc] at ch0
          have ch := Lib.hid ch0
          clear ch0
          refine anyE_tk 0 18 (oi := ?oi18) (v := ?v18) ?hi18 ?hd18 (by kernel_rfl) (by kernel_rfl) (by kernel_rfl) ?hQ18 ?hy18 hS ?rest18
          case hi18 => simp only [List.getElem?_toArray, List.getElem?_cons_zero, List.getElem?_cons_succ]; rfl
          case hd18 => rfl
          case hQ18 => exact fun _ _ _ h => h
          case hy18 => (refine Or.inl ⟨by rfl, ?_⟩; intro w hSw; (try dsimp only at hSw); go_simp; try with_reducible rfl)
          simp only [List.setIfInBounds_toArray, List.set_cons_zero, List.set_cons_succ]
          refine anyE_tk 1 19 (oi := ?oi19) (v := ?v19) ?hi19 ?hd19 (by kernel_rfl) (by kernel_rfl) (by kernel_rfl) ?hQ19 ?hy19 hS ?rest19
          case hi19 => simp only [List.getElem?_toArray, List.getElem?_cons_zero, List.getElem?_cons_succ]; rfl
          case hd19 => rfl
          case hQ19 => exact fun _ _ _ h => h
          case hy19 => (refine Or.inl ⟨by rfl, ?_⟩; intro w hSw; (try dsimp only at hSw); go_simp; try with_reducible rfl)
          simp only [List.setIfInBounds_toArray, List.set_cons_zero, List.set_cons_succ]
          refine anyE_tk 2 20 (oi := ?oi20) (v := ?v20) ?hi20 ?hd20 (by kernel_rfl) (by kernel_rfl) (by kernel_rfl) ?hQ20 ?hy20 hS ?rest20
          case hi20 => simp only [List.getElem?_toArray, List.getElem?_cons_zero, List.getElem?_cons_succ]; rfl
          case hd20 => rfl
          case hQ20 => exact fun _ _ _ h => h
          case hy20 => (refine Or.inl ⟨by rfl, ?_⟩; intro w hSw; (try dsimp only at hSw); go_simp; try with_reducible rfl)
          simp only [List.setIfInBounds_toArray, List.set_cons_zero, List.set_cons_succ]
          refine anyE_tk 3 21 (oi := ?oi21) (v := ?v21) ?hi21 ?hd21 (by kernel_rfl) (by kernel_rfl) (by kernel_rfl) ?hQ21 ?hy21 hS ?rest21
          case hi21 => simp only [List.getElem?_toArray, List.getElem?_cons_zero, List.getElem?_cons_succ]; rfl
          case hd21 => rfl
          case hQ21 => exact fun _ _ _ h => h
          case hy21 => (refine Or.inl ⟨by rfl, ?_⟩; intro w hSw; (try dsimp only at hSw); go_simp; try with_reducible rfl)
          simp only [List.setIfInBounds_toArray, List.set_cons_zero, List.set_cons_succ]
          refine anyE_tk 4 22 (oi := ?oi22) (v := ?v22) ?hi22 ?hd22 (by kernel_rfl) (by kernel_rfl) (by kernel_rfl) ?hQ22 ?hy22 hS ?rest22
          case hi22 => simp only [List.getElem?_toArray, List.getElem?_cons_zero, List.getElem?_cons_succ]; rfl
          case hd22 => rfl
          case hQ22 => exact fun _ _ _ h => h
          case hy22 => (refine Or.inl ⟨by rfl, ?_⟩; intro w hSw; (try dsimp only at hSw); go_simp; try with_reducible rfl)
          simp only [List.setIfInBounds_toArray, List.set_cons_zero, List.set_cons_succ]
          refine anyE_tk 5 23 (oi := ?oi23) (v := ?v23) ?hi23 ?hd23 (by kernel_rfl) (by kernel_rfl) (by kernel_rfl) ?hQ23 ?hy23 hS ?rest23
          case hi23 => simp only [List.getElem?_toArray, List.getElem?_cons_zero, List.getElem?_cons_succ]; rfl
          case hd23 => rfl
          case hQ23 => exact fun _ _ _ h => h
          case hy23 => (refine Or.inl ⟨by rfl, ?_⟩; intro w hSw; (try dsimp only at hSw); go_simp; try with_reducible rfl)
          simp only [List.setIfInBounds_toArray, List.set_cons_zero, List.set_cons_succ]
          refine anyE_tk 6 24 (oi := ?oi24) (v := ?v24) ?hi24 ?hd24 (by kernel_rfl) (by kernel_rfl) (by kernel_rfl) ?hQ24 ?hy24 hS ?rest24
          case hi24 => simp only [List.getElem?_toArray, List.getElem?_cons_zero, List.getElem?_cons_succ]; rfl
          case hd24 => rfl
          case hQ24 => exact fun _ _ _ h => h
          case hy24 => (refine Or.inl ⟨by rfl, ?_⟩; intro w hSw; (try dsimp only at hSw); go_simp; try with_reducible rfl)
          simp only [List.setIfInBounds_toArray, List.set_cons_zero, List.set_cons_succ]
          refine anyE_tk 7 25 (oi := ?oi25) (v := ?v25) ?hi25 ?hd25 (by kernel_rfl) (by kernel_rfl) (by kernel_rfl) ?hQ25 ?hy25 hS ?rest25
          case hi25 => simp only [List.getElem?_toArray, List.getElem?_cons_zero, List.getElem?_cons_succ]; rfl
          case hd25 => rfl
          case hQ25 => exact fun _ _ _ h => h
          case hy25 => (refine Or.inl ⟨by rfl, ?_⟩; intro w hSw; (try dsimp only at hSw); go_simp; try with_reducible rfl)
          simp only [List.setIfInBounds_toArray, List.set_cons_zero, List.set_cons_succ]
          refine anyE_tk 8 26 (oi := ?oi26) (v := ?v26) ?hi26 ?hd26 (by kernel_rfl) (by kernel_rfl) (by kernel_rfl) ?hQ26 ?hy26 hS ?rest26
          case hi26 => simp only [List.getElem?_toArray, List.getElem?_cons_zero, List.getElem?_cons_succ]; rfl
          case hd26 => rfl
          case hQ26 => exact fun _ _ _ h => h
          case hy26 => (refine Or.inl ⟨by rfl, ?_⟩; intro w hSw; (try dsimp only at hSw); go_simp; try with_reducible rfl)
          simp only [List.setIfInBounds_toArray, List.set_cons_zero, List.set_cons_succ]
          refine anyE_tk 9 27 (oi := ?oi27) (v := ?v27) ?hi27 ?hd27 (by kernel_rfl) (by kernel_rfl) (by kernel_rfl) ?hQ27 ?hy27 hS ?rest27
          case hi27 => simp only [List.getElem?_toArray, List.getElem?_cons_zero, List.getElem?_cons_succ]; rfl
          case hd27 => rfl
          case hQ27 => exact fun _ _ _ h => h
          case hy27 => (refine Or.inl ⟨by rfl, ?_⟩; intro w hSw; (try dsimp only at hSw); go_simp; try with_reducible rfl)
          simp only [List.setIfInBounds_toArray, List.set_cons_zero, List.set_cons_succ]
          refine anyE_tk 10 28 (oi := ?oi28) (v := ?v28) ?hi28 ?hd28 (by kernel_rfl) (by kernel_rfl) (by kernel_rfl) ?hQ28 ?hy28 hS ?rest28
          case hi28 => simp only [List.getElem?_toArray, List.getElem?_cons_zero, List.getElem?_cons_succ]; rfl
          case hd28 => rfl
          case hQ28 => exact fun _ _ _ h => h
          case hy28 => (refine Or.inl ⟨by rfl, ?_⟩; intro w hSw; (try dsimp only at hSw); go_simp; try with_reducible rfl)
          simp only [List.setIfInBounds_toArray, List.set_cons_zero, List.set_cons_succ]
          refine anyE_tk 11 29 (oi := ?oi29) (v := ?v29) ?hi29 ?hd29 (by kernel_rfl) (by kernel_rfl) (by kernel_rfl) ?hQ29 ?hy29 hS ?rest29
          case hi29 => simp only [List.getElem?_toArray, List.getElem?_cons_zero, List.getElem?_cons_succ]; rfl
          case hd29 => rfl
          case hQ29 => exact fun _ _ _ h => h
          case hy29 => (refine Or.inl ⟨by rfl, ?_⟩; intro w hSw; (try dsimp only at hSw); go_simp; try with_reducible rfl)
          simp only [List.setIfInBounds_toArray, List.set_cons_zero, List.set_cons_succ]
          refine anyE_tk 12 30 (oi := ?oi30) (v := ?v30) ?hi30 ?hd30 (by kernel_rfl) (by kernel_rfl) (by kernel_rfl) ?hQ30 ?hy30 hS ?rest30
          case hi30 => simp only [List.getElem?_toArray, List.getElem?_cons_zero, List.getElem?_cons_succ]; rfl
          case hd30 => rfl
          case hQ30 => exact fun _ _ _ h => h
          case hy30 => (refine Or.inl ⟨by rfl, ?_⟩; intro w hSw; (try dsimp only at hSw); go_simp; try with_reducible rfl)
          simp only [List.setIfInBounds_toArray, List.set_cons_zero, List.set_cons_succ]
          refine anyE_tk 13 31 (oi := ?oi31) (v := ?v31) ?hi31 ?hd31 (by kernel_rfl) (by kernel_rfl) (by kernel_rfl) ?hQ31 ?hy31 hS ?rest31
          case hi31 => simp only [List.getElem?_toArray, List.getElem?_cons_zero, List.getElem?_cons_succ]; rfl
          case hd31 => rfl
          case hQ31 => exact fun _ _ _ h => h
          case hy31 => (refine Or.inl ⟨by rfl, ?_⟩; intro w hSw; (try dsimp only at hSw); go_simp; try with_reducible rfl)
          simp only [List.setIfInBounds_toArray, List.set_cons_zero, List.set_cons_succ]
          clear hS
          refine anyE_one (i := 14) (o := ?oi32) (by kernel_rfl) ?hi32 (fun K hK => ?step32)
          case hi32 => simp only [List.getElem?_toArray, List.getElem?_cons_zero, List.getElem?_cons_succ]; rfl
          go_simp
          refine ch.out.mono ?_
          rintro e w7 ⟨rfl, hw7⟩
          subst w7
          go_wp2_with fail
          refine hK.out _ _ (fun _ => Keep.out) ?_
          clear hK K
          try simp only [Act.put, List.setIfInBounds_toArray, List.set_cons_zero, List.set_cons_succ]
          refine anyE_tk 15 33 (oi := ?oi33) (v := ?v33) ?hi33 ?hd33 (by kernel_rfl) (by kernel_rfl) (by kernel_rfl) ?hQ33 ?hy33 Keep.out ?rest33
          case hi33 => simp only [List.getElem?_toArray, List.getElem?_cons_zero, List.getElem?_cons_succ]; rfl
          case hd33 => rfl
          case hQ33 => exact fun _ _ _ h => h
          case hy33 => (refine Or.inl ⟨by rfl, ?_⟩; intro w hSw; (try dsimp only at hSw); go_simp; try with_reducible rfl)
          simp only [List.setIfInBounds_toArray, List.set_cons_zero, List.set_cons_succ]
          refine anyE_tk 16 34 (oi := ?oi34) (v := ?v34) ?hi34 ?hd34 (by kernel_rfl) (by kernel_rfl) (by kernel_rfl) ?hQ34 ?hy34 Keep.out ?rest34
          case hi34 => simp only [List.getElem?_toArray, List.getElem?_cons_zero, List.getElem?_cons_succ]; rfl
          case hd34 => rfl
          case hQ34 => exact fun _ _ _ h => h
          case hy34 => (refine Or.inl ⟨by rfl, ?_⟩; intro w hSw; (try dsimp only at hSw); go_simp; try with_reducible rfl)
          simp only [List.setIfInBounds_toArray, List.set_cons_zero, List.set_cons_succ]
          refine anyE_done (by kernel_rfl) ?_ _
          obtain ⟨s0, s1, _, _⟩ := Keep.out
          obtain ⟨y0', y1', y2', _, _, _⟩ := blk3 HBl2.out
          obtain ⟨b0, b1, b2, _⟩ := blk3 (HK0.out.below HBr2.out HK0.out.lt)
          by_cases hyi : y < i
          · have HOk2 := Lib.hid (HOkS.out fun _ => hyi)
            have hyiI : (y : Int) < (i : Int) := by omega
            go_wp2_with fail
            have hb1' : Below wi0.heap.size wi0 wi0.drew := (Below.refl _ _).drew
            have KeepB := Lib.hid (show ∀ W, Below wi0.drew.heap.size wi0.drew W → W.cell? ⟨G, 1, none⟩ = some (.slice (some ⟨g, 0, none⟩) b.its.length cI') ∧ W.cell? ⟨g, i * 2, none⟩ = some (.slice A1 np c1) ∧ W.cell? ⟨w.heap.size, 1, none⟩ = some (.slice AI b.its.length cI) from fun W hW => by
              have hbb := hb1'.trans (hW.mono hb1'.size)
              have hw0 : w.heap.size < wi0.heap.size := Nat.lt_of_lt_of_le (by have := HS0.out; omega) HBr2.out.size
              exact ⟨(hbb.cell (p := ⟨G, 1, none⟩) hG2).trans y1', (hbb.cell (p := ⟨g, i * 2, none⟩) hg2).trans Keep.out.2.2.2, (hbb.cell (p := ⟨w.heap.size, 1, none⟩) hw0).trans b1⟩)
            have hint : intL (natL (b.its[i]'hlti).1) = (b.its[i]'hlti).1 := int_nat fun z hz => (HPb.out z hz).1
            have hPn : ∀ z ∈ (b.its[i]'hlti).1, 0 ≤ z ∧ z < ((b.its.length : Nat) : Int) := fun z hz => by
              have := HPb.out z hz
              exact ⟨this.1, by omega⟩
            have cm0 := marks_ref A1 c1 wi0.drew.heap.size (natL (b.its[i]'hlti).1) b.its.length wi0.drew (Nat.le_refl _) (by rw [hint]; exact HI2.out.below hb1' hb1'.size) (by rw [natL_length, ← Hnp.out]; omega) (natL_lt hPn) (by omega)
            rw [natL_length, ← Hnp.out] at cm0
            have cm := Lib.hid cm0
            have HPn := Lib.hid hPn
            have Hb1 := Lib.hid hb1'
            have hwM : wi0.heap.size ≤ wi0.drew.heap.size := hb1'.size
            refine wp_region_E (S := fun W => W.cell? ⟨G, 1, none⟩ = some (.slice (some ⟨g, 0, none⟩) b.its.length cI') ∧ W.cell? ⟨g, i * 2, none⟩ = some (.slice A1 np c1) ∧ W.cell? ⟨w.heap.size, 1, none⟩ = some (.slice AI b.its.length cI)) (E := fun _ => false) (by kernel_rfl) ?_
            have HBi := Lib.hid (Below.refl wi0.drew.heap.size wi0.drew)
            have KeepS0 := Lib.hid Keep.out
            clear cm0 hint hPn hb1' Keep s0 s1 y0' y1' y2' b0 b1 b2
            generalize wi0.drew = wi1 at *
            have hS := KeepB.out _ HBi.out
            refine anyE_tk 0 40 (oi := ?oi35) (v := ?v35) ?hi35 ?hd35 (by kernel_rfl) (by kernel_rfl) (by kernel_rfl) ?hQ35 ?hy35 hS ?rest35
            case hi35 => simp only [List.getElem?_toArray, List.getElem?_cons_zero, List.getElem?_cons_succ]; rfl
            case hd35 => rfl
            case hQ35 => exact fun _ _ _ h => h
            case hy35 => (refine Or.inl ⟨by rfl, ?_⟩; intro w hSw; (try dsimp only at hSw); go_simp; try with_reducible rfl)
            simp only [List.setIfInBounds_toArray, List.set_cons_zero, List.set_cons_succ]
            refine anyE_tk 1 41 (oi := ?oi36) (v := ?v36) ?hi36 ?hd36 (by kernel_rfl) (by kernel_rfl) (by kernel_rfl) ?hQ36 ?hy36 hS ?rest36
            case hi36 => simp only [List.getElem?_toArray, List.getElem?_cons_zero, List.getElem?_cons_succ]; rfl
            case hd36 => rfl
            case hQ36 => exact fun _ _ _ h => h
            case hy36 => (refine Or.inl ⟨by rfl, ?_⟩; intro w hSw; (try dsimp only at hSw); go_simp; try with_reducible rfl)
            simp only [List.setIfInBounds_toArray, List.set_cons_zero, List.set_cons_succ]
            refine anyE_tk 2 42 (oi := ?oi37) (v := ?v37) ?hi37 ?hd37 (by kernel_rfl) (by kernel_rfl) (by kernel_rfl) ?hQ37 ?hy37 hS ?rest37
            case hi37 => simp only [List.getElem?_toArray, List.getElem?_cons_zero, List.getElem?_cons_succ]; rfl
            case hd37 => rfl
            case hQ37 => exact fun _ _ _ h => h
            case hy37 => (refine Or.inl ⟨by rfl, ?_⟩; intro w hSw; (try dsimp only at hSw); go_simp; try with_reducible rfl)
            simp only [List.setIfInBounds_toArray, List.set_cons_zero, List.set_cons_succ]
            refine anyE_tk 3 43 (oi := ?oi38) (v := ?v38) ?hi38 ?hd38 (by kernel_rfl) (by kernel_rfl) (by kernel_rfl) ?hQ38 ?hy38 hS ?rest38
            case hi38 => simp only [List.getElem?_toArray, List.getElem?_cons_zero, List.getElem?_cons_succ]; rfl
            case hd38 => rfl
            case hQ38 => exact fun _ _ _ h => h
            case hy38 => (refine Or.inl ⟨by rfl, ?_⟩; intro w hSw; (try dsimp only at hSw); go_simp; try with_reducible rfl)
            simp only [List.setIfInBounds_toArray, List.set_cons_zero, List.set_cons_succ]
            refine anyE_tk 4 44 (oi := ?oi39) (v := ?v39) ?hi39 ?hd39 (by kernel_rfl) (by kernel_rfl) (by kernel_rfl) ?hQ39 ?hy39 hS ?rest39
            case hi39 => simp only [List.getElem?_toArray, List.getElem?_cons_zero, List.getElem?_cons_succ]; rfl
            case hd39 => rfl
            case hQ39 => exact fun _ _ _ h => h
            case hy39 => (refine Or.inl ⟨by rfl, ?_⟩; intro w hSw; (try dsimp only at hSw); go_simp; try with_reducible rfl)
            simp only [List.setIfInBounds_toArray, List.set_cons_zero, List.set_cons_succ]
            refine anyE_tk 5 45 (oi := ?oi40) (v := ?v40) ?hi40 ?hd40 (by kernel_rfl) (by kernel_rfl) (by kernel_rfl) ?hQ40 ?hy40 hS ?rest40
            case hi40 => simp only [List.getElem?_toArray, List.getElem?_cons_zero, List.getElem?_cons_succ]; rfl
            case hd40 => rfl
            case hQ40 => exact fun _ _ _ h => h
            case hy40 => (refine Or.inl ⟨by rfl, ?_⟩; intro w hSw; (try dsimp only at hSw); go_simp; try with_reducible rfl)
            simp only [List.setIfInBounds_toArray, List.set_cons_zero, List.set_cons_succ]
            refine anyE_tk 6 46 (oi := ?oi41) (v := ?v41) ?hi41 ?hd41 (by kernel_rfl) (by kernel_rfl) (by kernel_rfl) ?hQ41 ?hy41 hS ?rest41
            case hi41 => simp only [List.getElem?_toArray, List.getElem?_cons_zero, List.getElem?_cons_succ]; rfl
            case hd41 => rfl
            case hQ41 => exact fun _ _ _ h => h
            case hy41 => (refine Or.inl ⟨by rfl, ?_⟩; intro w hSw; (try dsimp only at hSw); go_simp; try with_reducible rfl)
            simp only [List.setIfInBounds_toArray, List.set_cons_zero, List.set_cons_succ]
            refine anyE_tk 7 47 (oi := ?oi42) (v := ?v42) ?hi42 ?hd42 (by kernel_rfl) (by kernel_rfl) (by kernel_rfl) ?hQ42 ?hy42 hS ?rest42
            case hi42 => simp only [List.getElem?_toArray, List.getElem?_cons_zero, List.getElem?_cons_succ]; rfl
            case hd42 => rfl
            case hQ42 => exact fun _ _ _ h => h
            case hy42 => (refine Or.inl ⟨by rfl, ?_⟩; intro w hSw; (try dsimp only at hSw); go_simp; try with_reducible rfl)
            simp only [List.setIfInBounds_toArray, List.set_cons_zero, List.set_cons_succ]
            refine anyE_tk 8 48 (oi := ?oi43) (v := ?v43) ?hi43 ?hd43 (by kernel_rfl) (by kernel_rfl) (by kernel_rfl) ?hQ43 ?hy43 hS ?rest43
            case hi43 => simp only [List.getElem?_toArray, List.getElem?_cons_zero, List.getElem?_cons_succ]; rfl
            case hd43 => rfl
            case hQ43 => exact fun _ _ _ h => h
            case hy43 => (refine Or.inl ⟨by rfl, ?_⟩; intro w hSw; (try dsimp only at hSw); go_simp; try with_reducible rfl)
            simp only [List.setIfInBounds_toArray, List.set_cons_zero, List.set_cons_succ]
            clear hS
            refine anyE_one (i := 9) (o := ?oi44) (by kernel_rfl) ?hi44 (fun K hK => ?step44)
            case hi44 => simp only [List.getElem?_toArray, List.getElem?_cons_zero, List.getElem?_cons_succ]; rfl
            go_simp
            refine cm.out.mono ?_
            rintro e w7 ⟨rfl, hbb, hb7⟩
            have HBB := Lib.hid hbb
            have HB7 := Lib.hid hb7
            clear hbb hb7
            go_wp2_with fail
            refine hK.out _ _ (fun _ => KeepB.out _ HB7.out) ?_
            clear hK K
            try simp only [Act.put, List.setIfInBounds_toArray, List.set_cons_zero, List.set_cons_succ]
            refine anyE_one (i := 10) (o := ?oi45) (by kernel_rfl) ?hi45 (fun K hK => ?step45)
            case hi45 => simp only [List.getElem?_toArray, List.getElem?_cons_zero, List.getElem?_cons_succ]; rfl
            go_simp
            go_wp2_with fail
            refine hK.out _ _ (fun _ => KeepB.out _ HB7.out) ?_
            clear hK K
            try simp only [Act.put, List.setIfInBounds_toArray, List.set_cons_zero, List.set_cons_succ]
            refine anyE_done (by kernel_rfl) ?_ _
            have HB7b := Lib.hid (Hb1.out.trans (HB7.out.mono Hb1.out.size))
            obtain ⟨cs, hcs, hcn, hcb⟩ := HBB.out
            have HCs := Lib.hid hcs
            have HCb := Lib.hid hcb
            generalize hMM : wi1.heap.size = M at *
            have HM := Lib.hid (show wi0.heap.size ≤ M from hwM)
            have Hb7 := Lib.hid (show Below wi0.heap.size wi0 w7.drew from HB7b.out.drew)
            have HC2 := Lib.hid (show Blk w7.drew M 4 cs from HCs.out)
            obtain ⟨k0, k1, _, _⟩ := blk2 (HKs.out.below (HBr2.out.trans (Hb7.out.mono HBr2.out.size)) HKs.out.lt)
            clear HBB HCs hcs hcb HB7 HBi cm hwM
            go_wp2_with fail
            refine wp_region_E (S := fun W => W.cell? ⟨w.heap.size + 1, 0, none⟩ = some (.int .i64 (x : Int)) ∧ W.cell? ⟨w.heap.size + 1, 1, none⟩ = some (.int .i64 (y : Int))) (E := fun _ => false) (by kernel_rfl) ?_
            generalize w7.drew = wi2 at *
            have hMl := HC2.out.lt
            have HBA := Lib.hid (below_put' Hb7.out HM.out x (.bool false))
            have HBD := Lib.hid (below_put' HBA.out HM.out y (.bool true))
            have HCA := Lib.hid (HC2.out.put x (.bool false))
            have HCD := Lib.hid (HCA.out.put y (.bool true))
            have q1 : wi2.cell? ⟨M, x, none⟩ = some (.bool ((mk (natL (b.its[i]'hlti).1)).testBit x)) := by rw [HC2.out.cell]; exact HCb.out x hx
            have q2 : wi2.frozen? ⟨M, x, none⟩ = false := HC2.out.frozen x
            have q3 : (wi2.setCell ⟨M, x, none⟩ (.bool false)).cell? ⟨M, y, none⟩ = some (.bool ((mk (natL (b.its[i]'hlti).1)).testBit y)) := by
              rw [HCA.out.cell, Array.getElem?_setIfInBounds_ne hxy]; exact HCb.out y hy
            have q4 : (wi2.setCell ⟨M, x, none⟩ (.bool false)).frozen? ⟨M, y, none⟩ = false := HCA.out.frozen y
            have Keep := Lib.hid (And.intro k0 k1)
            have Keep1 := Lib.hid (show (wi2.setCell ⟨M, x, none⟩ (.bool false)).cell? ⟨w.heap.size + 1, 0, none⟩ = some (.int .i64 (x : Int)) ∧ (wi2.setCell ⟨M, x, none⟩ (.bool false)).cell? ⟨w.heap.size + 1, 1, none⟩ = some (.int .i64 (y : Int)) from by
              obtain ⟨k0, k1, _, _⟩ := blk2 (HKs.out.below (HBr2.out.trans (HBA.out.mono HBr2.out.size)) HKs.out.lt)
              exact ⟨k0, k1⟩)
            have Keep2 := Lib.hid (show ((wi2.setCell ⟨M, x, none⟩ (.bool false)).setCell ⟨M, y, none⟩ (.bool true)).cell? ⟨w.heap.size + 1, 0, none⟩ = some (.int .i64 (x : Int)) ∧ ((wi2.setCell ⟨M, x, none⟩ (.bool false)).setCell ⟨M, y, none⟩ (.bool true)).cell? ⟨w.heap.size + 1, 1, none⟩ = some (.int .i64 (y : Int)) from by
              obtain ⟨k0, k1, _, _⟩ := blk2 (HKs.out.below (HBr2.out.trans (HBD.out.mono HBr2.out.size)) HKs.out.lt)
              exact ⟨k0, k1⟩)
            have hS := Keep.out
            clear k0 k1
            refine anyE_tk 0 50 (oi := ?oi46) (v := ?v46) ?hi46 ?hd46 (by kernel_rfl) (by kernel_rfl) (by kernel_rfl) ?hQ46 ?hy46 hS ?rest46
            case hi46 => simp only [List.getElem?_toArray, List.getElem?_cons_zero, List.getElem?_cons_succ]; rfl
            case hd46 => rfl
            case hQ46 => exact fun _ _ _ h => h
            case hy46 => (refine Or.inl ⟨by rfl, ?_⟩; intro w hSw; (try dsimp only at hSw); go_simp; try with_reducible rfl)
            simp only [List.setIfInBounds_toArray, List.set_cons_zero, List.set_cons_succ]
            refine anyE_tk 1 51 (oi := ?oi47) (v := ?v47) ?hi47 ?hd47 (by kernel_rfl) (by kernel_rfl) (by kernel_rfl) ?hQ47 ?hy47 hS ?rest47
            case hi47 => simp only [List.getElem?_toArray, List.getElem?_cons_zero, List.getElem?_cons_succ]; rfl
            case hd47 => rfl
            case hQ47 => exact fun _ _ _ h => h
            case hy47 => (refine Or.inl ⟨by rfl, ?_⟩; intro w hSw; (try dsimp only at hSw); go_simp; try with_reducible rfl)
            simp only [List.setIfInBounds_toArray, List.set_cons_zero, List.set_cons_succ]
            refine anyE_tk 2 52 (oi := ?oi48) (v := ?v48) ?hi48 ?hd48 (by kernel_rfl) (by kernel_rfl) (by kernel_rfl) ?hQ48 ?hy48 hS ?rest48
            case hi48 => simp only [List.getElem?_toArray, List.getElem?_cons_zero, List.getElem?_cons_succ]; rfl
            case hd48 => rfl
            case hQ48 => exact fun _ _ _ h => h
            case hy48 => (refine Or.inl ⟨by rfl, ?_⟩; intro w hSw; (try dsimp only at hSw); go_simp; try with_reducible rfl)
            simp only [List.setIfInBounds_toArray, List.set_cons_zero, List.set_cons_succ]
            refine anyE_tk 3 53 (oi := ?oi49) (v := ?v49) ?hi49 ?hd49 (by kernel_rfl) (by kernel_rfl) (by kernel_rfl) ?hQ49 ?hy49 hS ?rest49
            case hi49 => simp only [List.getElem?_toArray, List.getElem?_cons_zero, List.getElem?_cons_succ]; rfl
            case hd49 => rfl
            case hQ49 => exact fun _ _ _ h => h
            case hy49 => (refine Or.inl ⟨by rfl, ?_⟩; intro w hSw; (try dsimp only at hSw); go_simp; try with_reducible rfl)
            simp only [List.setIfInBounds_toArray, List.set_cons_zero, List.set_cons_succ]
            refine anyE_tk 4 54 (oi := ?oi50) (v := ?v50) ?hi50 ?hd50 (by kernel_rfl) (by kernel_rfl) (by kernel_rfl) ?hQ50 ?hy50 hS ?rest50
            case hi50 => simp only [List.getElem?_toArray, List.getElem?_cons_zero, List.getElem?_cons_succ]; rfl
            case hd50 => rfl
            case hQ50 => exact fun _ _ _ h => h
            case hy50 => (refine Or.inl ⟨by rfl, ?_⟩; intro w hSw; (try dsimp only at hSw); go_simp; try with_reducible rfl)
            simp only [List.setIfInBounds_toArray, List.set_cons_zero, List.set_cons_succ]
            refine anyE_tk 5 55 (oi := ?oi51) (v := ?v51) ?hi51 ?hd51 (by kernel_rfl) (by kernel_rfl) (by kernel_rfl) ?hQ51 ?hy51 hS ?rest51
            case hi51 => simp only [List.getElem?_toArray, List.getElem?_cons_zero, List.getElem?_cons_succ]; rfl
            case hd51 => rfl
            case hQ51 => exact fun _ _ _ h => h
            case hy51 => (refine Or.inl ⟨by rfl, ?_⟩; intro w hSw; (try dsimp only at hSw); go_simp; try with_reducible rfl)
            simp only [List.setIfInBounds_toArray, List.set_cons_zero, List.set_cons_succ]
            clear hS
            refine anyE_one (i := 6) (o := ?oi52) (by kernel_rfl) ?hi52 (fun K hK => ?step52)
            case hi52 => simp only [List.getElem?_toArray, List.getElem?_cons_zero, List.getElem?_cons_succ]; rfl
            go_simp
            go_wp2_with fail
            refine hK.out _ _ (fun _ => Keep.out) ?_
            clear hK K
            try simp only [Act.put, List.setIfInBounds_toArray, List.set_cons_zero, List.set_cons_succ]
            refine anyE_one (i := 7) (o := ?oi53) (by kernel_rfl) ?hi53 (fun K hK => ?step53)
            case hi53 => simp only [List.getElem?_toArray, List.getElem?_cons_zero, List.getElem?_cons_succ]; rfl
            go_simp
            go_wp2_with fail
            refine hK.out _ _ (fun _ => Keep1.out) ?_
            clear hK K
            try simp only [Act.put, List.setIfInBounds_toArray, List.set_cons_zero, List.set_cons_succ]
            refine anyE_one (i := 8) (o := ?oi54) (by kernel_rfl) ?hi54 (fun K hK => ?step54)
            case hi54 => simp only [List.getElem?_toArray, List.getElem?_cons_zero, List.getElem?_cons_succ]; rfl
            go_simp
            go_wp2_with fail
            refine hK.out _ _ (fun _ => Keep1.out) ?_
            clear hK K
            try simp only [Act.put, List.setIfInBounds_toArray, List.set_cons_zero, List.set_cons_succ]
            refine anyE_one (i := 9) (o := ?oi55) (by kernel_rfl) ?hi55 (fun K hK => ?step55)
            case hi55 => simp only [List.getElem?_toArray, List.getElem?_cons_zero, List.getElem?_cons_succ]; rfl
            go_simp
            go_wp2_with fail
            refine hK.out _ _ (fun _ => Keep2.out) ?_
            clear hK K
            try simp only [Act.put, List.setIfInBounds_toArray, List.set_cons_zero, List.set_cons_succ]
            refine anyE_done (by kernel_rfl) ?_ _
            have hQn : ∀ z ∈ exM (b.its[i]'hlti).1 ((x : Int), (y : Int)), 0 ≤ z ∧ z < ((b.its.length : Nat) : Int) := fun z hz => by
              rcases (mem_exM (s := ((x : Int), (y : Int))) hxP).1 hz with ⟨h1, _⟩ | h1
              · exact HPn.out z h1
              · rw [h1]; exact ⟨hy0, hyI⟩
            have hBR : BR M b.its.length (mk (natL (exM (b.its[i]'hlti).1 ((x : Int), (y : Int))))) ((wi2.setCell ⟨M, x, none⟩ (.bool false)).setCell ⟨M, y, none⟩ (.bool true)) := ⟨HCD.out.lt, fun d hd => by
              rw [HCD.out.cell, marks_bit (n := 0) HAsc.out (fun z hz => (HPb.out z hz).1) hxP hxy]
              by_cases e1 : d = y
              · subst e1
                rw [if_pos rfl]
                simp only [Array.getElem?_setIfInBounds_self, Array.size_setIfInBounds]
                rw [if_pos (by omega)]
              · rw [if_neg e1, Array.getElem?_setIfInBounds_ne (fun e => e1 e.symm)]
                by_cases e2 : d = x
                · subst e2
                  rw [if_pos rfl]
                  simp only [Array.getElem?_setIfInBounds_self]
                  rw [if_pos (by omega)]
                · rw [if_neg e2, Array.getElem?_setIfInBounds_ne (fun e => e2 e.symm)]
                  exact HCb.out d hd⟩
            clear q1 q2 q3 q4
            have hpl := places_marks (exM_asc HAsc.out (s := ((x : Int), (y : Int)))) (show b.its.length ≤ 60 by omega) hQn
            generalize hWD : (wi2.setCell ⟨M, x, none⟩ (.bool false)).setCell ⟨M, y, none⟩ (.bool true) = wd at *
            go_wp2_with fail
            have hbd : Below wd.heap.size wd wd.drew := (Below.refl _ _).drew
            have cp0 := places_ref M b.its.length (mk (natL (exM (b.its[i]'hlti).1 ((x : Int), (y : Int))))) b.its.length wd.drew (hBR.below hbd hBR.1) (by omega) (mk_lt (natL_lt hQn))
            have hnv : natV (bl (mk (natL (exM (b.its[i]'hlti).1 ((x : Int), (y : Int)))))) = (exM (b.its[i]'hlti).1 ((x : Int), (y : Int))).map (Value.int .i64) := by
              conv => rhs; rw [← hpl]
              simp [natV, intL]
            have hbll : (bl (mk (natL (exM (b.its[i]'hlti).1 ((x : Int), (y : Int)))))).length = (exM (b.its[i]'hlti).1 ((x : Int), (y : Int))).length := by
              conv => rhs; rw [← hpl]
              simp [intL]
            rw [hnv, hbll] at cp0
            have cp := Lib.hid cp0
            have HBE := Lib.hid (HBD.out.trans (hbd.mono HBD.out.size))
            clear cp0 hnv hbll hpl hBR hQn hWD hbd Keep Keep1 Keep2 HCA HCD HBA HBD HC2 HCb
            refine wp_region_E (S := fun W => W.cell? ⟨G, 1, none⟩ = some (.slice (some ⟨g, 0, none⟩) b.its.length cI')) (E := fun _ => false) (by kernel_rfl) ?_
            have KeepG := Lib.hid (show ∀ W, Below wd.drew.heap.size wd.drew W → W.cell? ⟨g, i * 2, none⟩ = some (.slice A1 np c1) ∧ W.frozen? ⟨g, i * 2, none⟩ = false ∧ g < W.heap.size from fun W hW => by
              have hbb := HBE.out.trans (hW.mono HBE.out.size)
              exact ⟨(hbb.cell (p := ⟨g, i * 2, none⟩) hg2).trans KeepS0.out.2.2.2, (World.frozen?_of_block (hbb.block g hg2)).trans (HFz2.out), Nat.lt_of_lt_of_le hg2 hbb.size⟩)
            have KeepB := Lib.hid (show ∀ W, Below wd.drew.heap.size wd.drew W → W.cell? ⟨G, 1, none⟩ = some (.slice (some ⟨g, 0, none⟩) b.its.length cI') from fun W hW => ((HBE.out.trans (hW.mono HBE.out.size)).cell (p := ⟨G, 1, none⟩) hG2).trans KeepS0.out.2.2.1)
            have hgG : g ≠ G := HGi.out g rfl
            have KeepS := Lib.hid (show ∀ W, Below wd.drew.heap.size wd.drew W → ∀ u, (W.setCell ⟨g, i * 2, none⟩ u).cell? ⟨G, 1, none⟩ = some (.slice (some ⟨g, 0, none⟩) b.its.length cI') from fun W hW u => by
              have h9 := HBE.out.trans (hW.mono HBE.out.size)
              exact (((Only.refl g W).put (i * 2) u).cell (p := ⟨G, 1, none⟩) (Nat.lt_of_lt_of_le hG2 h9.size) (fun e => hgG e.symm)).trans (KeepB.out W hW))
            have HBi := Lib.hid (Below.refl wd.drew.heap.size wd.drew)
            generalize wd.drew = wi3 at *
            have hS := KeepB.out _ HBi.out
            refine anyE_tk 0 58 (oi := ?oi56) (v := ?v56) ?hi56 ?hd56 (by kernel_rfl) (by kernel_rfl) (by kernel_rfl) ?hQ56 ?hy56 hS ?rest56
            case hi56 => simp only [List.getElem?_toArray, List.getElem?_cons_zero, List.getElem?_cons_succ]; rfl
            case hd56 => rfl
            case hQ56 => exact fun _ _ _ h => h
            case hy56 => (refine Or.inl ⟨by rfl, ?_⟩; intro w hSw; (try dsimp only at hSw); go_simp; try with_reducible rfl)
            simp only [List.setIfInBounds_toArray, List.set_cons_zero, List.set_cons_succ]
            refine anyE_tk 1 59 (oi := ?oi57) (v := ?v57) ?hi57 ?hd57 (by kernel_rfl) (by kernel_rfl) (by kernel_rfl) ?hQ57 ?hy57 hS ?rest57
            case hi57 => simp only [List.getElem?_toArray, List.getElem?_cons_zero, List.getElem?_cons_succ]; rfl
            case hd57 => rfl
            case hQ57 => exact fun _ _ _ h => h
            case hy57 => (refine Or.inl ⟨by rfl, ?_⟩; intro w hSw; (try dsimp only at hSw); go_simp; try with_reducible rfl)
            simp only [List.setIfInBounds_toArray, List.set_cons_zero, List.set_cons_succ]
            refine anyE_tk 2 60 (oi := ?oi58) (v := ?v58) ?hi58 ?hd58 (by kernel_rfl) (by kernel_rfl) (by kernel_rfl) ?hQ58 ?hy58 hS ?rest58
            case hi58 => simp only [List.getElem?_toArray, List.getElem?_cons_zero, List.getElem?_cons_succ]; rfl
            case hd58 => rfl
            case hQ58 => exact fun _ _ _ h => h
            case hy58 => (refine Or.inl ⟨by rfl, ?_⟩; intro w hSw; (try dsimp only at hSw); go_simp; try with_reducible rfl)
            simp only [List.setIfInBounds_toArray, List.set_cons_zero, List.set_cons_succ]
            refine anyE_tk 3 61 (oi := ?oi59) (v := ?v59) ?hi59 ?hd59 (by kernel_rfl) (by kernel_rfl) (by kernel_rfl) ?hQ59 ?hy59 hS ?rest59
            case hi59 => simp only [List.getElem?_toArray, List.getElem?_cons_zero, List.getElem?_cons_succ]; rfl
            case hd59 => rfl
            case hQ59 => exact fun _ _ _ h => h
            case hy59 => (refine Or.inl ⟨by rfl, ?_⟩; intro w hSw; (try dsimp only at hSw); go_simp; try with_reducible rfl)
            simp only [List.setIfInBounds_toArray, List.set_cons_zero, List.set_cons_succ]
            clear hS
            refine anyE_one (i := 4) (o := ?oi60) (by kernel_rfl) ?hi60 (fun K hK => ?step60)
            case hi60 => simp only [List.getElem?_toArray, List.getElem?_cons_zero, List.getElem?_cons_succ]; rfl
            go_simp
            refine cp.out.mono ?_
            rintro e w8 ⟨v8, rfl, hown8, hb8⟩
            obtain ⟨A8, c8, rfl⟩ := own_form hown8
            have HO8 := Lib.hid hown8
            have HB8 := Lib.hid hb8
            clear hown8 hb8
            go_wp2_with fail
            refine hK.out _ _ (fun _ => KeepB.out _ HB8.out) ?_
            clear hK K
            try simp only [Act.put, List.setIfInBounds_toArray, List.set_cons_zero, List.set_cons_succ]
            refine anyE_one (i := 5) (o := ?oi61) (by kernel_rfl) ?hi61 (fun K hK => ?step61)
            case hi61 => simp only [List.getElem?_toArray, List.getElem?_cons_zero, List.getElem?_cons_succ]; rfl
            go_simp
            go_wp2_with fail
            refine hK.out _ _ (fun _ => KeepB.out _ HB8.out) ?_
            clear hK K
            try simp only [Act.put, List.setIfInBounds_toArray, List.set_cons_zero, List.set_cons_succ]
            refine anyE_one (i := 6) (o := ?oi62) (by kernel_rfl) ?hi62 (fun K hK => ?step62)
            case hi62 => simp only [List.getElem?_toArray, List.getElem?_cons_zero, List.getElem?_cons_succ]; rfl
            go_simp
            go_wp2_with fail
            refine hK.out _ _ (fun _ => KeepB.out _ HB8.out) ?_
            clear hK K
            try simp only [Act.put, List.setIfInBounds_toArray, List.set_cons_zero, List.set_cons_succ]
            have q8 := (KeepG.out _ HB8.out).1
            have q9 := (KeepG.out _ HB8.out).2.1
            have q7 := (KeepG.out _ HB8.out).2.2
            refine anyE_one (i := 7) (o := ?oi63) (by kernel_rfl) ?hi63 (fun K hK => ?step63)
            case hi63 => simp only [List.getElem?_toArray, List.getElem?_cons_zero, List.getElem?_cons_succ]; rfl
            go_simp
            go_wp2_with fail
            refine hK.out _ _ (fun _ => KeepS.out _ HB8.out _) ?_
            clear hK K
            try simp only [Act.put, List.setIfInBounds_toArray, List.set_cons_zero, List.set_cons_succ]
            refine anyE_done (by kernel_rfl) ?_ _
            have HBf := Lib.hid (HBE.out.trans (HB8.out.mono HBE.out.size))
            have hni := IntsAt.of_own HO8.out
            have hnN : IntsN (fun q => lo ≤ q ∧ (Value.slice (some ⟨g, 0, none⟩ : Option Addr) b.its.length cI').ownBlock ≠ some q) w8.heap.size w8 A8 (exM (b.its[i]'hlti).1 ((x : Int), (y : Int))) := hni.ne fun a ha _ => by
              have h9 := (own_lt2 HO8.out a ha).1
              have h8 := HBE.out.size
              exact ⟨by omega, fun e => by
                have h7 : g = a.block := by simpa [Value.ownBlock] using e
                omega⟩
            obtain ⟨v9, hrep⟩ := (HIt2.out.below HBf.out).repl (k := i) hil hnN (c' := c8) rfl
            simp only [hgi] at hrep
            rw [HSet.out] at hrep
            have HRep := Lib.hid hrep
            have HP := Lib.hid ((Only.refl g w8).put (i * 2) (.slice A8 (exM (b.its[i]'hlti).1 ((x : Int), (y : Int))).length c8))
            have HRu5 := Lib.hid ((HRu2.out.below HBf.out).keep (fun q hq e => by have := hq.2; omega) HP.out)
            have HBl5 := Lib.hid ((HBl2.out.below HBf.out hG2).far (fun e => hgG e.symm) (p := ⟨g, i * 2, none⟩) (.slice A8 (exM (b.its[i]'hlti).1 ((x : Int), (y : Int))).length c8))
            have hbw := HBr2.out.trans (HBf.out.mono HBr2.out.size)
            have HBr5 := Lib.hid (hbw.trans (HP.out.below (by have := Hlo.out; omega) hbw.size))
            clear hrep hbw hni hnN
            go_wp2_with fail
            go_roundw
            case rel => exact ⟨i + 1, _, by omega, by go_num, HRep.out, HRu5.out, HBl5.out, HBr5.out, HOk2.out⟩
            case measure => simp [intOf]; omega
          · have hyiI : (i : Int) ≤ (y : Int) := by omega
            have HNo := Lib.hid (show ¬ exOk b.its ((x : Int), (y : Int)) from fun hex => by have h9 : (y : Int) < (i : Int) := hex i hlti hxP; omega)
            have HR1 := Lib.hid (HK1.out.below HBr2.out HK1.out.lt)
            obtain ⟨t0, t1, t2, g0, g1, g2⟩ := blk3 HR1.out
            have hlR : w.heap.size + 1 + 1 < wi0.heap.size := HR1.out.lt
            go_wp2_with fail
            have HP := Lib.hid ((((Only.refl (w.heap.size + 1 + 1) wi0).put 0 (.int .i64 b.p)).put 1 (.slice AI b.its.length cI)).put 2 (.slice AR b.rus.length cR))
            have HB2 := Lib.hid (((HR1.out.put 0 (.int .i64 b.p)).put 1 (.slice AI b.its.length cI)).put 2 (.slice AR b.rus.length cR))
            have hlow := HB1.out.trans (HBr2.out.mono HB1.out.size)
            refine bodyPost_ret (results_cell_row2 rfl _ _ (w.heap.size + 1 + 1) 25 _ (0, 0) _ rfl HB2.out Tryd.underlying25 rfl (by kernel_rfl)) rfl ⟨.inr ⟨HNo.out, rfl⟩, hlow.trans (HP.out.below (by omega) hlow.size)⟩
        · have hc : (b.its[i]'hlti).1.contains (x : Int) = false := by rw [Bool.eq_false_iff]; exact fun h => hxP (List.contains_iff_mem.1 h)
          rw [hc] at ch0
          have ch := Lib.hid ch0
          have HSk := Lib.hid (HSkip.out (exM_out hxP))
          have HOk2 := Lib.hid (HOkS.out fun h => absurd h hxP)
          clear ch0
          refine anyE_tk 0 18 (oi := ?oi64) (v := ?v64) ?hi64 ?hd64 (by kernel_rfl) (by kernel_rfl) (by kernel_rfl) ?hQ64 ?hy64 hS ?rest64
          case hi64 => simp only [List.getElem?_toArray, List.getElem?_cons_zero, List.getElem?_cons_succ]; rfl
          case hd64 => rfl
          case hQ64 => exact fun _ _ _ h => h
          case hy64 => (refine Or.inl ⟨by rfl, ?_⟩; intro w hSw; (try dsimp only at hSw); go_simp; try with_reducible rfl)
          simp only [List.setIfInBounds_toArray, List.set_cons_zero, List.set_cons_succ]
          refine anyE_tk 1 19 (oi := ?oi65) (v := ?v65) ?hi65 ?hd65 (by kernel_rfl) (by kernel_rfl) (by kernel_rfl) ?hQ65 ?hy65 hS ?rest65
          case hi65 => simp only [List.getElem?_toArray, List.getElem?_cons_zero, List.getElem?_cons_succ]; rfl
          case hd65 => rfl
          case hQ65 => exact fun _ _ _ h => h
          case hy65 => (refine Or.inl ⟨by rfl, ?_⟩; intro w hSw; (try dsimp only at hSw); go_simp; try with_reducible rfl)
          simp only [List.setIfInBounds_toArray, List.set_cons_zero, List.set_cons_succ]
          refine anyE_tk 2 20 (oi := ?oi66) (v := ?v66) ?hi66 ?hd66 (by kernel_rfl) (by kernel_rfl) (by kernel_rfl) ?hQ66 ?hy66 hS ?rest66
          case hi66 => simp only [List.getElem?_toArray, List.getElem?_cons_zero, List.getElem?_cons_succ]; rfl
          case hd66 => rfl
          case hQ66 => exact fun _ _ _ h => h
          case hy66 => (refine Or.inl ⟨by rfl, ?_⟩; intro w hSw; (try dsimp only at hSw); go_simp; try with_reducible rfl)
          simp only [List.setIfInBounds_toArray, List.set_cons_zero, List.set_cons_succ]
          refine anyE_tk 3 21 (oi := ?oi67) (v := ?v67) ?hi67 ?hd67 (by kernel_rfl) (by kernel_rfl) (by kernel_rfl) ?hQ67 ?hy67 hS ?rest67
          case hi67 => simp only [List.getElem?_toArray, List.getElem?_cons_zero, List.getElem?_cons_succ]; rfl
          case hd67 => rfl
          case hQ67 => exact fun _ _ _ h => h
          case hy67 => (refine Or.inl ⟨by rfl, ?_⟩; intro w hSw; (try dsimp only at hSw); go_simp; try with_reducible rfl)
          simp only [List.setIfInBounds_toArray, List.set_cons_zero, List.set_cons_succ]
          refine anyE_tk 4 22 (oi := ?oi68) (v := ?v68) ?hi68 ?hd68 (by kernel_rfl) (by kernel_rfl) (by kernel_rfl) ?hQ68 ?hy68 hS ?rest68
          case hi68 => simp only [List.getElem?_toArray, List.getElem?_cons_zero, List.getElem?_cons_succ]; rfl
          case hd68 => rfl
          case hQ68 => exact fun _ _ _ h => h
          case hy68 => (refine Or.inl ⟨by rfl, ?_⟩; intro w hSw; (try dsimp only at hSw); go_simp; try with_reducible rfl)
          simp only [List.setIfInBounds_toArray, List.set_cons_zero, List.set_cons_succ]
          refine anyE_tk 5 23 (oi := ?oi69) (v := ?v69) ?hi69 ?hd69 (by kernel_rfl) (by kernel_rfl) (by kernel_rfl) ?hQ69 ?hy69 hS ?rest69
          case hi69 => simp only [List.getElem?_toArray, List.getElem?_cons_zero, List.getElem?_cons_succ]; rfl
          case hd69 => rfl
          case hQ69 => exact fun _ _ _ h => h
          case hy69 => (refine Or.inl ⟨by rfl, ?_⟩; intro w hSw; (try dsimp only at hSw); go_simp; try with_reducible rfl)
          simp only [List.setIfInBounds_toArray, List.set_cons_zero, List.set_cons_succ]
          refine anyE_tk 6 24 (oi := ?oi70) (v := ?v70) ?hi70 ?hd70 (by kernel_rfl) (by kernel_rfl) (by kernel_rfl) ?hQ70 ?hy70 hS ?rest70
          case hi70 => simp only [List.getElem?_toArray, List.getElem?_cons_zero, List.getElem?_cons_succ]; rfl
          case hd70 => rfl
          case hQ70 => exact fun _ _ _ h => h
          case hy70 => (refine Or.inl ⟨by rfl, ?_⟩; intro w hSw; (try dsimp only at hSw); go_simp; try with_reducible rfl)
          simp only [List.setIfInBounds_toArray, List.set_cons_zero, List.set_cons_succ]
          refine anyE_tk 7 25 (oi := ?oi71) (v := ?v71) ?hi71 ?hd71 (by kernel_rfl) (by kernel_rfl) (by kernel_rfl) ?hQ71 ?hy71 hS ?rest71
          case hi71 => simp only [List.getElem?_toArray, List.getElem?_cons_zero, List.getElem?_cons_succ]; rfl
          case hd71 => rfl
          case hQ71 => exact fun _ _ _ h => h
          case hy71 => (refine Or.inl ⟨by rfl, ?_⟩; intro w hSw; (try dsimp only at hSw); go_simp; try with_reducible rfl)
          simp only [List.setIfInBounds_toArray, List.set_cons_zero, List.set_cons_succ]
          refine anyE_tk 8 26 (oi := ?oi72) (v := ?v72) ?hi72 ?hd72 (by kernel_rfl) (by kernel_rfl) (by kernel_rfl) ?hQ72 ?hy72 hS ?rest72
          case hi72 => simp only [List.getElem?_toArray, List.getElem?_cons_zero, List.getElem?_cons_succ]; rfl
          case hd72 => rfl
          case hQ72 => exact fun _ _ _ h => h
          case hy72 => (refine Or.inl ⟨by rfl, ?_⟩; intro w hSw; (try dsimp only at hSw); go_simp; try with_reducible rfl)
          simp only [List.setIfInBounds_toArray, List.set_cons_zero, List.set_cons_succ]
          refine anyE_tk 9 27 (oi := ?oi73) (v := ?v73) ?hi73 ?hd73 (by kernel_rfl) (by kernel_rfl) (by kernel_rfl) ?hQ73 ?hy73 hS ?rest73
          case hi73 => simp only [List.getElem?_toArray, List.getElem?_cons_zero, List.getElem?_cons_succ]; rfl
          case hd73 => rfl
          case hQ73 => exact fun _ _ _ h => h
          case hy73 => (refine Or.inl ⟨by rfl, ?_⟩; intro w hSw; (try dsimp only at hSw); go_simp; try with_reducible rfl)
          simp only [List.setIfInBounds_toArray, List.set_cons_zero, List.set_cons_succ]
          refine anyE_tk 10 28 (oi := ?oi74) (v := ?v74) ?hi74 ?hd74 (by kernel_rfl) (by kernel_rfl) (by kernel_rfl) ?hQ74 ?hy74 hS ?rest74
          case hi74 => simp only [List.getElem?_toArray, List.getElem?_cons_zero, List.getElem?_cons_succ]; rfl
          case hd74 => rfl
          case hQ74 => exact fun _ _ _ h => h
          case hy74 => (refine Or.inl ⟨by rfl, ?_⟩; intro w hSw; (try dsimp only at hSw); go_simp; try with_reducible rfl)
          simp only [List.setIfInBounds_toArray, List.set_cons_zero, List.set_cons_succ]
          refine anyE_tk 11 29 (oi := ?oi75) (v := ?v75) ?hi75 ?hd75 (by kernel_rfl) (by kernel_rfl) (by kernel_rfl) ?hQ75 ?hy75 hS ?rest75
          case hi75 => simp only [List.getElem?_toArray, List.getElem?_cons_zero, List.getElem?_cons_succ]; rfl
          case hd75 => rfl
          case hQ75 => exact fun _ _ _ h => h
          case hy75 => (refine Or.inl ⟨by rfl, ?_⟩; intro w hSw; (try dsimp only at hSw); go_simp; try with_reducible rfl)
          simp only [List.setIfInBounds_toArray, List.set_cons_zero, List.set_cons_succ]
          refine anyE_tk 12 30 (oi := ?oi76) (v := ?v76) ?hi76 ?hd76 (by kernel_rfl) (by kernel_rfl) (by kernel_rfl) ?hQ76 ?hy76 hS ?rest76
          case hi76 => simp only [List.getElem?_toArray, List.getElem?_cons_zero, List.getElem?_cons_succ]; rfl
          case hd76 => rfl
          case hQ76 => exact fun _ _ _ h => h
          case hy76 => (refine Or.inl ⟨by rfl, ?_⟩; intro w hSw; (try dsimp only at hSw); go_simp; try with_reducible rfl)
          simp only [List.setIfInBounds_toArray, List.set_cons_zero, List.set_cons_succ]
          refine anyE_tk 13 31 (oi := ?oi77) (v := ?v77) ?hi77 ?hd77 (by kernel_rfl) (by kernel_rfl) (by kernel_rfl) ?hQ77 ?hy77 hS ?rest77
          case hi77 => simp only [List.getElem?_toArray, List.getElem?_cons_zero, List.getElem?_cons_succ]; rfl
          case hd77 => rfl
          case hQ77 => exact fun _ _ _ h => h
          case hy77 => (refine Or.inl ⟨by rfl, ?_⟩; intro w hSw; (try dsimp only at hSw); go_simp; try with_reducible rfl)
          simp only [List.setIfInBounds_toArray, List.set_cons_zero, List.set_cons_succ]
          clear hS
          refine anyE_one (i := 14) (o := ?oi78) (by kernel_rfl) ?hi78 (fun K hK => ?step78)
          case hi78 => simp only [List.getElem?_toArray, List.getElem?_cons_zero, List.getElem?_cons_succ]; rfl
          go_simp
          refine ch.out.mono ?_
          rintro e w7 ⟨rfl, hw7⟩
          subst w7
          go_wp2_with fail
          refine hK.out _ _ (fun _ => Keep.out) ?_
          clear hK K
          try simp only [Act.put, List.setIfInBounds_toArray, List.set_cons_zero, List.set_cons_succ]
          refine anyE_tk 15 33 (oi := ?oi79) (v := ?v79) ?hi79 ?hd79 (by kernel_rfl) (by kernel_rfl) (by kernel_rfl) ?hQ79 ?hy79 Keep.out ?rest79
          case hi79 => simp only [List.getElem?_toArray, List.getElem?_cons_zero, List.getElem?_cons_succ]; rfl
          case hd79 => rfl
          case hQ79 => exact fun _ _ _ h => h
          case hy79 => (refine Or.inl ⟨by rfl, ?_⟩; intro w hSw; (try dsimp only at hSw); go_simp; try with_reducible rfl)
          simp only [List.setIfInBounds_toArray, List.set_cons_zero, List.set_cons_succ]
          refine anyE_tk 16 34 (oi := ?oi80) (v := ?v80) ?hi80 ?hd80 (by kernel_rfl) (by kernel_rfl) (by kernel_rfl) ?hQ80 ?hy80 Keep.out ?rest80
          case hi80 => simp only [List.getElem?_toArray, List.getElem?_cons_zero, List.getElem?_cons_succ]; rfl
          case hd80 => rfl
          case hQ80 => exact fun _ _ _ h => h
          case hy80 => (refine Or.inl ⟨by rfl, ?_⟩; intro w hSw; (try dsimp only at hSw); go_simp; try with_reducible rfl)
          simp only [List.setIfInBounds_toArray, List.set_cons_zero, List.set_cons_succ]
          refine anyE_done (by kernel_rfl) ?_ _
          go_wp2_with fail
          go_roundw
          case rel => exact ⟨i + 1, ps, by omega, by go_num, by rw [← HSk.out]; exact HIt2.out, HRu2.out, HBl2.out, HBr2.out, HOk2.out⟩
          case measure => simp [intOf]; omega
    · obtain rfl : i = b.its.length := by omega
      have HR1 := Lib.hid (HK1.out.below HBr.out HK1.out.lt)
      obtain ⟨t0, t1, t2, g0, g1, g2⟩ := blk3 HR1.out
      have hlR : w.heap.size + 1 + 1 < wr.heap.size := HR1.out.lt
      have HYes := Lib.hid (show exOk b.its ((x : Int), (y : Int)) from fun k hk hx => by have := HOk.out k hk hk hx; show (y : Int) < (k : Int); omega)
      go_wp2_with fail
      have HP := Lib.hid ((((Only.refl (w.heap.size + 1 + 1) wr).put 0 (.int .i64 b.p)).put 1 (.slice AI' b.its.length cI')).put 2 (.slice AR' b.rus.length cR'))
      have HB2 := Lib.hid (((HR1.out.put 0 (.int .i64 b.p)).put 1 (.slice AI' b.its.length cI')).put 2 (.slice AR' b.rus.length cR'))
      have hlow := HB1.out.trans (HBr.out.mono HB1.out.size)
      refine bodyPost_ret (results_cell_row2 rfl _ _ (w.heap.size + 1 + 1) 25 _ (0, 0) _ rfl HB2.out Tryd.underlying25 rfl (by kernel_rfl)) rfl ⟨.inl ⟨AI', AR', cI', cR', HYes.out, rfl, ?_, ?_⟩, hlow.trans (HP.out.below (by omega) hlow.size)⟩
      · exact (HIt.out.only HP.out (by have := HS0.out; have := Hlo.out; omega)).itsN (by rw [exK_length]) fun q hq => by have := HS0.out; have := Hlo.out; omega
      · exact (HRu.out.keep (fun q hq e => by have := hq.1; have := HS0.out; omega) HP.out).imp fun q hq => by have := hq.1; have := HS0.out; omega
end Go.Proofs.YtgoojcjfhghmgaaDoor


set_option linter.unusedSimpArgs false
set_option linter.unusedVariables false
namespace Go.Proofs.YtgoojcjfhghmgaaDoor
open Go Go.RowKit

section
variable {P : Program} {md : Region.Mode} {ops : Array Oper} {Q : Exit → Act → World → Prop} {S : World → Prop} {E : Nat → Bool}
theorem anyE_two {i j : Nat} {oi oj : Oper} {n : Nat} {listed : Array Bool} {a : Act} {w : World} (hr : Region.ready md ops listed = [i, j]) (hi : ops[i]? = some oi) (hj : ops[j]? = some oj)
    (h1 : ∀ K' : Act → World → Prop, Go.Shut (∀ a w, (E i = false → S w) → anyE P md ops Q S E n (listed.setIfInBounds i true) a w → K' a w) → if Region.wanted oi (yielded ops a.tmps) = true then Oper.wp P oi a w K' Q else K' (a.put oi.dst undef) w)
    (h2 : ∀ K' : Act → World → Prop, Go.Shut (∀ a w, (E j = false → S w) → anyE P md ops Q S E n (listed.setIfInBounds j true) a w → K' a w) → if Region.wanted oj (yielded ops a.tmps) = true then Oper.wp P oj a w K' Q else K' (a.put oj.dst undef) w) :
    anyE P md ops Q S E (n + 1) listed a w :=
  anyE_all hr (by simp) fun q hq => by
    rcases List.mem_cons.1 hq with rfl | hq
    · exact wpOp_step hi fun K' hK => h1 K' fun a w hS hW => hK a w ⟨hS, hW⟩
    · rw [List.mem_singleton] at hq
      subst hq
      exact wpOp_step hj fun K' hK => h2 K' fun a w hS hW => hK a w ⟨hS, hW⟩
end

set_option maxRecDepth 100000 in
set_option maxHeartbeats 16000000 in
theorem exchanged_ref (AI AR : Option Addr) (cI cR : Nat) (A : Option Addr) (c B : Nat) (b : Bk) (ss : List (Int × Int)) (w : World) (hB : B ≤ w.heap.size) (h : ItsAt B w AI b.its) (h' : RusAt B w AR b.rus) (hs : Short b) (ho : Ord b.its) (hp : PairsAt B w A ss) (h8 : ss.length ≤ 8) (hsw : ∀ s ∈ ss, 0 ≤ s.1 ∧ s.1 < (b.its.length : Int) ∧ 0 ≤ s.2 ∧ s.2 < (b.its.length : Int)) :
    Calls Tryd.prog 97 #[.agg #[.int .i64 b.p, .slice AI b.its.length cI, .slice AR b.rus.length cR], .slice A ss.length c] w fun e w' =>
      ((∃ m AI' AR' cI' cR', exN b.its ss = some m ∧ e = .returned (.tuple #[.agg #[.int .i64 b.p, .slice AI' b.its.length cI', .slice AR' b.rus.length cR'], .bool true]) ∧ ItsN (fun q => w.heap.size ≤ q) w' AI' m ∧ RusN (fun q => w.heap.size ≤ q) w' AR' b.rus) ∨
        (exN b.its ss = none ∧ e = .returned (.tuple #[.agg #[.int .i64 b.p, .slice AI b.its.length cI, .slice AR b.rus.length cR], .bool false]))) ∧ Below w.heap.size w w' := by
  have hT := h.below (Below.refl _ _) hB
  have hT' := h'.below (Below.refl _ _) hB
  have HP := Lib.hid (hp.below (Below.refl _ _) hB)
  have cc := Lib.hid (fun W (hW : Below w.heap.size w W) => Copy_apart AI AR cI cR w.heap.size b W hW.size (hT.below hW (Nat.le_refl _)) (hT'.below hW (Nat.le_refl _)) hs)
  have nI := hs.1
  have nR := hs.2.1
  have HFa := Lib.hid (fun (j : Nat) (m : List It) (hj : j ≤ ss.length) (he : exN b.its (ss.take j) = some m) => exN_len ho (fun s hs => (hsw s hs).2.2.1) hj he hs.2.2.1)
  have HGood := Lib.hid (fun (j : Nat) (m : List It) (hj : j < ss.length) (he : exN b.its (ss.take j) = some m) (hk : exOk m ss[j]) => exN_good hj he hk)
  have HBad := Lib.hid (fun (j : Nat) (m : List It) (hj : j < ss.length) (he : exN b.its (ss.take j) = some m) (hk : ¬ exOk m ss[j]) => exN_bad hj he hk)
  have HAll := Lib.hid (fun (m : List It) (he : exN b.its (ss.take ss.length) = some m) => show exN b.its ss = some m from by rwa [List.take_length] at he)
  have HNil := Lib.hid (show exN b.its (ss.take 0) = some b.its from by rw [List.take_zero]; exact exN_nil _)
  have HSw := Lib.hid (fun (j : Nat) (hj : j < ss.length) => hsw ss[j] (List.getElem_mem hj))
  have HRs := Lib.hid hs.2.2.2
  clear h h' hp hs ho hT hT' hB hsw
  go_enter Tryd.func97, Tryd.ntmps97
  go_wp2_with fail
  generalize hW1 : (w.alloc (.cells #[.int .i64 b.p, .slice AI b.its.length cI, .slice AR b.rus.length cR] 25)).alloc (.cells #[.int .i64 0, .slice none 0 0, .slice none 0 0] 25) = W1
  have HB1 := Lib.hid (show Below w.heap.size w W1 by rw [← hW1]; exact balloc (balloc (Below.refl _ _) _) _)
  have HK0 := Lib.hid (show Blk W1 w.heap.size 25 #[.int .i64 b.p, .slice AI b.its.length cI, .slice AR b.rus.length cR] by rw [← hW1]; exact (Blk.new _ _ _).alloc _)
  have HK1 := Lib.hid (show Blk W1 (w.heap.size + 1) 25 #[.int .i64 0, .slice none 0 0, .slice none 0 0] by rw [← hW1]; exact blk_new' (by simp))
  have HS0 := Lib.hid (show w.heap.size + 1 < W1.heap.size from HK1.out.lt)
  clear hW1
  obtain ⟨x0, x1, x2, _⟩ := blk3 HK0.out
  go_wp2_with (go_at_call 19; refine (cc.out _ HB1.out).mono ?_; rintro e w2 ⟨AI', AR', cI', cR', ps, lo, rfl, hlo, hit, hru, hb2⟩)
  clear x0 x1 x2
  generalize hW3 : w2.alloc (.cells #[.int .i64 b.p, .slice AI' b.its.length cI', .slice AR' b.rus.length cR'] 25) = w3
  have hb23 : Below w2.heap.size w2 w3 := by rw [← hW3]; exact balloc (Below.refl _ _) _
  have HKG := Lib.hid (show Blk w3 w2.heap.size 25 #[.int .i64 b.p, .slice AI' b.its.length cI', .slice AR' b.rus.length cR'] by rw [← hW3]; exact Blk.new _ _ _)
  have HIt := Lib.hid (((hit.itM.itsN rfl (N := fun q => lo ≤ q) fun q h => h).imp (N' := fun q => q ≠ w2.heap.size ∧ w.heap.size + 1 < q) fun q h1 h2 => ⟨by omega, by have := HS0.out; omega⟩).below hb23)
  have HRu := Lib.hid ((hru.lt.imp (N' := fun q => q ≠ w2.heap.size ∧ w.heap.size + 1 < q) fun q h1 => ⟨by have := h1.2; omega, by have := HS0.out; have := h1.1.1; omega⟩).below hb23)
  have HB3 := Lib.hid (hb2.trans (hb23.mono hb2.size))
  have HGw := Lib.hid (show W1.heap.size ≤ w2.heap.size from hb2.size)
  clear hW3 hit hru hlo hb23 hb2 cc
  generalize w2.heap.size = G at *
  go_loopw [7] (fun vi wr => ∃ (i : Nat) (m : List It) (AIx ARx : Option Addr) (cIx cRx : Nat), i ≤ ss.length ∧ vi = .int .i64 i ∧ Aside (exN b.its (ss.take i) = some m) ∧ Aside (Blk wr G 25 #[.int .i64 b.p, .slice AIx b.its.length cIx, .slice ARx b.rus.length cRx]) ∧ Aside (ItsN (fun q => q ≠ G ∧ w.heap.size + 1 < q) wr AIx m) ∧ Aside (RusN (fun q => q ≠ G ∧ w.heap.size + 1 < q) wr ARx b.rus) ∧ Aside (Below W1.heap.size W1 wr)) (fun vi _ => ss.length - (intOf vi).toNat)
  case atStart => exact ⟨0, b.its, AI', AR', cI', cR', Nat.zero_le _, rfl, HNil.out, HKG.out, HIt.out, HRu.out, HB3.out⟩
  case round =>
    clear HIt HRu HKG HB3
    obtain ⟨i, m, AIx, ARx, cIx, cRx, hi, rfl, hex, hbl, hit, hru, hbr⟩ := hrel
    have HEx0 := Lib.hid hex.out
    have HIt := Lib.hid hit.out
    have HRu := Lib.hid hru.out
    have HBl := Lib.hid hbl.out
    have HBr := Lib.hid hbr.out
    obtain ⟨hOrd, hml, hm40⟩ := HFa.out i m hi HEx0.out
    have HOrd := Lib.hid hOrd
    have HMl := Lib.hid hml
    have HM40 := Lib.hid hm40
    obtain ⟨y0, y1, y2, _, _, _⟩ := blk3 hbl.out
    have hGr : G < wr.heap.size := hbl.out.lt
    clear hex hbl hit hru hbr hOrd hml hm40
    by_cases hlti : i < ss.length
    · have Hpw := HP.out.below (HB1.out.trans (HBr.out.mono HB1.out.size)) (Nat.le_refl _)
      obtain ⟨ga, oa, rfl, hga, p0, p1⟩ := Hpw.at hlti
      have hgaw : ga < wr.heap.size := Nat.lt_of_lt_of_le hga (Nat.le_trans HB1.out.size HBr.out.size)
      have hiI : (i : Int) < (ss.length : Int) := by omega
      have hi0 : (0 : Int) ≤ (i : Int) := by omega
      have HGo0 := Lib.hid (HGood.out i m hlti HEx0.out)
      have HBa0 := Lib.hid (HBad.out i m hlti HEx0.out)
      have hsw := HSw.out i hlti
      clear Hpw
      generalize ss[i] = s at *
      obtain ⟨x', y'⟩ := s
      simp only at p0 p1 hsw
      obtain ⟨x, rfl⟩ := Int.eq_ofNat_of_zero_le hsw.1
      obtain ⟨y, rfl⟩ := Int.eq_ofNat_of_zero_le hsw.2.2.1
      have hxl : x < m.length := by rw [HMl.out]; have := hsw.2.1; omega
      have hyl : y < m.length := by rw [HMl.out]; have := hsw.2.2.2; omega
      have HGo := Lib.hid (show exOk m ((x : Int), (y : Int)) → exN b.its (ss.take (i + 1)) = some (exK m ((x : Int), (y : Int)) m.length) from HGo0.out)
      have HBa := Lib.hid (show ¬ exOk m ((x : Int), (y : Int)) → exN b.its ss = none from HBa0.out)
      have cw0 := Lib.hid (fun (W : World) (hW : Below wr.heap.size wr W) => show Calls Tryd.prog 113 #[.agg #[.int .i64 b.p, .slice AIx b.its.length cIx, .slice ARx b.rus.length cRx], .agg #[.int .i64 (x : Int), .int .i64 (y : Int)]] W fun e w' =>
          ((∃ AI' AR' cI' cR', exOk m ((x : Int), (y : Int)) ∧ e = .returned (.tuple #[.agg #[.int .i64 b.p, .slice AI' b.its.length cI', .slice AR' b.rus.length cR'], .bool true]) ∧ ItsN (fun q => W.heap.size ≤ q) w' AI' (exK m ((x : Int), (y : Int)) m.length) ∧ RusN (fun q => W.heap.size ≤ q) w' AR' b.rus) ∨
            (¬ exOk m ((x : Int), (y : Int)) ∧ e = .returned (.tuple #[.agg #[.int .i64 b.p, .slice AIx b.its.length cIx, .slice ARx b.rus.length cRx], .bool false]))) ∧ Below W.heap.size W w' from by
        have := swapped_ref AIx ARx cIx cRx W.heap.size x y ⟨b.p, m, b.rus⟩ W (Nat.le_refl _) (HIt.out.at.below hW hW.size) (HRu.out.at.below hW hW.size) ⟨by rw [HMl.out]; exact nI, nR, HM40.out, HRs.out⟩ HOrd.out hxl hyl
        simp only [HMl.out] at this ⊢
        exact this)
      clear hsw HGo0 HBa0 HEx0
      go_wp2_with fail
      have hbi : Below wr.heap.size wr wr.drew := (Below.refl _ _).drew
      refine wp_region_E (S := fun W => W.cell? ⟨G, 0, none⟩ = some (.int .i64 b.p) ∧ W.cell? ⟨G, 1, none⟩ = some (.slice AIx b.its.length cIx) ∧ W.cell? ⟨G, 2, none⟩ = some (.slice ARx b.rus.length cRx) ∧ W.cell? ⟨ga, oa + i * 2, none⟩ = some (.int .i64 (x : Int)) ∧ W.cell? ⟨ga, oa + i * 2 + 1, none⟩ = some (.int .i64 (y : Int))) (E := fun _ => false) (by kernel_rfl) ?_
      generalize wr.drew = wi0 at hbi ⊢
      have HBc := Lib.hid (Below.refl wi0.heap.size wi0)
      have Keep := Lib.hid (show ∀ W, Below wi0.heap.size wi0 W → W.cell? ⟨G, 0, none⟩ = some (.int .i64 b.p) ∧ W.cell? ⟨G, 1, none⟩ = some (.slice AIx b.its.length cIx) ∧ W.cell? ⟨G, 2, none⟩ = some (.slice ARx b.rus.length cRx) ∧ W.cell? ⟨ga, oa + i * 2, none⟩ = some (.int .i64 (x : Int)) ∧ W.cell? ⟨ga, oa + i * 2 + 1, none⟩ = some (.int .i64 (y : Int)) from fun W hW => by
        have hbb := hbi.trans (hW.mono hbi.size)
        exact ⟨(hbb.cell (p := ⟨G, 0, none⟩) hGr).trans y0, (hbb.cell (p := ⟨G, 1, none⟩) hGr).trans y1, (hbb.cell (p := ⟨G, 2, none⟩) hGr).trans y2, (hbb.cell (p := ⟨ga, oa + i * 2, none⟩) hgaw).trans p0, (hbb.cell (p := ⟨ga, oa + i * 2 + 1, none⟩) hgaw).trans p1⟩)
      have cw := Lib.hid (fun (W : World) (hW : Below wi0.heap.size wi0 W) => cw0.out W (hbi.trans (hW.mono hbi.size)))
      have hS := Keep.out _ HBc.out
      clear y0 y1 y2 p0 p1 cw0
      refine anyE_tk 0 19 (oi := ?oi1) (v := ?v1) ?hi1 ?hd1 (by kernel_rfl) (by kernel_rfl) (by kernel_rfl) ?hQ1 ?hy1 hS ?rest1
      case hi1 => simp only [List.getElem?_toArray, List.getElem?_cons_zero, List.getElem?_cons_succ]; rfl
      case hd1 => rfl
      case hQ1 => exact fun _ _ _ h => h
      case hy1 => (refine Or.inl ⟨by rfl, ?_⟩; intro w hSw; (try dsimp only at hSw); go_simp; try with_reducible rfl)
      simp only [List.setIfInBounds_toArray, List.set_cons_zero, List.set_cons_succ]
      refine anyE_tk 1 20 (oi := ?oi2) (v := ?v2) ?hi2 ?hd2 (by kernel_rfl) (by kernel_rfl) (by kernel_rfl) ?hQ2 ?hy2 hS ?rest2
      case hi2 => simp only [List.getElem?_toArray, List.getElem?_cons_zero, List.getElem?_cons_succ]; rfl
      case hd2 => rfl
      case hQ2 => exact fun _ _ _ h => h
      case hy2 => (refine Or.inl ⟨by rfl, ?_⟩; intro w hSw; (try dsimp only at hSw); go_simp; try with_reducible rfl)
      simp only [List.setIfInBounds_toArray, List.set_cons_zero, List.set_cons_succ]
      refine anyE_tk 2 21 (oi := ?oi3) (v := ?v3) ?hi3 ?hd3 (by kernel_rfl) (by kernel_rfl) (by kernel_rfl) ?hQ3 ?hy3 hS ?rest3
      case hi3 => simp only [List.getElem?_toArray, List.getElem?_cons_zero, List.getElem?_cons_succ]; rfl
      case hd3 => rfl
      case hQ3 => exact fun _ _ _ h => h
      case hy3 => (refine Or.inl ⟨by rfl, ?_⟩; intro w hSw; (try dsimp only at hSw); go_simp; try with_reducible rfl)
      simp only [List.setIfInBounds_toArray, List.set_cons_zero, List.set_cons_succ]
      refine anyE_tk 3 22 (oi := ?oi4) (v := ?v4) ?hi4 ?hd4 (by kernel_rfl) (by kernel_rfl) (by kernel_rfl) ?hQ4 ?hy4 hS ?rest4
      case hi4 => simp only [List.getElem?_toArray, List.getElem?_cons_zero, List.getElem?_cons_succ]; rfl
      case hd4 => rfl
      case hQ4 => exact fun _ _ _ h => h
      case hy4 => (refine Or.inl ⟨by rfl, ?_⟩; intro w hSw; (try dsimp only at hSw); go_simp; try with_reducible rfl)
      simp only [List.setIfInBounds_toArray, List.set_cons_zero, List.set_cons_succ]
      refine anyE_tk 4 23 (oi := ?oi5) (v := ?v5) ?hi5 ?hd5 (by kernel_rfl) (by kernel_rfl) (by kernel_rfl) ?hQ5 ?hy5 hS ?rest5
      case hi5 => simp only [List.getElem?_toArray, List.getElem?_cons_zero, List.getElem?_cons_succ]; rfl
      case hd5 => rfl
      case hQ5 => exact fun _ _ _ h => h
      case hy5 => (refine Or.inl ⟨by rfl, ?_⟩; intro w hSw; (try dsimp only at hSw); go_simp; try with_reducible rfl)
      simp only [List.setIfInBounds_toArray, List.set_cons_zero, List.set_cons_succ]
      clear hS
      refine anyE_two (i := 5) (j := 9) (oi := ?oi6) (oj := ?oj6) (by kernel_rfl) ?hi6 ?hj6 (fun K hK => ?step6) (fun K hK => ?step7)
      case hi6 => simp only [List.getElem?_toArray, List.getElem?_cons_zero, List.getElem?_cons_succ]; rfl
      case hj6 => simp only [List.getElem?_toArray, List.getElem?_cons_zero, List.getElem?_cons_succ]; rfl
      case step6 =>
        go_simp
        refine (cw.out _ HBc.out).mono ?_
        rintro e w7 ⟨⟨AI2, AR2, cI2, cR2, hex, rfl, hit2, hru2⟩ | ⟨hno, rfl⟩, hd7⟩
        · skip
          have HB7 := Lib.hid (HBc.out.trans (hd7.mono HBc.out.size))
          have HI2 := Lib.hid hit2
          have HR2 := Lib.hid hru2
          have HEx := Lib.hid hex
          clear hit2 hru2 hex
          clear hd7
          go_wp2_with fail
          refine hK.out _ _ (fun _ => Keep.out _ HB7.out) ?_
          clear hK K
          try simp only [Act.put, List.setIfInBounds_toArray, List.set_cons_zero, List.set_cons_succ]
          refine anyE_tk 6 18 (oi := ?oi8) (v := ?v8) ?hi8 ?hd8 (by kernel_rfl) (by kernel_rfl) (by kernel_rfl) ?hQ8 ?hy8 (Keep.out _ HB7.out) ?rest8
          case hi8 => simp only [List.getElem?_toArray, List.getElem?_cons_zero, List.getElem?_cons_succ]; rfl
          case hd8 => rfl
          case hQ8 => exact fun _ _ _ h => h
          case hy8 => (refine Or.inl ⟨by rfl, ?_⟩; intro w hSw; (try dsimp only at hSw); go_simp; try with_reducible rfl)
          simp only [List.setIfInBounds_toArray, List.set_cons_zero, List.set_cons_succ]
          refine anyE_tk 7 25 (oi := ?oi9) (v := ?v9) ?hi9 ?hd9 (by kernel_rfl) (by kernel_rfl) (by kernel_rfl) ?hQ9 ?hy9 (Keep.out _ HB7.out) ?rest9
          case hi9 => simp only [List.getElem?_toArray, List.getElem?_cons_zero, List.getElem?_cons_succ]; rfl
          case hd9 => rfl
          case hQ9 => exact fun _ _ _ h => h
          case hy9 => (refine Or.inl ⟨by rfl, ?_⟩; intro w hSw; (try dsimp only at hSw); go_simp; try with_reducible rfl)
          simp only [List.setIfInBounds_toArray, List.set_cons_zero, List.set_cons_succ]
          refine anyE_tk 8 26 (oi := ?oi10) (v := ?v10) ?hi10 ?hd10 (by kernel_rfl) (by kernel_rfl) (by kernel_rfl) ?hQ10 ?hy10 (Keep.out _ HB7.out) ?rest10
          case hi10 => simp only [List.getElem?_toArray, List.getElem?_cons_zero, List.getElem?_cons_succ]; rfl
          case hd10 => rfl
          case hQ10 => exact fun _ _ _ h => h
          case hy10 => (refine Or.inl ⟨by rfl, ?_⟩; intro w hSw; (try dsimp only at hSw); go_simp; try with_reducible rfl)
          simp only [List.setIfInBounds_toArray, List.set_cons_zero, List.set_cons_succ]
          refine anyE_one (i := 9) (o := ?oi11) (by kernel_rfl) ?hi11 (fun K hK => ?step11)
          case hi11 => simp only [List.getElem?_toArray, List.getElem?_cons_zero, List.getElem?_cons_succ]; rfl
          go_simp
          have HB7z := Lib.hid HB7.out
          have H9 := Lib.hid (Blk.new w7 25 #[.int .i64 0, .slice none 0 0, .slice none 0 0])
          have HB7 := Lib.hid (balloc HB7.out (.cells #[.int .i64 0, .slice none 0 0, .slice none 0 0] 25))
          have HX9 := Lib.hid (show wi0.heap.size ≤ w7.heap.size from HB7z.out.size)
          have HI2 := Lib.hid ((HI2.out.imp (N' := fun q => wi0.heap.size ≤ q ∧ q ≠ w7.heap.size) fun q h1 h2 => ⟨Nat.le_trans HBc.out.size h1, by omega⟩).below (balloc (Below.refl _ _) (.cells #[.int .i64 0, .slice none 0 0, .slice none 0 0] 25)))
          have HR2 := Lib.hid (((HR2.out.lt).imp (N' := fun q => wi0.heap.size ≤ q ∧ q ≠ w7.heap.size) fun q h1 => ⟨Nat.le_trans HBc.out.size h1.1, by have := h1.2; omega⟩).below (balloc (Below.refl _ _) (.cells #[.int .i64 0, .slice none 0 0, .slice none 0 0] 25)))
          generalize hW9 : w7.alloc (.cells #[.int .i64 0, .slice none 0 0, .slice none 0 0] 25) = w9 at *
          clear hW9
          generalize w7.heap.size = x9 at *
          refine hK.out _ _ (fun _ => Keep.out _ HB7.out) ?_
          clear hK K
          try simp only [Act.put, List.setIfInBounds_toArray, List.set_cons_zero, List.set_cons_succ]
          obtain ⟨n0, n1, n2, f0, f1, f2⟩ := blk3 H9.out
          have hx9l := H9.out.lt
          have HP := Lib.hid ((((Only.refl x9 w9).put 0 (.int .i64 b.p)).put 1 (.slice AI2 b.its.length cI2)).put 2 (.slice AR2 b.rus.length cR2))
          have H9p := Lib.hid (show Blk _ x9 25 #[.int .i64 b.p, .slice AI2 b.its.length cI2, .slice AR2 b.rus.length cR2] from ((H9.out.put 0 (.int .i64 b.p)).put 1 (.slice AI2 b.its.length cI2)).put 2 (.slice AR2 b.rus.length cR2))
          have HB8 := Lib.hid (HB7.out.trans (HP.out.below HX9.out HB7.out.size))
          have HI3 := Lib.hid (HI2.out.keep (fun q hq => hq.2) HP.out)
          have HR3 := Lib.hid (HR2.out.keep (fun q hq => hq.2) HP.out)
          refine anyE_one (i := 10) (o := ?oi12) (by kernel_rfl) ?hi12 (fun K hK => ?step12)
          case hi12 => simp only [List.getElem?_toArray, List.getElem?_cons_zero, List.getElem?_cons_succ]; rfl
          go_simp
          go_wp2_with fail
          refine hK.out _ _ (fun _ => Keep.out _ HB8.out) ?_
          clear hK K
          try simp only [Act.put, List.setIfInBounds_toArray, List.set_cons_zero, List.set_cons_succ]
          refine anyE_one (i := 11) (o := ?oi13) (by kernel_rfl) ?hi13 (fun K hK => ?step13)
          case hi13 => simp only [List.getElem?_toArray, List.getElem?_cons_zero, List.getElem?_cons_succ]; rfl
          go_simp
          go_wp2_with fail
          refine hK.out _ _ (fun _ => Keep.out _ HB8.out) ?_
          clear hK K
          try simp only [Act.put, List.setIfInBounds_toArray, List.set_cons_zero, List.set_cons_succ]
          refine anyE_done (by kernel_rfl) ?_ _
          generalize hWD : (((w9.setCell ⟨x9, 0, none⟩ (.int .i64 b.p)).setCell ⟨x9, 1, none⟩ (.slice AI2 b.its.length cI2)).setCell ⟨x9, 2, none⟩ (.slice AR2 b.rus.length cR2)) = wd at *
          clear hWD n0 n1 n2 f0 f1 f2
          have hbd := hbi.trans (HB8.out.mono hbi.size)
          have HBl3 := Lib.hid (HBl.out.below hbd hGr)
          have HBr3 := Lib.hid (HBr.out.trans (hbd.mono HBr.out.size))
          obtain ⟨n0, n1, n2, _, _, _⟩ := blk3 H9p.out
          obtain ⟨y0, y1, y2, f0, f1, f2⟩ := blk3 HBl3.out
          have hGd := HBl3.out.lt
          obtain ⟨b0, b1, b2, _⟩ := blk3 (HK0.out.below HBr3.out HK0.out.lt)
          have HEx2 := Lib.hid (HGo.out HEx.out)
          go_wp2_with fail
          have HQ := Lib.hid ((((Only.refl G wd).put 0 (.int .i64 b.p)).put 1 (.slice AI2 b.its.length cI2)).put 2 (.slice AR2 b.rus.length cR2))
          go_roundw
          case rel => exact ⟨i + 1, _, AI2, AR2, cI2, cR2, by omega, by go_num, HEx2.out, ((HBl3.out.put 0 _).put 1 _).put 2 _, (HI3.out.imp (N' := fun q => q ≠ G ∧ w.heap.size + 1 < q) fun q h1 h2 => ⟨by have := hbi.size; omega, by have := hbi.size; have := HS0.out; have := HBr.out.size; omega⟩).keep (fun q hq => hq.1) HQ.out, (HR3.out.imp (N' := fun q => q ≠ G ∧ w.heap.size + 1 < q) fun q h1 => ⟨by have := hbi.size; omega, by have := hbi.size; have := HS0.out; have := HBr.out.size; omega⟩).keep (fun q hq => hq.1) HQ.out, HBr3.out.trans (HQ.out.below HGw.out HBr3.out.size)⟩
          case measure => simp [intOf]; omega
        · skip
          have HB7 := Lib.hid (HBc.out.trans (hd7.mono HBc.out.size))
          have HNo := Lib.hid hno
          clear hno
          clear hd7
          go_wp2_with fail
          refine hK.out _ _ (fun _ => Keep.out _ HB7.out) ?_
          clear hK K
          try simp only [Act.put, List.setIfInBounds_toArray, List.set_cons_zero, List.set_cons_succ]
          refine anyE_tk 6 18 (oi := ?oi14) (v := ?v14) ?hi14 ?hd14 (by kernel_rfl) (by kernel_rfl) (by kernel_rfl) ?hQ14 ?hy14 (Keep.out _ HB7.out) ?rest14
          case hi14 => simp only [List.getElem?_toArray, List.getElem?_cons_zero, List.getElem?_cons_succ]; rfl
          case hd14 => rfl
          case hQ14 => exact fun _ _ _ h => h
          case hy14 => (refine Or.inl ⟨by rfl, ?_⟩; intro w hSw; (try dsimp only at hSw); go_simp; try with_reducible rfl)
          simp only [List.setIfInBounds_toArray, List.set_cons_zero, List.set_cons_succ]
          refine anyE_tk 7 25 (oi := ?oi15) (v := ?v15) ?hi15 ?hd15 (by kernel_rfl) (by kernel_rfl) (by kernel_rfl) ?hQ15 ?hy15 (Keep.out _ HB7.out) ?rest15
          case hi15 => simp only [List.getElem?_toArray, List.getElem?_cons_zero, List.getElem?_cons_succ]; rfl
          case hd15 => rfl
          case hQ15 => exact fun _ _ _ h => h
          case hy15 => (refine Or.inl ⟨by rfl, ?_⟩; intro w hSw; (try dsimp only at hSw); go_simp; try with_reducible rfl)
          simp only [List.setIfInBounds_toArray, List.set_cons_zero, List.set_cons_succ]
          refine anyE_tk 8 26 (oi := ?oi16) (v := ?v16) ?hi16 ?hd16 (by kernel_rfl) (by kernel_rfl) (by kernel_rfl) ?hQ16 ?hy16 (Keep.out _ HB7.out) ?rest16
          case hi16 => simp only [List.getElem?_toArray, List.getElem?_cons_zero, List.getElem?_cons_succ]; rfl
          case hd16 => rfl
          case hQ16 => exact fun _ _ _ h => h
          case hy16 => (refine Or.inl ⟨by rfl, ?_⟩; intro w hSw; (try dsimp only at hSw); go_simp; try with_reducible rfl)
          simp only [List.setIfInBounds_toArray, List.set_cons_zero, List.set_cons_succ]
          refine anyE_one (i := 9) (o := ?oi17) (by kernel_rfl) ?hi17 (fun K hK => ?step17)
          case hi17 => simp only [List.getElem?_toArray, List.getElem?_cons_zero, List.getElem?_cons_succ]; rfl
          go_simp
          have HB7z := Lib.hid HB7.out
          have H9 := Lib.hid (Blk.new w7 25 #[.int .i64 0, .slice none 0 0, .slice none 0 0])
          have HB7 := Lib.hid (balloc HB7.out (.cells #[.int .i64 0, .slice none 0 0, .slice none 0 0] 25))
          have HX9 := Lib.hid (show wi0.heap.size ≤ w7.heap.size from HB7z.out.size)
          generalize hW9 : w7.alloc (.cells #[.int .i64 0, .slice none 0 0, .slice none 0 0] 25) = w9 at *
          clear hW9
          generalize w7.heap.size = x9 at *
          refine hK.out _ _ (fun _ => Keep.out _ HB7.out) ?_
          clear hK K
          try simp only [Act.put, List.setIfInBounds_toArray, List.set_cons_zero, List.set_cons_succ]
          obtain ⟨n0, n1, n2, f0, f1, f2⟩ := blk3 H9.out
          have hx9l := H9.out.lt
          have HP := Lib.hid ((((Only.refl x9 w9).put 0 (.int .i64 b.p)).put 1 (.slice AIx b.its.length cIx)).put 2 (.slice ARx b.rus.length cRx))
          have H9p := Lib.hid (show Blk _ x9 25 #[.int .i64 b.p, .slice AIx b.its.length cIx, .slice ARx b.rus.length cRx] from ((H9.out.put 0 (.int .i64 b.p)).put 1 (.slice AIx b.its.length cIx)).put 2 (.slice ARx b.rus.length cRx))
          have HB8 := Lib.hid (HB7.out.trans (HP.out.below HX9.out HB7.out.size))
          refine anyE_one (i := 10) (o := ?oi18) (by kernel_rfl) ?hi18 (fun K hK => ?step18)
          case hi18 => simp only [List.getElem?_toArray, List.getElem?_cons_zero, List.getElem?_cons_succ]; rfl
          go_simp
          go_wp2_with fail
          refine hK.out _ _ (fun _ => Keep.out _ HB8.out) ?_
          clear hK K
          try simp only [Act.put, List.setIfInBounds_toArray, List.set_cons_zero, List.set_cons_succ]
          refine anyE_one (i := 11) (o := ?oi19) (by kernel_rfl) ?hi19 (fun K hK => ?step19)
          case hi19 => simp only [List.getElem?_toArray, List.getElem?_cons_zero, List.getElem?_cons_succ]; rfl
          go_simp
          go_wp2_with fail
          refine hK.out _ _ (fun _ => Keep.out _ HB8.out) ?_
          clear hK K
          try simp only [Act.put, List.setIfInBounds_toArray, List.set_cons_zero, List.set_cons_succ]
          refine anyE_done (by kernel_rfl) ?_ _
          generalize hWD : (((w9.setCell ⟨x9, 0, none⟩ (.int .i64 b.p)).setCell ⟨x9, 1, none⟩ (.slice AIx b.its.length cIx)).setCell ⟨x9, 2, none⟩ (.slice ARx b.rus.length cRx)) = wd at *
          clear hWD n0 n1 n2 f0 f1 f2
          have hbd := hbi.trans (HB8.out.mono hbi.size)
          have HBl3 := Lib.hid (HBl.out.below hbd hGr)
          have HBr3 := Lib.hid (HBr.out.trans (hbd.mono HBr.out.size))
          obtain ⟨n0, n1, n2, _, _, _⟩ := blk3 H9p.out
          obtain ⟨y0, y1, y2, f0, f1, f2⟩ := blk3 HBl3.out
          have hGd := HBl3.out.lt
          obtain ⟨b0, b1, b2, _⟩ := blk3 (HK0.out.below HBr3.out HK0.out.lt)
          have HN := Lib.hid (HBa.out HNo.out)
          have HR1 := Lib.hid (HK1.out.below HBr3.out HK1.out.lt)
          obtain ⟨t0, t1, t2, g0, g1, g2⟩ := blk3 HR1.out
          have hlR : w.heap.size + 1 < wd.heap.size := HR1.out.lt
          go_wp2_with fail
          have HP := Lib.hid ((((Only.refl (w.heap.size + 1) wd).put 0 (.int .i64 b.p)).put 1 (.slice AI b.its.length cI)).put 2 (.slice AR b.rus.length cR))
          have HB2 := Lib.hid (((HR1.out.put 0 (.int .i64 b.p)).put 1 (.slice AI b.its.length cI)).put 2 (.slice AR b.rus.length cR))
          have hlow := HB1.out.trans (HBr3.out.mono HB1.out.size)
          refine bodyPost_ret (results_cell_row2 rfl _ _ (w.heap.size + 1) 25 _ (0, 0) _ rfl HB2.out Tryd.underlying25 rfl (by kernel_rfl)) rfl ⟨.inr ⟨HN.out, rfl⟩, hlow.trans (HP.out.below (by omega) hlow.size)⟩
      case step7 =>
        go_simp
        have H9 := Lib.hid (Blk.new wi0 25 #[.int .i64 0, .slice none 0 0, .slice none 0 0])
        have HBc := Lib.hid (balloc HBc.out (.cells #[.int .i64 0, .slice none 0 0, .slice none 0 0] 25))
        have HX9 := Lib.hid (Nat.le_refl wi0.heap.size)
        have HX9b := Lib.hid H9.out.lt
        obtain ⟨x9, hx9⟩ : ∃ x9, x9 = wi0.heap.size := ⟨_, rfl⟩
        obtain ⟨w9, hw9⟩ : ∃ w9, w9 = wi0.alloc (.cells #[.int .i64 0, .slice none 0 0, .slice none 0 0] 25) := ⟨_, rfl⟩
        rw [← hw9] at H9 HBc HX9b ⊢
        have HX9 := Lib.hid (show wi0.heap.size ≤ x9 from Nat.le_of_eq hx9.symm)
        have HX9b := Lib.hid (show x9 < w9.heap.size by rw [hx9]; exact HX9b.out)
        have H9 := Lib.hid (show Blk w9 x9 25 #[.int .i64 0, .slice none 0 0, .slice none 0 0] by rw [hx9]; exact H9.out)
        rw [← hx9]
        clear hw9 hx9
        refine hK.out _ _ (fun _ => Keep.out _ HBc.out) ?_
        clear hK K
        try simp only [Act.put, List.setIfInBounds_toArray, List.set_cons_zero, List.set_cons_succ]
        refine anyE_one (i := 5) (o := ?oi20) (by kernel_rfl) ?hi20 (fun K hK => ?step20)
        case hi20 => simp only [List.getElem?_toArray, List.getElem?_cons_zero, List.getElem?_cons_succ]; rfl
        go_simp
        refine (cw.out _ HBc.out).mono ?_
        rintro e w7 ⟨⟨AI2, AR2, cI2, cR2, hex, rfl, hit2, hru2⟩ | ⟨hno, rfl⟩, hd7⟩
        · skip
          have HB7 := Lib.hid (HBc.out.trans (hd7.mono HBc.out.size))
          have HI2 := Lib.hid hit2
          have HR2 := Lib.hid hru2
          have HEx := Lib.hid hex
          clear hit2 hru2 hex
          have H9 := Lib.hid (H9.out.below hd7 H9.out.lt)
          clear hd7
          go_wp2_with fail
          refine hK.out _ _ (fun _ => Keep.out _ HB7.out) ?_
          clear hK K
          try simp only [Act.put, List.setIfInBounds_toArray, List.set_cons_zero, List.set_cons_succ]
          refine anyE_tk 6 18 (oi := ?oi21) (v := ?v21) ?hi21 ?hd21 (by kernel_rfl) (by kernel_rfl) (by kernel_rfl) ?hQ21 ?hy21 (Keep.out _ HB7.out) ?rest21
          case hi21 => simp only [List.getElem?_toArray, List.getElem?_cons_zero, List.getElem?_cons_succ]; rfl
          case hd21 => rfl
          case hQ21 => exact fun _ _ _ h => h
          case hy21 => (refine Or.inl ⟨by rfl, ?_⟩; intro w hSw; (try dsimp only at hSw); go_simp; try with_reducible rfl)
          simp only [List.setIfInBounds_toArray, List.set_cons_zero, List.set_cons_succ]
          refine anyE_tk 7 25 (oi := ?oi22) (v := ?v22) ?hi22 ?hd22 (by kernel_rfl) (by kernel_rfl) (by kernel_rfl) ?hQ22 ?hy22 (Keep.out _ HB7.out) ?rest22
          case hi22 => simp only [List.getElem?_toArray, List.getElem?_cons_zero, List.getElem?_cons_succ]; rfl
          case hd22 => rfl
          case hQ22 => exact fun _ _ _ h => h
          case hy22 => (refine Or.inl ⟨by rfl, ?_⟩; intro w hSw; (try dsimp only at hSw); go_simp; try with_reducible rfl)
          simp only [List.setIfInBounds_toArray, List.set_cons_zero, List.set_cons_succ]
          refine anyE_tk 8 26 (oi := ?oi23) (v := ?v23) ?hi23 ?hd23 (by kernel_rfl) (by kernel_rfl) (by kernel_rfl) ?hQ23 ?hy23 (Keep.out _ HB7.out) ?rest23
          case hi23 => simp only [List.getElem?_toArray, List.getElem?_cons_zero, List.getElem?_cons_succ]; rfl
          case hd23 => rfl
          case hQ23 => exact fun _ _ _ h => h
          case hy23 => (refine Or.inl ⟨by rfl, ?_⟩; intro w hSw; (try dsimp only at hSw); go_simp; try with_reducible rfl)
          simp only [List.setIfInBounds_toArray, List.set_cons_zero, List.set_cons_succ]
          have HI2 := Lib.hid (HI2.out.imp (N' := fun q => wi0.heap.size ≤ q ∧ q ≠ x9) fun q h1 h2 => ⟨Nat.le_trans HBc.out.size h1, by have := HX9b.out; omega⟩)
          have HR2 := Lib.hid (HR2.out.imp (N' := fun q => wi0.heap.size ≤ q ∧ q ≠ x9) fun q h1 => ⟨Nat.le_trans HBc.out.size h1, by have := HX9b.out; omega⟩)
          obtain ⟨n0, n1, n2, f0, f1, f2⟩ := blk3 H9.out
          have hx9l := H9.out.lt
          have HP := Lib.hid ((((Only.refl x9 w7).put 0 (.int .i64 b.p)).put 1 (.slice AI2 b.its.length cI2)).put 2 (.slice AR2 b.rus.length cR2))
          have H9p := Lib.hid (show Blk _ x9 25 #[.int .i64 b.p, .slice AI2 b.its.length cI2, .slice AR2 b.rus.length cR2] from ((H9.out.put 0 (.int .i64 b.p)).put 1 (.slice AI2 b.its.length cI2)).put 2 (.slice AR2 b.rus.length cR2))
          have HB8 := Lib.hid (HB7.out.trans (HP.out.below HX9.out HB7.out.size))
          have HI3 := Lib.hid (HI2.out.keep (fun q hq => hq.2) HP.out)
          have HR3 := Lib.hid (HR2.out.keep (fun q hq => hq.2) HP.out)
          refine anyE_one (i := 10) (o := ?oi24) (by kernel_rfl) ?hi24 (fun K hK => ?step24)
          case hi24 => simp only [List.getElem?_toArray, List.getElem?_cons_zero, List.getElem?_cons_succ]; rfl
          go_simp
          go_wp2_with fail
          refine hK.out _ _ (fun _ => Keep.out _ HB8.out) ?_
          clear hK K
          try simp only [Act.put, List.setIfInBounds_toArray, List.set_cons_zero, List.set_cons_succ]
          refine anyE_one (i := 11) (o := ?oi25) (by kernel_rfl) ?hi25 (fun K hK => ?step25)
          case hi25 => simp only [List.getElem?_toArray, List.getElem?_cons_zero, List.getElem?_cons_succ]; rfl
          go_simp
          go_wp2_with fail
          refine hK.out _ _ (fun _ => Keep.out _ HB8.out) ?_
          clear hK K
          try simp only [Act.put, List.setIfInBounds_toArray, List.set_cons_zero, List.set_cons_succ]
          refine anyE_done (by kernel_rfl) ?_ _
          generalize hWD : (((w7.setCell ⟨x9, 0, none⟩ (.int .i64 b.p)).setCell ⟨x9, 1, none⟩ (.slice AI2 b.its.length cI2)).setCell ⟨x9, 2, none⟩ (.slice AR2 b.rus.length cR2)) = wd at *
          clear hWD n0 n1 n2 f0 f1 f2
          have hbd := hbi.trans (HB8.out.mono hbi.size)
          have HBl3 := Lib.hid (HBl.out.below hbd hGr)
          have HBr3 := Lib.hid (HBr.out.trans (hbd.mono HBr.out.size))
          obtain ⟨n0, n1, n2, _, _, _⟩ := blk3 H9p.out
          obtain ⟨y0, y1, y2, f0, f1, f2⟩ := blk3 HBl3.out
          have hGd := HBl3.out.lt
          obtain ⟨b0, b1, b2, _⟩ := blk3 (HK0.out.below HBr3.out HK0.out.lt)
          have HEx2 := Lib.hid (HGo.out HEx.out)
          go_wp2_with fail
          have HQ := Lib.hid ((((Only.refl G wd).put 0 (.int .i64 b.p)).put 1 (.slice AI2 b.its.length cI2)).put 2 (.slice AR2 b.rus.length cR2))
          go_roundw
          case rel => exact ⟨i + 1, _, AI2, AR2, cI2, cR2, by omega, by go_num, HEx2.out, ((HBl3.out.put 0 _).put 1 _).put 2 _, (HI3.out.imp (N' := fun q => q ≠ G ∧ w.heap.size + 1 < q) fun q h1 h2 => ⟨by have := hbi.size; omega, by have := hbi.size; have := HS0.out; have := HBr.out.size; omega⟩).keep (fun q hq => hq.1) HQ.out, (HR3.out.imp (N' := fun q => q ≠ G ∧ w.heap.size + 1 < q) fun q h1 => ⟨by have := hbi.size; omega, by have := hbi.size; have := HS0.out; have := HBr.out.size; omega⟩).keep (fun q hq => hq.1) HQ.out, HBr3.out.trans (HQ.out.below HGw.out HBr3.out.size)⟩
          case measure => simp [intOf]; omega
        · skip
          have HB7 := Lib.hid (HBc.out.trans (hd7.mono HBc.out.size))
          have HNo := Lib.hid hno
          clear hno
          have H9 := Lib.hid (H9.out.below hd7 H9.out.lt)
          clear hd7
          go_wp2_with fail
          refine hK.out _ _ (fun _ => Keep.out _ HB7.out) ?_
          clear hK K
          try simp only [Act.put, List.setIfInBounds_toArray, List.set_cons_zero, List.set_cons_succ]
          refine anyE_tk 6 18 (oi := ?oi26) (v := ?v26) ?hi26 ?hd26 (by kernel_rfl) (by kernel_rfl) (by kernel_rfl) ?hQ26 ?hy26 (Keep.out _ HB7.out) ?rest26
          case hi26 => simp only [List.getElem?_toArray, List.getElem?_cons_zero, List.getElem?_cons_succ]; rfl
          case hd26 => rfl
          case hQ26 => exact fun _ _ _ h => h
          case hy26 => (refine Or.inl ⟨by rfl, ?_⟩; intro w hSw; (try dsimp only at hSw); go_simp; try with_reducible rfl)
          simp only [List.setIfInBounds_toArray, List.set_cons_zero, List.set_cons_succ]
          refine anyE_tk 7 25 (oi := ?oi27) (v := ?v27) ?hi27 ?hd27 (by kernel_rfl) (by kernel_rfl) (by kernel_rfl) ?hQ27 ?hy27 (Keep.out _ HB7.out) ?rest27
          case hi27 => simp only [List.getElem?_toArray, List.getElem?_cons_zero, List.getElem?_cons_succ]; rfl
          case hd27 => rfl
          case hQ27 => exact fun _ _ _ h => h
          case hy27 => (refine Or.inl ⟨by rfl, ?_⟩; intro w hSw; (try dsimp only at hSw); go_simp; try with_reducible rfl)
          simp only [List.setIfInBounds_toArray, List.set_cons_zero, List.set_cons_succ]
          refine anyE_tk 8 26 (oi := ?oi28) (v := ?v28) ?hi28 ?hd28 (by kernel_rfl) (by kernel_rfl) (by kernel_rfl) ?hQ28 ?hy28 (Keep.out _ HB7.out) ?rest28
          case hi28 => simp only [List.getElem?_toArray, List.getElem?_cons_zero, List.getElem?_cons_succ]; rfl
          case hd28 => rfl
          case hQ28 => exact fun _ _ _ h => h
          case hy28 => (refine Or.inl ⟨by rfl, ?_⟩; intro w hSw; (try dsimp only at hSw); go_simp; try with_reducible rfl)
          simp only [List.setIfInBounds_toArray, List.set_cons_zero, List.set_cons_succ]
          obtain ⟨n0, n1, n2, f0, f1, f2⟩ := blk3 H9.out
          have hx9l := H9.out.lt
          have HP := Lib.hid ((((Only.refl x9 w7).put 0 (.int .i64 b.p)).put 1 (.slice AIx b.its.length cIx)).put 2 (.slice ARx b.rus.length cRx))
          have H9p := Lib.hid (show Blk _ x9 25 #[.int .i64 b.p, .slice AIx b.its.length cIx, .slice ARx b.rus.length cRx] from ((H9.out.put 0 (.int .i64 b.p)).put 1 (.slice AIx b.its.length cIx)).put 2 (.slice ARx b.rus.length cRx))
          have HB8 := Lib.hid (HB7.out.trans (HP.out.below HX9.out HB7.out.size))
          refine anyE_one (i := 10) (o := ?oi29) (by kernel_rfl) ?hi29 (fun K hK => ?step29)
          case hi29 => simp only [List.getElem?_toArray, List.getElem?_cons_zero, List.getElem?_cons_succ]; rfl
          go_simp
          go_wp2_with fail
          refine hK.out _ _ (fun _ => Keep.out _ HB8.out) ?_
          clear hK K
          try simp only [Act.put, List.setIfInBounds_toArray, List.set_cons_zero, List.set_cons_succ]
          refine anyE_one (i := 11) (o := ?oi30) (by kernel_rfl) ?hi30 (fun K hK => ?step30)
          case hi30 => simp only [List.getElem?_toArray, List.getElem?_cons_zero, List.getElem?_cons_succ]; rfl
          go_simp
          go_wp2_with fail
          refine hK.out _ _ (fun _ => Keep.out _ HB8.out) ?_
          clear hK K
          try simp only [Act.put, List.setIfInBounds_toArray, List.set_cons_zero, List.set_cons_succ]
          refine anyE_done (by kernel_rfl) ?_ _
          generalize hWD : (((w7.setCell ⟨x9, 0, none⟩ (.int .i64 b.p)).setCell ⟨x9, 1, none⟩ (.slice AIx b.its.length cIx)).setCell ⟨x9, 2, none⟩ (.slice ARx b.rus.length cRx)) = wd at *
          clear hWD n0 n1 n2 f0 f1 f2
          have hbd := hbi.trans (HB8.out.mono hbi.size)
          have HBl3 := Lib.hid (HBl.out.below hbd hGr)
          have HBr3 := Lib.hid (HBr.out.trans (hbd.mono HBr.out.size))
          obtain ⟨n0, n1, n2, _, _, _⟩ := blk3 H9p.out
          obtain ⟨y0, y1, y2, f0, f1, f2⟩ := blk3 HBl3.out
          have hGd := HBl3.out.lt
          obtain ⟨b0, b1, b2, _⟩ := blk3 (HK0.out.below HBr3.out HK0.out.lt)
          have HN := Lib.hid (HBa.out HNo.out)
          have HR1 := Lib.hid (HK1.out.below HBr3.out HK1.out.lt)
          obtain ⟨t0, t1, t2, g0, g1, g2⟩ := blk3 HR1.out
          have hlR : w.heap.size + 1 < wd.heap.size := HR1.out.lt
          go_wp2_with fail
          have HP := Lib.hid ((((Only.refl (w.heap.size + 1) wd).put 0 (.int .i64 b.p)).put 1 (.slice AI b.its.length cI)).put 2 (.slice AR b.rus.length cR))
          have HB2 := Lib.hid (((HR1.out.put 0 (.int .i64 b.p)).put 1 (.slice AI b.its.length cI)).put 2 (.slice AR b.rus.length cR))
          have hlow := HB1.out.trans (HBr3.out.mono HB1.out.size)
          refine bodyPost_ret (results_cell_row2 rfl _ _ (w.heap.size + 1) 25 _ (0, 0) _ rfl HB2.out Tryd.underlying25 rfl (by kernel_rfl)) rfl ⟨.inr ⟨HN.out, rfl⟩, hlow.trans (HP.out.below (by omega) hlow.size)⟩
    · obtain rfl : i = ss.length := by omega
      have HR1 := Lib.hid (HK1.out.below HBr.out HK1.out.lt)
      obtain ⟨t0, t1, t2, g0, g1, g2⟩ := blk3 HR1.out
      have hlR : w.heap.size + 1 < wr.heap.size := HR1.out.lt
      have HM := Lib.hid (HAll.out m HEx0.out)
      go_wp2_with fail
      have HP := Lib.hid ((((Only.refl (w.heap.size + 1) wr).put 0 (.int .i64 b.p)).put 1 (.slice AIx b.its.length cIx)).put 2 (.slice ARx b.rus.length cRx))
      have HB2 := Lib.hid (((HR1.out.put 0 (.int .i64 b.p)).put 1 (.slice AIx b.its.length cIx)).put 2 (.slice ARx b.rus.length cRx))
      have hlow := HB1.out.trans (HBr.out.mono HB1.out.size)
      refine bodyPost_ret (results_cell_row2 rfl _ _ (w.heap.size + 1) 25 _ (0, 0) _ rfl HB2.out Tryd.underlying25 rfl (by kernel_rfl)) rfl ⟨.inl ⟨m, AIx, ARx, cIx, cRx, HM.out, rfl, ?_, ?_⟩, hlow.trans (HP.out.below (by omega) hlow.size)⟩
      · exact (HIt.out.keep (fun q hq e => by have := hq.2; omega) HP.out).imp fun q hq _ => by have := hq.2; omega
      · exact (HRu.out.keep (fun q hq e => by have := hq.2; omega) HP.out).imp fun q hq => by have := hq.2; omega
end Go.Proofs.YtgoojcjfhghmgaaDoor


namespace Go.Proofs.YtgoojcjfhghmgaaDoor
open Go.RowKit

set_option maxRecDepth 100000 in
set_option maxHeartbeats 2000000 in
theorem named_ref (AI AR : Option Addr) (cI cR B : Nat) (b : Bk) (item : Int) (w : World) (hB : B ≤ w.heap.size) (h : ItsAt B w AI b.its) (h' : RusAt B w AR b.rus) (hs : Short b) :
    Calls Tryd.prog 69 #[.agg #[.int .i64 b.p, .slice AI b.its.length cI, .slice AR b.rus.length cR], .int .i64 item] w fun e w' => e = .returned (.int .i64 (nmR b item)) ∧ Below w.heap.size w w' := by
  have hb0 := Blk.new w 25 #[.int .i64 b.p, .slice AI b.its.length cI, .slice AR b.rus.length cR]
  have hw0 : Below w.heap.size w (w.alloc (.cells #[.int .i64 b.p, .slice AI b.its.length cI, .slice AR b.rus.length cR] 25)) := (Below.refl _ _).alloc (Nat.le_refl _) _
  have hlt : w.heap.size < (w.alloc (.cells #[.int .i64 b.p, .slice AI b.its.length cI, .slice AR b.rus.length cR] 25)).heap.size := hb0.lt
  have hI := (h.below (Below.refl _ _) hB).below hw0 (Nat.le_of_lt hlt)
  have hR := (h'.below (Below.refl _ _) hB).below hw0 (Nat.le_of_lt hlt)
  have cv := Lib.hid (Validate_ref AI AR cI cR _ b _ (Nat.le_refl _) hI hR hs)
  have Hn := Lib.hid (show nmR b item = if vlR b = 0 then (if item < 0 ∨ (b.its.length : Int) ≤ item then 5 else 0) else vlR b from rfl)
  have h60 := hs.1
  have HB := Lib.hid hb0
  have Hw := Lib.hid hw0
  generalize vlR b = e0 at cv Hn
  clear h h' hs hI hR hb0 hw0
  by_cases he : e0 = 0
  · subst he
    have Hn2 := Lib.hid (show nmR b item = if item < 0 ∨ (b.its.length : Int) ≤ item then 5 else 0 by rw [Hn.out, if_pos rfl])
    by_cases h1 : item < 0
    · have Hr := Lib.hid (show nmR b item = 5 by rw [Hn2.out, if_pos (.inl h1)])
      go_enter Tryd.func69, Tryd.ntmps69
      go_wp2_with (go_at_call 21; refine cv.out.mono ?_; rintro e w1 ⟨rfl, hd⟩; have hx1 := HB.out.below hd hlt; have z1 := hx1.cell 1)
      go_ret
      exact ⟨by rw [Hr.out]; rfl, Hw.out.trans (hd.mono Hw.out.size)⟩
    · have h1d : decide (item < 0) = false := by simpa using h1
      by_cases h2 : (b.its.length : Int) ≤ item
      · have Hr := Lib.hid (show nmR b item = 5 by rw [Hn2.out, if_pos (.inr h2)])
        have h2d : decide ((b.its.length : Int) ≤ item) = true := by simpa using h2
        go_enter Tryd.func69, Tryd.ntmps69
        go_wp2_with (go_at_call 21; refine cv.out.mono ?_; rintro e w1 ⟨rfl, hd⟩; have hx1 := HB.out.below hd hlt; have z1 := hx1.cell 1)
        go_ret
        exact ⟨by rw [Hr.out]; rfl, Hw.out.trans (hd.mono Hw.out.size)⟩
      · have Hr := Lib.hid (show nmR b item = 0 by rw [Hn2.out, if_neg (by omega)])
        have h2d : decide ((b.its.length : Int) ≤ item) = false := by simpa using h2
        go_enter Tryd.func69, Tryd.ntmps69
        go_wp2_with (go_at_call 21; refine cv.out.mono ?_; rintro e w1 ⟨rfl, hd⟩; have hx1 := HB.out.below hd hlt; have z1 := hx1.cell 1)
        go_ret
        exact ⟨by rw [Hr.out]; rfl, Hw.out.trans (hd.mono Hw.out.size)⟩
  · have Hr := Lib.hid (show nmR b item = e0 by rw [Hn.out, if_neg he])
    have he1 : (e0 == 0) = false := by simpa using he
    have he2 : (e0 != 0) = true := by simpa using he
    go_enter Tryd.func69, Tryd.ntmps69
    go_wp2_with (go_at_call 21; refine cv.out.mono ?_; rintro e w1 ⟨rfl, hd⟩; have hx1 := HB.out.below hd hlt; have z1 := hx1.cell 1)
    go_ret
    exact ⟨by rw [Hr.out]; rfl, Hw.out.trans (hd.mono Hw.out.size)⟩

theorem cnF_step {b : Bk} {i m c : Nat} (hc : cnF b (i + 1) m = c) : cnF b i (if m.testBit i then m ||| mk (prt b i) else m) = c := hc
theorem prt_at {b : Bk} (hv : VBk b) {i : Nat} (hil : i < b.its.length) {B : Nat} {w : World} {A1 : Option Addr} (i1 : IntsAt B w A1 b.its[i].1) : IntsAt B w A1 (intL (prt b i)) ∧ b.its[i].1.length = (prt b i).length ∧ (prt b i).length ≤ 6 ∧ ∀ x ∈ prt b i, x < i := by
  have hpr : prt b i = natL b.its[i].1 := by simp [prt, hil]
  have hin : intL (prt b i) = b.its[i].1 := by rw [hpr]; exact int_nat fun x hx => (isS_mem (hv.parts i hil).2.1 x hx).1
  have hlen : b.its[i].1.length = (prt b i).length := by rw [hpr, natL_length]
  exact ⟨by rw [hin]; exact i1, hlen, by rw [← hlen]; exact (hv.parts i hil).1, prt_lt hv hil⟩
theorem mkTo_zero (l : List Nat) : mkTo l 0 = 0 := by simp [mkTo]
theorem or_lt {m l n : Nat} (hm : m < 2 ^ n) (hl : l < 2 ^ n) : m ||| l < 2 ^ n := Nat.or_lt_two_pow hm hl

set_option maxRecDepth 100000 in
set_option maxHeartbeats 4000000 in
theorem inside_ref (AI AR : Option Addr) (cI cR B : Nat) (b : Bk) (item : Nat) (w : World) (hB : B ≤ w.heap.size) (h : ItsAt B w AI b.its) (hv : VBk b) (hi : item < b.its.length) :
    Calls Tryd.prog 71 #[.agg #[.int .i64 b.p, .slice AI b.its.length cI, .slice AR b.rus.length cR], .int .i64 item] w fun e w' => e = .returned (.slice (some ⟨w.heap.size + 1, 0, none⟩) b.its.length b.its.length) ∧ BB (w.heap.size + 1) b.its.length (cnS b item) w' ∧ Below w.heap.size w w' := by
  obtain ⟨W0, hW0⟩ : ∃ W0, W0 = w.alloc (.cells #[.int .i64 b.p, .slice AI b.its.length cI, .slice AR b.rus.length cR] 25) := ⟨_, rfl⟩
  have hw0 : Below w.heap.size w W0 := by rw [hW0]; exact balloc (Below.refl _ _) _
  have hb0 : Blk W0 w.heap.size 25 #[.int .i64 b.p, .slice AI b.its.length cI, .slice AR b.rus.length cR] := by rw [hW0]; exact Blk.new w 25 _
  have hsz : W0.heap.size = w.heap.size + 1 := by rw [hW0]; simp only [World.size_alloc]
  have ni := hv.ni
  obtain ⟨cs, hs, hz, mk0⟩ := make_bools b.its.length (by omega)
  have H := Lib.hid (h.below (Below.refl _ _) hB)
  have hbm : BB (w.heap.size + 1) b.its.length 0 (W0.alloc (.cells cs 4)) := by rw [← hsz]; exact BB.made W0 hs hz
  have HB0 := Lib.hid (show BB (w.heap.size + 1) b.its.length (2 ^ item) (W0.alloc (.cells (cs.setIfInBounds item (.bool true)) 4)) from ⟨_, by rw [← hsz]; exact Blk.new W0 4 _, by simp; omega, fun e he => by
    rw [Array.getElem?_setIfInBounds, Nat.testBit_two_pow]
    by_cases hed : item = e
    · subst hed
      rw [if_pos rfl, if_pos (by omega)]; simp
    · rw [if_neg hed, hz e he]
      simp [hed]⟩)
  have hz0 := hbm.cell hi
  have hz1 := hbm.frozen item
  have Hw := Lib.hid (hw0.alloc hw0.size (.cells (cs.setIfInBounds item (.bool true)) 4))
  have HK := Lib.hid (hb0.alloc (.cells (cs.setIfInBounds item (.bool true)) 4))
  have x1 := hb0.cell 1
  have Hcn := Lib.hid (show cnF b (item + 1) (2 ^ item) = cnS b item from rfl)
  have Hpow := Lib.hid (show 2 ^ item < 2 ^ b.its.length from Nat.pow_lt_pow_right (by decide) hi)
  have Hprt := Lib.hid (fun i (hil : i < b.its.length) A1 (i1 : IntsAt w.heap.size w A1 b.its[i].1) => prt_at hv hil i1)
  generalize cnS b item = C at Hcn ⊢
  clear h hw0 hb0 hbm hs hz hv hB hsz
  subst hW0
  go_enter Tryd.func71, Tryd.ntmps71
  go_wp2_with fail
  go_loopw [6] (fun s6 wr => ∃ k m : Nat, k ≤ item + 1 ∧ s6 = .int .i64 ((k : Int) - 1) ∧ m < 2 ^ b.its.length ∧ Aside (cnF b k m = C) ∧ Aside (BB (w.heap.size + 1) b.its.length m wr) ∧ Below w.heap.size w wr ∧ Aside (Blk wr w.heap.size 25 #[.int .i64 b.p, .slice AI b.its.length cI, .slice AR b.rus.length cR])) (fun s6 _ => (intOf s6 + 1).toNat)
  case atStart => exact ⟨item + 1, 2 ^ item, Nat.le_refl _, by go_num, Hpow.out, Hcn.out, HB0.out, Hw.out, HK.out⟩
  case round =>
    clear HB0 Hw HK hz0 hz1 x1
    obtain ⟨k, m, hk, rfl, hm, hc, hbb, hb, hblk⟩ := hrel
    cases k with
    | zero =>
      have HmC := Lib.hid (show m = C from hc.out)
      have HBB := Lib.hid hbb.out
      clear hc hbb hblk
      go_wp2_with fail
      go_ret
      exact ⟨rfl, by rw [← HmC.out]; exact HBB.out, hb⟩
    | succ i =>
      have e1 : ((i + 1 : Nat) : Int) - 1 = (i : Int) := by omega
      rw [e1]
      have hil : i < b.its.length := by omega
      have Hc := Lib.hid (cnF_step hc.out)
      obtain ⟨bb, off, A1, c1, A2, c2, rfl, hbB, e0, _, i1, _⟩ := H.out i hil
      obtain ⟨i1', hlen, h6, hpl⟩ := Hprt.out i hil A1 i1
      have HBB := Lib.hid hbb.out
      have HBK := Lib.hid hblk.out
      have Hb := Lib.hid hb
      have d0 := (hb.cell (p := ⟨bb, off + i * 2, none⟩) hbB).trans e0
      rw [hlen] at d0
      clear e1 hc hbb hblk hb e0 i1 hlen
      generalize prt b i = L at Hc i1' d0 h6 hpl
      have hi0 : (0 : Int) ≤ (i : Int) := by omega
      obtain ⟨W1, hW1⟩ : ∃ W1, W1 = wr := ⟨_, rfl⟩
      subst hW1
      go_wp2_with fail
      go_loopw [7] (fun s7 wy => ∃ j : Nat, j ≤ L.length ∧ s7 = .int .i64 j ∧ Aside (m.testBit i = false → j = 0) ∧ Aside (BB (w.heap.size + 1) b.its.length (m ||| mkTo L j) wy) ∧ Below w.heap.size w wy ∧ Aside (Blk wy w.heap.size 25 #[.int .i64 b.p, .slice (some ⟨bb, off, none⟩) b.its.length cI, .slice AR b.rus.length cR])) (fun s7 _ => L.length - (intOf s7).toNat)
      case atStart => exact ⟨0, Nat.zero_le _, rfl, fun _ => rfl, by rw [mkTo_zero, Nat.or_zero]; exact HBB.out, Hb.out, HBK.out⟩
      case round =>
        obtain ⟨j, hj, rfl, hz, hbb, hb, hblk⟩ := hrel
        have z1 := hblk.out.cell 1
        have d1 := (hb.cell (p := ⟨bb, off + i * 2, none⟩) hbB).trans ((Hb.out.cell (p := ⟨bb, off + i * 2, none⟩) hbB).symm.trans d0)
        have b0 := hbb.out.cell hil
        have HBy := Lib.hid hbb.out
        have HKy := Lib.hid hblk.out
        have Hby := Lib.hid hb
        have Hz := Lib.hid hz.out
        clear hz hbb hblk hb d0 Hb HBB HBK
        by_cases hjl : j < L.length
        · cases hbit : m.testBit i with
          | false =>
            have hj0 := Hz.out hbit
            subst hj0
            rw [mkTo_zero, Nat.or_zero, hbit] at b0
            rw [hbit] at Hc
            rw [mkTo_zero, Nat.or_zero] at HBy
            clear hbit Hz
            have jd : decide ((0 : Int) < (L.length : Int)) = true := by simp; omega
            go_wp2_with fail
            go_roundw
            case rel => exact ⟨i, m, by omega, by go_num, hm, (show cnF b i m = C by simpa using Hc.out), HBy.out, Hby.out, HKy.out⟩
            case measure => simp [intOf]
          | true =>
            rw [Nat.testBit_or, hbit, Bool.true_or] at b0
            obtain ⟨b3, o3, rfl, hb3, c3⟩ := i1'.at (k := j) (by simp [intL]; omega)
            have e3 : (intL L)[j]'(by simp [intL]; omega) = ((L[j] : Nat) : Int) := by simp [intL]
            rw [e3] at c3
            have c3' := (Hby.out.cell (p := ⟨b3, o3 + j, none⟩) hb3).trans c3
            have hq := hpl L[j] (List.getElem_mem hjl)
            have hqn : L[j] < b.its.length := by omega
            have y0 := HBy.out.cell hqn
            have y1 := HBy.out.frozen L[j]
            have Hs := Lib.hid (mkTo_succ hjl)
            have hjd : decide ((j : Int) < (L.length : Int)) = true := by simp; omega
            clear c3 e3
            generalize L[j] = q at c3' hq hqn y0 y1 Hs
            have HBp := Lib.hid (HBy.out.put q)
            rw [Nat.or_assoc] at HBp
            go_wp2_with fail
            go_roundw
            case rel => exact ⟨j + 1, by omega, by go_num, fun h => absurd h (by decide), by rw [Hs.out]; exact HBp.out, below_put Hby.out (Nat.le_succ _) _ _, HKy.out.far (show w.heap.size ≠ w.heap.size + 1 by omega) _⟩
            case measure => simp [intOf]; omega
        · obtain rfl : j = L.length := by omega
          have Ha := Lib.hid (mkTo_all L)
          have HmL := Lib.hid (mk_lt (l := L) (n := b.its.length) (fun x hx => by have := hpl x hx; omega))
          have hjd : decide ((L.length : Int) < (L.length : Int)) = false := by simp
          clear b0
          go_wp2_with fail
          go_roundw
          case rel =>
            refine ⟨i, if m.testBit i then m ||| mk L else m, by omega, by go_num, ?_, Hc.out, ?_, Hby.out, HKy.out⟩
            · split
              · exact or_lt hm HmL.out
              · exact hm
            · have hb9 : BB (w.heap.size + 1) b.its.length (m ||| mkTo L L.length) _ := HBy.out
              rw [Ha.out] at hb9
              cases hbit : m.testBit i with
              | true => exact (show BB (w.heap.size + 1) b.its.length (if true = true then m ||| mk L else m) _ by simpa using hb9)
              | false =>
                have h0 := Hz.out hbit
                have hl0 : mk L = 0 := by rw [← Ha.out, h0, mkTo_zero]
                rw [hl0, Nat.or_zero] at hb9
                exact (show BB (w.heap.size + 1) b.its.length (if false = true then m ||| mk L else m) _ by simpa using hb9)
          case measure => simp [intOf]
end Go.Proofs.YtgoojcjfhghmgaaDoor


namespace Go.Proofs.YtgoojcjfhghmgaaDoor
open Go.RowKit

def bsN (b : Bk) (C k : Nat) : Nat := (List.range k).foldl (fun m i => if C.testBit i then m ||| mk (hasL b i) else m) 0
theorem bsN_succ (b : Bk) (C k : Nat) : bsN b C (k + 1) = if C.testBit k then bsN b C k ||| mk (hasL b k) else bsN b C k := by
  unfold bsN
  rw [List.range_succ, List.foldl_append]; rfl
theorem bsN_all {b : Bk} (hv : VBk b) {item : Nat} (hi : item < b.its.length) : bsN b (cnS b item) b.its.length = bsS b item := by
  have hC : cnS b item < 2 ^ b.its.length := Nat.lt_of_lt_of_le (cnS_lt hv hi) (Nat.pow_le_pow_right (by decide) hi)
  unfold bsN bsS
  rw [bl_filter hC (by have := hv.ni; omega), List.foldl_filter]
theorem bsN_lt {b : Bk} (hv : VBk b) (C : Nat) : ∀ k, k ≤ b.its.length → bsN b C k < 2 ^ b.p.toNat
  | 0, _ => by simp [bsN]; exact Nat.two_pow_pos _
  | k + 1, hk => by
    have ih := bsN_lt hv C k (by omega)
    rw [bsN_succ]
    split
    · exact or_lt ih (mk_lt (hasL_lt hv (by omega)))
    · exact ih
theorem BB.far {g n x : Nat} {W : World} (h : BB g n x W) {p : Addr} (hp : g ≠ p.block) (u : Value) : BB g n x (W.setCell p u) := by
  obtain ⟨cs, h1, h2, h3⟩ := h
  exact ⟨cs, h1.far hp u, h2, h3⟩
theorem has_at {b : Bk} (hv : VBk b) {i : Nat} (hil : i < b.its.length) {B : Nat} {w : World} {A2 : Option Addr} (i2 : IntsAt B w A2 b.its[i].2) : IntsAt B w A2 (intL (hasL b i)) ∧ b.its[i].2.length = (hasL b i).length ∧ ∀ x ∈ hasL b i, x < b.p.toNat := by
  have hpr : hasL b i = natL b.its[i].2 := by simp [hasL, hil]
  have hin : intL (hasL b i) = b.its[i].2 := by rw [hpr]; exact int_nat fun x hx => (isS_mem (hv.parts i hil).2.2 x hx).1
  have hlen : b.its[i].2.length = (hasL b i).length := by rw [hpr, natL_length]
  exact ⟨by rw [hin]; exact i2, hlen, hasL_lt hv hil⟩

set_option maxRecDepth 100000 in
set_option maxHeartbeats 4000000 in
theorem base_ref (AI AR : Option Addr) (cI cR B : Nat) (b : Bk) (item : Nat) (w : World) (hB : B ≤ w.heap.size) (h : ItsAt B w AI b.its) (hs : Short b) (hv : VBk b) (hi : item < b.its.length) :
    Calls Tryd.prog 74 #[.agg #[.int .i64 b.p, .slice AI b.its.length cI, .slice AR b.rus.length cR], .int .i64 item] w fun e w' => e = .returned (.slice (some ⟨w.heap.size + 1, 0, none⟩) b.p.toNat b.p.toNat) ∧ BB (w.heap.size + 1) b.p.toNat (bsS b item) w' ∧ Below w.heap.size w w' := by
  obtain ⟨W0, hW0⟩ : ∃ W0, W0 = w.alloc (.cells #[.int .i64 b.p, .slice AI b.its.length cI, .slice AR b.rus.length cR] 25) := ⟨_, rfl⟩
  have hw0 : Below w.heap.size w W0 := by rw [hW0]; exact balloc (Below.refl _ _) _
  have hb0 : Blk W0 w.heap.size 25 #[.int .i64 b.p, .slice AI b.its.length cI, .slice AR b.rus.length cR] := by rw [hW0]; exact Blk.new w 25 _
  have hsz : W0.heap.size = w.heap.size + 1 := by rw [hW0]; simp only [World.size_alloc]
  have ni := hv.ni
  have hp1 := hv.p1
  have hp0 := hv.p0
  obtain ⟨cs, hs1, hz, mk0⟩ := make_bools b.p.toNat (by omega)
  rw [Int.toNat_of_nonneg hp0] at mk0
  have H := Lib.hid (h.below (Below.refl _ _) hB)
  have hbm : BB (w.heap.size + 1) b.p.toNat 0 (W0.alloc (.cells cs 4)) := by rw [← hsz]; exact BB.made W0 hs1 hz
  have HB0 := Lib.hid hbm
  have hw1 := hw0.alloc hw0.size (.cells cs 4)
  have Hw := Lib.hid hw1
  have hk1 := hb0.alloc (.cells cs 4)
  have HK := Lib.hid hk1
  have x0 := hb0.cell 0
  obtain ⟨z0, z1, z2, _⟩ := blk3 hk1
  have hg1 : (W0.alloc (.cells cs 4)).heap.size = w.heap.size + 1 + 1 := by simp only [World.size_alloc, hsz]
  have cin0 := inside_ref AI AR cI cR _ b item (W0.alloc (.cells cs 4)) (Nat.le_refl _) ((h.below (Below.refl _ _) hB).below hw1 hw1.size) hv hi
  rw [hg1] at cin0
  have cin := Lib.hid cin0
  clear cin0
  have Hall := Lib.hid (bsN_all hv hi)
  have Hlt := Lib.hid (bsN_lt hv (cnS b item))
  have Hsu := Lib.hid (bsN_succ b (cnS b item))
  have Hh := Lib.hid (fun i (hil : i < b.its.length) A2 (i2 : IntsAt w.heap.size w A2 b.its[i].2) => has_at hv hil i2)
  have Hl := Lib.hid hs.2.2.1
  have H0 := Lib.hid (show bsN b (cnS b item) 0 = 0 from rfl)
  generalize bsS b item = S at Hall ⊢
  generalize bsN b (cnS b item) = N at Hall Hlt Hsu H0
  generalize cnS b item = C at cin Hsu
  clear h hw0 hb0 hbm hs1 hz hv hB hsz hw1 hk1 hs hi
  subst hW0
  go_enter Tryd.func74, Tryd.ntmps74
  go_wp2_with (go_at_call 71; refine cin.out.mono ?_; rintro e w1 ⟨rfl, hbin, hd1⟩)
  have HI := Lib.hid hbin
  have HBo := Lib.hid (HB0.out.below hd1 (Nat.lt_succ_self _))
  have HKo := Lib.hid (HK.out.below hd1 (Nat.lt_succ_of_lt (Nat.lt_succ_self _)))
  have Hbo := Lib.hid (Hw.out.trans (hd1.mono (show w.heap.size ≤ w.heap.size + 1 + 1 by omega)))
  clear hbin hd1 HB0 HK Hw x0 z0 z1 z2 hg1
  go_loopw [7] (fun s7 wr => ∃ i : Nat, i ≤ b.its.length ∧ s7 = .int .i64 i ∧ Aside (BB (w.heap.size + 1) b.p.toNat (N i) wr) ∧ Aside (BB (w.heap.size + 1 + 1 + 1) b.its.length C wr) ∧ Below w.heap.size w wr ∧ Aside (Blk wr w.heap.size 25 #[.int .i64 b.p, .slice AI b.its.length cI, .slice AR b.rus.length cR])) (fun s7 _ => b.its.length - (intOf s7).toNat)
  case atStart => exact ⟨0, Nat.zero_le _, rfl, by rw [H0.out]; exact HBo.out, HI.out, Hbo.out, HKo.out⟩
  case round =>
    clear HI HBo HKo Hbo
    obtain ⟨i, hik, rfl, hbb, hbi, hb, hblk⟩ := hrel
    by_cases hil : i < b.its.length
    · obtain ⟨bb, off, A1, c1, A2, c2, rfl, hbB, _, e1, _, i2⟩ := H.out i hil
      obtain ⟨i2', hlen, hpl⟩ := Hh.out i hil A2 i2
      have hl40 := (Hl.out b.its[i] (List.getElem_mem hil)).2
      have HBB := Lib.hid hbb.out
      have HBI := Lib.hid hbi.out
      have HBK := Lib.hid hblk.out
      have Hb := Lib.hid hb
      have Hs := Lib.hid (Hsu.out i)
      have Hli := Lib.hid (Hlt.out i (by omega))
      rw [hlen] at e1 hl40
      clear hbb hbi hblk hb i2 hlen
      generalize hasL b i = L at i2' e1 hpl Hs hl40
      generalize N i = m at HBB Hs Hli
      obtain ⟨W1, hW1⟩ : ∃ W1, W1 = wr := ⟨_, rfl⟩
      subst hW1
      go_wp2_with fail
      go_loopw [8] (fun s8 wy => ∃ j : Nat, j ≤ L.length ∧ s8 = .int .i64 j ∧ Aside (C.testBit i = false → j = 0) ∧ Aside (BB (w.heap.size + 1) b.p.toNat (m ||| mkTo L j) wy) ∧ Aside (BB (w.heap.size + 1 + 1 + 1) b.its.length C wy) ∧ Below w.heap.size w wy ∧ Aside (Blk wy w.heap.size 25 #[.int .i64 b.p, .slice (some ⟨bb, off, none⟩) b.its.length cI, .slice AR b.rus.length cR])) (fun s8 _ => L.length - (intOf s8).toNat)
      case atStart => exact ⟨0, Nat.zero_le _, rfl, fun _ => rfl, by rw [mkTo_zero, Nat.or_zero]; exact HBB.out, HBI.out, Hb.out, HBK.out⟩
      case round =>
        obtain ⟨j, hj, rfl, hz, hbb, hbi, hb, hblk⟩ := hrel
        have z1 := hblk.out.cell 1
        have d1 := (hb.cell (p := ⟨bb, off + i * 2 + 1, none⟩) hbB).trans e1
        have b0 := hbi.out.cell hil
        have HBy := Lib.hid hbb.out
        have HIy := Lib.hid hbi.out
        have HKy := Lib.hid hblk.out
        have Hby := Lib.hid hb
        have Hz := Lib.hid hz.out
        clear hz hbb hbi hblk hb Hb HBB HBI HBK
        by_cases hjl : j < L.length
        · cases hbit : C.testBit i with
          | false =>
            have hj0 := Hz.out hbit
            subst hj0
            rw [hbit] at b0 Hs
            rw [mkTo_zero, Nat.or_zero] at HBy
            clear hbit Hz
            have jd : decide ((0 : Int) < (L.length : Int)) = true := by simp; omega
            go_wp2_with fail
            go_roundw
            case rel => exact ⟨i + 1, by omega, by go_num, by rw [Hs.out]; exact HBy.out, HIy.out, Hby.out, HKy.out⟩
            case measure => simp [intOf]; omega
          | true =>
            rw [hbit] at b0
            obtain ⟨b3, o3, rfl, hb3, c3⟩ := i2'.at (k := j) (by simp [intL]; omega)
            have e3 : (intL L)[j]'(by simp [intL]; omega) = ((L[j] : Nat) : Int) := by simp [intL]
            rw [e3] at c3
            have c3' := (Hby.out.cell (p := ⟨b3, o3 + j, none⟩) hb3).trans c3
            have hq := hpl L[j] (List.getElem_mem hjl)
            have hqm : ((L[j] : Nat) : Int) < max b.p 0 := by omega
            have y0 := HBy.out.cell hq
            have y1 := HBy.out.frozen L[j]
            have Hs2 := Lib.hid (mkTo_succ hjl)
            have hjd : decide ((j : Int) < (L.length : Int)) = true := by simp; omega
            clear c3 e3
            generalize L[j] = q at c3' hq hqm y0 y1 Hs2
            have HBp := Lib.hid (HBy.out.put q)
            rw [Nat.or_assoc] at HBp
            go_wp2_with fail
            go_roundw
            case rel => exact ⟨j + 1, by omega, by go_num, fun h => absurd h (by decide), by rw [Hs2.out]; exact HBp.out, HIy.out.far (show w.heap.size + 1 + 1 + 1 ≠ w.heap.size + 1 by omega) _, below_put Hby.out (Nat.le_succ _) _ _, HKy.out.far (show w.heap.size ≠ w.heap.size + 1 by omega) _⟩
            case measure => simp [intOf]; omega
        · obtain rfl : j = L.length := by omega
          have Ha := Lib.hid (mkTo_all L)
          have hjd : decide ((L.length : Int) < (L.length : Int)) = false := by simp
          clear b0
          go_wp2_with fail
          go_roundw
          case rel =>
            refine ⟨i + 1, by omega, by go_num, ?_, HIy.out, Hby.out, HKy.out⟩
            have hb9 : BB (w.heap.size + 1) b.p.toNat (m ||| mkTo L L.length) _ := HBy.out
            rw [Ha.out] at hb9
            rw [Hs.out]
            cases hbit : C.testBit i with
            | true => exact (show BB (w.heap.size + 1) b.p.toNat (if true = true then m ||| mk L else m) _ by simpa using hb9)
            | false =>
              have h0 := Hz.out hbit
              have hl0 : mk L = 0 := by rw [← Ha.out, h0, mkTo_zero]
              rw [hl0, Nat.or_zero] at hb9
              exact (show BB (w.heap.size + 1) b.p.toNat (if false = true then m ||| mk L else m) _ by simpa using hb9)
          case measure => simp [intOf]; omega
    · obtain rfl : i = b.its.length := by omega
      have HBB := Lib.hid hbb.out
      rw [Hall.out] at HBB
      clear hbb hbi hblk
      go_wp2_with fail
      go_ret
      exact ⟨by rfl, HBB.out, hb⟩
end Go.Proofs.YtgoojcjfhghmgaaDoor
