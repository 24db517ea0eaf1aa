/- The bound of potentials, of the program. -/
import Derived.Test.YtmodbpglopfghaaVanL
import Derived.Test.YtmodbpglopfghaaOrd
set_option linter.unusedSimpArgs false
set_option linter.unusedVariables false
namespace Go.Proofs.Ytmodbpglopfghaa
open Go.RowKit

theorem upto_frm (n : Nat) : intL (frm 1 n) = upto n := by
  unfold intL frm upto
  apply List.ext_getElem
  · simp
  · intro i h1 h2
    simp
    omega
theorem sum_take_succ {p : List Int} {k : Nat} (h : k < p.length) : (p.take (k + 1)).sum = (p.take k).sum + p[k] := by
  rw [List.take_succ_eq_append_getElem h, List.sum_append]; simp
theorem sum_bd : ∀ (p : List Int), (∀ x ∈ p, -1000 ≤ x ∧ x ≤ 1000) → -1000 * (p.length : Int) ≤ p.sum ∧ p.sum ≤ 1000 * (p.length : Int)
  | [], _ => by simp
  | x :: p, h => by
    have := sum_bd p fun y hy => h y (by simp [hy])
    have := h x (by simp)
    rw [List.sum_cons, List.length_cons]
    omega
theorem rowL_drop (f : Nat → Nat → Int) (i n : Nat) : (rowL f i n).drop 1 = (frm 1 n).map (f i) := by
  unfold rowL frm
  rw [← List.map_drop]
  congr 1
  apply List.ext_getElem
  · simp
  · intro k h1 h2
    simp

theorem cg_bd {n : Nat} {f : Nat → Nat → Int} {p : List Int} (hf : ∀ i j, i < n → j < n → 0 ≤ f i j ∧ f i j ≤ 1000) (hp : ∀ x ∈ p, -1000 ≤ x ∧ x ≤ 1000) (hl : p.length = n) {i k : Nat} (hi : i < n) (hk : k < n) : -2000 ≤ cg f p i k ∧ cg f p i k ≤ 3000 := by
  have h1 := hf i k hi hk
  have h2 := hp p[i] (List.getElem_mem (by omega))
  have h3 := hp p[k] (List.getElem_mem (by omega))
  have : cg f p i k = f i k + p[i] + p[k] := by simp [cg, show i < p.length by omega, show k < p.length by omega]
  omega

set_option maxRecDepth 100000 in
set_option maxHeartbeats 4000000 in
theorem bound_any (b off n c c' B : Nat) (f : Nat → Nat → Int) (A' : Option Addr) (p : List Int) (w : World) (hB : B ≤ w.heap.size) (h : WaAt B w b off n f) (hf : ∀ i j, i < n → j < n → 0 ≤ f i j ∧ f i j ≤ 1000)
    (hI : IntsAt B w A' p) (hp : ∀ x ∈ p, -1000 ≤ x ∧ x ≤ 1000) (hl : p.length = n) (hn3 : 3 ≤ n) (hn7 : n ≤ 7) :
    Calls Try.prog 59 #[.slice (some ⟨b, off, none⟩) n c, .slice A' n c'] w fun e w' => ∃ z, e = .returned (.int .i64 z) ∧ BdIs n f p z ∧ -60000 ≤ z ∧ z ≤ 60000 ∧ Below w.heap.size w w' := by
  obtain ⟨b1, o1, rfl, hb1, hb2⟩ := hI.at (k := 0) (by omega)
  clear hb2
  obtain ⟨cs, hcs, hcz, hmk⟩ := make_rows n (by omega)
  obtain ⟨j0, hj, hy0, hy1, hy2⟩ := info_parts info3
  have H := Lib.hid (h.below (Below.refl _ _) hB)
  have HP := Lib.hid (show IntsAt w.heap.size w (some ⟨b1, o1, none⟩) p from hI.below (Below.refl _ _) hB)
  have Hp := Lib.hid hp
  have Hf := Lib.hid hf
  have Hl := Lib.hid hl
  have HB0 := Lib.hid (Bld.made (f := cg f p) w hcs hcz)
  have Hw0 := Lib.hid ((Below.refl w.heap.size w).alloc (Nat.le_refl _) (.cells cs 28))
  clear h hI hp hf hl hcs hcz hB
  go_enter Try.func59, Try.ntmps59
  go_wp2_with fail
  go_loopw [6, 17] (fun vs vi wr => ∃ i : Nat, i ≤ n ∧ vi = .int .i64 i ∧ vs = .int .i64 (p.take i).sum ∧ Bld w.heap.size n (cg f p) i (.slice none 0 0) wr ∧ Below w.heap.size w wr) (fun _ vi _ => n - (intOf vi).toNat)
  case atStart => exact ⟨0, Nat.zero_le _, rfl, rfl, HB0.out, Hw0.out⟩
  case round =>
    obtain ⟨i, hi, rfl, rfl, hbd, hbr⟩ := hrel
    by_cases hilt : i < n
    · obtain ⟨b2, o2, c2, hb2, e1w, f1w⟩ := H.out.2 i hilt
      have e1 := (hbr.cell (p := ⟨b, off + i, none⟩) H.out.1).trans e1w
      have HF1 := Lib.hid f1w
      have HBd := Lib.hid hbd
      have HBr := Lib.hid hbr
      have hiI : (i : Int) < (n : Int) := by omega
      have hi0 : (0 : Int) ≤ (i : Int) := by omega
      clear hbd hbr f1w e1w
      go_wp2_with fail
      go_loopw [24] (fun vj wr => ∃ (j : Nat) (cur : Value), j ≤ n ∧ vj = .int .i64 j ∧ wr.ownsRow (w.heap.size + 1) 3 1 cur j ((rowL (cg f p) i j).map (Value.int .i64)) ∧ Bld w.heap.size n (cg f p) i cur wr ∧ Below w.heap.size w wr) (fun vj _ => n - (intOf vj).toNat)
      case atStart => exact ⟨0, _, Nat.zero_le _, rfl, World.ownsRow_nil _ _ _ _, HBd.out, HBr.out⟩
      case round =>
        clear HBd
        obtain ⟨j, cur, hj2, rfl, hown, hbd, hbr2⟩ := hrel
        by_cases hjlt : j < n
        · obtain ⟨A3, c3, rfl⟩ := own_form hown
          have hip : i < p.length := by rw [Hl.out]; exact hilt
          have hjp : j < p.length := by rw [Hl.out]; exact hjlt
          have y0 := hbd.cell hilt
          have y1 := ((HP.out.below hbr2 (Nat.le_refl _)).cells hip).2
          have y2 := ((HP.out.below hbr2 (Nat.le_refl _)).cells hjp).2
          have y3 := (hbr2.cell (p := ⟨b2, o2 + j, none⟩) hb2).trans (HF1.out j hjlt)
          have hcg : cg f p i j = f i j + p[i] + p[j] := by simp [cg, hip, hjp]
          have hsu := rowL_succ (cg f p) i j
          rw [hcg] at hsu
          have HSu := Lib.hid hsu
          have hpi := Hp.out _ (List.getElem_mem hip)
          have hpj := Hp.out _ (List.getElem_mem hjp)
          have hd := Hf.out i j hilt hjlt
          have hne := hbd.ne hown
          have hsz := hbd.lt
          generalize hpiE : p[i] = pi at y1 hpi HSu
          generalize hpjE : p[j] = pj at y2 hpj HSu
          generalize f i j = d at y3 hd HSu
          have hw1 : IntKind.i64.wrap (d + pi) = d + pi := IntWalk.i64_in _ (by omega)
          have hw2 : IntKind.i64.wrap (d + pi + pj) = d + pi + pj := IntWalk.i64_in _ (by omega)
          have hjI : (j : Int) < (n : Int) := by omega
          have hj0 : (0 : Int) ≤ (j : Int) := by omega
          have hb1w : b1 < w.heap.size := (HP.out.cells hip).1
          have yw1 := (HP.out.cells hip).2
          have yw2 := (HP.out.cells hjp).2
          rw [hpiE] at yw1
          rw [hpjE] at yw2
          clear hcg hsu hpiE hpjE
          go_wp2_with fail
          have hS : (World.drew wr).cell? ⟨w.heap.size, i, none⟩ = some (.slice A3 j c3) ∧ (World.drew wr).cell? ⟨b1, o1 + i, none⟩ = some (.int .i64 pi) ∧ (World.drew wr).cell? ⟨b1, o1 + j, none⟩ = some (.int .i64 pj) := ⟨y0, y1, y2⟩
          refine wp_region_E (S := fun W => W.cell? ⟨w.heap.size, i, none⟩ = some (.slice A3 j c3) ∧ W.cell? ⟨b1, o1 + i, none⟩ = some (.int .i64 pi) ∧ W.cell? ⟨b1, o1 + j, none⟩ = some (.int .i64 pj)) (E := fun j => [20].contains j) (by kernel_rfl) ?_
          refine anyE_tx 0 29 [20] [20] (oi := ?oi1) (v := ?v1) ?hi1 ?hd1 (by kernel_rfl) (by kernel_rfl) (by kernel_rfl) (by kernel_rfl) ?hQ1 ?hy1 hS ?rest1
          case hi1 => simp only [List.getElem?_toArray, List.getElem?_cons_zero, List.getElem?_cons_succ]; rfl
          case hd1 => rfl
          case hQ1 => exact fun _ _ _ h => h
          case hy1 => (refine Or.inl ⟨by rfl, ?_⟩; intro w hSw; (try dsimp only at hSw); go_simp; try with_reducible rfl)
          simp only [List.setIfInBounds_toArray, List.set_cons_zero, List.set_cons_succ]
          refine anyE_tx 1 30 [20] [20] (oi := ?oi2) (v := ?v2) ?hi2 ?hd2 (by kernel_rfl) (by kernel_rfl) (by kernel_rfl) (by kernel_rfl) ?hQ2 ?hy2 hS ?rest2
          case hi2 => simp only [List.getElem?_toArray, List.getElem?_cons_zero, List.getElem?_cons_succ]; rfl
          case hd2 => rfl
          case hQ2 => exact fun _ _ _ h => h
          case hy2 => (refine Or.inl ⟨by rfl, ?_⟩; intro w hSw; (try dsimp only at hSw); go_simp; try with_reducible rfl)
          simp only [List.setIfInBounds_toArray, List.set_cons_zero, List.set_cons_succ]
          refine anyE_tx 2 31 [20] [20] (oi := ?oi3) (v := ?v3) ?hi3 ?hd3 (by kernel_rfl) (by kernel_rfl) (by kernel_rfl) (by kernel_rfl) ?hQ3 ?hy3 hS ?rest3
          case hi3 => simp only [List.getElem?_toArray, List.getElem?_cons_zero, List.getElem?_cons_succ]; rfl
          case hd3 => rfl
          case hQ3 => exact fun _ _ _ h => h
          case hy3 => (refine Or.inl ⟨by rfl, ?_⟩; intro w hSw; (try dsimp only at hSw); go_simp; try with_reducible rfl)
          simp only [List.setIfInBounds_toArray, List.set_cons_zero, List.set_cons_succ]
          refine anyE_tx 3 32 [20] [20] (oi := ?oi4) (v := ?v4) ?hi4 ?hd4 (by kernel_rfl) (by kernel_rfl) (by kernel_rfl) (by kernel_rfl) ?hQ4 ?hy4 hS ?rest4
          case hi4 => simp only [List.getElem?_toArray, List.getElem?_cons_zero, List.getElem?_cons_succ]; rfl
          case hd4 => rfl
          case hQ4 => exact fun _ _ _ h => h
          case hy4 => (refine Or.inl ⟨by rfl, ?_⟩; intro w hSw; (try dsimp only at hSw); go_simp; try with_reducible rfl)
          simp only [List.setIfInBounds_toArray, List.set_cons_zero, List.set_cons_succ]
          refine anyE_tx 4 33 [20] [20] (oi := ?oi5) (v := ?v5) ?hi5 ?hd5 (by kernel_rfl) (by kernel_rfl) (by kernel_rfl) (by kernel_rfl) ?hQ5 ?hy5 hS ?rest5
          case hi5 => simp only [List.getElem?_toArray, List.getElem?_cons_zero, List.getElem?_cons_succ]; rfl
          case hd5 => rfl
          case hQ5 => exact fun _ _ _ h => h
          case hy5 => (refine Or.inl ⟨by rfl, ?_⟩; intro w hSw; (try dsimp only at hSw); go_simp; try with_reducible rfl)
          simp only [List.setIfInBounds_toArray, List.set_cons_zero, List.set_cons_succ]
          refine anyE_tx 5 34 [20] [20] (oi := ?oi6) (v := ?v6) ?hi6 ?hd6 (by kernel_rfl) (by kernel_rfl) (by kernel_rfl) (by kernel_rfl) ?hQ6 ?hy6 hS ?rest6
          case hi6 => simp only [List.getElem?_toArray, List.getElem?_cons_zero, List.getElem?_cons_succ]; rfl
          case hd6 => rfl
          case hQ6 => exact fun _ _ _ h => h
          case hy6 => (refine Or.inl ⟨by rfl, ?_⟩; intro w hSw; (try dsimp only at hSw); go_simp; try with_reducible rfl)
          simp only [List.setIfInBounds_toArray, List.set_cons_zero, List.set_cons_succ]
          refine anyE_tx 6 35 [20] [20] (oi := ?oi7) (v := ?v7) ?hi7 ?hd7 (by kernel_rfl) (by kernel_rfl) (by kernel_rfl) (by kernel_rfl) ?hQ7 ?hy7 hS ?rest7
          case hi7 => simp only [List.getElem?_toArray, List.getElem?_cons_zero, List.getElem?_cons_succ]; rfl
          case hd7 => rfl
          case hQ7 => exact fun _ _ _ h => h
          case hy7 => (refine Or.inl ⟨by rfl, ?_⟩; intro w hSw; (try dsimp only at hSw); go_simp; try with_reducible rfl)
          simp only [List.setIfInBounds_toArray, List.set_cons_zero, List.set_cons_succ]
          refine anyE_tx 7 36 [20] [20] (oi := ?oi8) (v := ?v8) ?hi8 ?hd8 (by kernel_rfl) (by kernel_rfl) (by kernel_rfl) (by kernel_rfl) ?hQ8 ?hy8 hS ?rest8
          case hi8 => simp only [List.getElem?_toArray, List.getElem?_cons_zero, List.getElem?_cons_succ]; rfl
          case hd8 => rfl
          case hQ8 => exact fun _ _ _ h => h
          case hy8 => (refine Or.inl ⟨by rfl, ?_⟩; intro w hSw; (try dsimp only at hSw); go_simp; try with_reducible rfl)
          simp only [List.setIfInBounds_toArray, List.set_cons_zero, List.set_cons_succ]
          refine anyE_tx 8 37 [20] [20] (oi := ?oi9) (v := ?v9) ?hi9 ?hd9 (by kernel_rfl) (by kernel_rfl) (by kernel_rfl) (by kernel_rfl) ?hQ9 ?hy9 hS ?rest9
          case hi9 => simp only [List.getElem?_toArray, List.getElem?_cons_zero, List.getElem?_cons_succ]; rfl
          case hd9 => rfl
          case hQ9 => exact fun _ _ _ h => h
          case hy9 => (refine Or.inl ⟨by rfl, ?_⟩; intro w hSw; (try dsimp only at hSw); go_simp; try with_reducible rfl)
          simp only [List.setIfInBounds_toArray, List.set_cons_zero, List.set_cons_succ]
          refine anyE_tx 9 38 [20] [20] (oi := ?oi10) (v := ?v10) ?hi10 ?hd10 (by kernel_rfl) (by kernel_rfl) (by kernel_rfl) (by kernel_rfl) ?hQ10 ?hy10 hS ?rest10
          case hi10 => simp only [List.getElem?_toArray, List.getElem?_cons_zero, List.getElem?_cons_succ]; rfl
          case hd10 => rfl
          case hQ10 => exact fun _ _ _ h => h
          case hy10 => (refine Or.inl ⟨by rfl, ?_⟩; intro w hSw; (try dsimp only at hSw); go_simp; try with_reducible rfl)
          simp only [List.setIfInBounds_toArray, List.set_cons_zero, List.set_cons_succ]
          refine anyE_tx 10 39 [20] [20] (oi := ?oi11) (v := ?v11) ?hi11 ?hd11 (by kernel_rfl) (by kernel_rfl) (by kernel_rfl) (by kernel_rfl) ?hQ11 ?hy11 hS ?rest11
          case hi11 => simp only [List.getElem?_toArray, List.getElem?_cons_zero, List.getElem?_cons_succ]; rfl
          case hd11 => rfl
          case hQ11 => exact fun _ _ _ h => h
          case hy11 => (refine Or.inl ⟨by rfl, ?_⟩; intro w hSw; (try dsimp only at hSw); go_simp; try with_reducible rfl)
          simp only [List.setIfInBounds_toArray, List.set_cons_zero, List.set_cons_succ]
          refine anyE_tx 11 40 [20] [20] (oi := ?oi12) (v := ?v12) ?hi12 ?hd12 (by kernel_rfl) (by kernel_rfl) (by kernel_rfl) (by kernel_rfl) ?hQ12 ?hy12 hS ?rest12
          case hi12 => simp only [List.getElem?_toArray, List.getElem?_cons_zero, List.getElem?_cons_succ]; rfl
          case hd12 => rfl
          case hQ12 => exact fun _ _ _ h => h
          case hy12 => (refine Or.inl ⟨by rfl, ?_⟩; intro w hSw; (try dsimp only at hSw); go_simp; try with_reducible rfl)
          simp only [List.setIfInBounds_toArray, List.set_cons_zero, List.set_cons_succ]
          refine anyE_tx 12 41 [20] [20] (oi := ?oi13) (v := ?v13) ?hi13 ?hd13 (by kernel_rfl) (by kernel_rfl) (by kernel_rfl) (by kernel_rfl) ?hQ13 ?hy13 hS ?rest13
          case hi13 => simp only [List.getElem?_toArray, List.getElem?_cons_zero, List.getElem?_cons_succ]; rfl
          case hd13 => rfl
          case hQ13 => exact fun _ _ _ h => h
          case hy13 => (refine Or.inl ⟨by rfl, ?_⟩; intro w hSw; (try dsimp only at hSw); go_simp; try with_reducible rfl)
          simp only [List.setIfInBounds_toArray, List.set_cons_zero, List.set_cons_succ]
          refine anyE_tx 13 42 [20] [20] (oi := ?oi14) (v := ?v14) ?hi14 ?hd14 (by kernel_rfl) (by kernel_rfl) (by kernel_rfl) (by kernel_rfl) ?hQ14 ?hy14 hS ?rest14
          case hi14 => simp only [List.getElem?_toArray, List.getElem?_cons_zero, List.getElem?_cons_succ]; rfl
          case hd14 => rfl
          case hQ14 => exact fun _ _ _ h => h
          case hy14 => (refine Or.inl ⟨by rfl, ?_⟩; intro w hSw; (try dsimp only at hSw); go_simp; try with_reducible rfl)
          simp only [List.setIfInBounds_toArray, List.set_cons_zero, List.set_cons_succ]
          refine anyE_tx 14 43 [20] [20] (oi := ?oi15) (v := ?v15) ?hi15 ?hd15 (by kernel_rfl) (by kernel_rfl) (by kernel_rfl) (by kernel_rfl) ?hQ15 ?hy15 hS ?rest15
          case hi15 => simp only [List.getElem?_toArray, List.getElem?_cons_zero, List.getElem?_cons_succ]; rfl
          case hd15 => rfl
          case hQ15 => exact fun _ _ _ h => h
          case hy15 => (refine Or.inl ⟨by rfl, ?_⟩; intro w hSw; (try dsimp only at hSw); go_simp; try with_reducible rfl)
          simp only [List.setIfInBounds_toArray, List.set_cons_zero, List.set_cons_succ]
          refine anyE_tx 15 44 [20] [20] (oi := ?oi16) (v := ?v16) ?hi16 ?hd16 (by kernel_rfl) (by kernel_rfl) (by kernel_rfl) (by kernel_rfl) ?hQ16 ?hy16 hS ?rest16
          case hi16 => simp only [List.getElem?_toArray, List.getElem?_cons_zero, List.getElem?_cons_succ]; rfl
          case hd16 => rfl
          case hQ16 => exact fun _ _ _ h => h
          case hy16 => (refine Or.inl ⟨by rfl, ?_⟩; intro w hSw; (try dsimp only at hSw); go_simp; try with_reducible rfl)
          simp only [List.setIfInBounds_toArray, List.set_cons_zero, List.set_cons_succ]
          refine anyE_tx 16 45 [20] [20] (oi := ?oi17) (v := ?v17) ?hi17 ?hd17 (by kernel_rfl) (by kernel_rfl) (by kernel_rfl) (by kernel_rfl) ?hQ17 ?hy17 hS ?rest17
          case hi17 => simp only [List.getElem?_toArray, List.getElem?_cons_zero, List.getElem?_cons_succ]; rfl
          case hd17 => rfl
          case hQ17 => exact fun _ _ _ h => h
          case hy17 => (refine Or.inl ⟨by rfl, ?_⟩; intro w hSw; (try dsimp only at hSw); go_simp; try with_reducible rfl)
          simp only [List.setIfInBounds_toArray, List.set_cons_zero, List.set_cons_succ]
          refine anyE_one (i := 17) (o := ?oi18) (by kernel_rfl) ?hi18 (fun K hK => ?step18)
          case hi18 => simp only [List.getElem?_toArray, List.getElem?_cons_zero, List.getElem?_cons_succ]; rfl
          go_simp
          have HBd2 := Lib.hid (show Bld w.heap.size n (cg f p) i (.slice A3 j c3) (wr.alloc (.cells #[.int .i64 (d + pi + pj)] 3)).drew from (hbd.alloc _).drewN 1)
          have HO2 := Lib.hid (show (wr.alloc (.cells #[.int .i64 (d + pi + pj)] 3)).drew.ownsRow (w.heap.size + 1) 3 1 (.slice A3 j c3) j ((rowL (cg f p) i j).map (Value.int .i64)) from hown.alloc _)
          have HBr3 := Lib.hid (show Below w.heap.size w (wr.alloc (.cells #[.int .i64 (d + pi + pj)] 3)).drew from below_drewN (hbr2.alloc hbr2.size _) 1)
          have x1 : (wr.alloc (.cells #[.int .i64 (d + pi + pj)] 3)).drew.cell? ⟨wr.heap.size, 0, none⟩ = some (.int .i64 (d + pi + pj)) := cell_one_new _ _ _ 0 _ rfl
          have hs3 : w.heap.size < (wr.alloc (.cells #[.int .i64 (d + pi + pj)] 3)).drew.heap.size := HBd2.out.lt
          generalize (wr.alloc (.cells #[.int .i64 (d + pi + pj)] 3)).drew = W2 at HBd2 HO2 HBr3 x1 hs3 ⊢
          have hS2 : (World.cell? W2) ⟨w.heap.size, i, none⟩ = some (.slice A3 j c3) ∧ (World.cell? W2) ⟨b1, o1 + i, none⟩ = some (.int .i64 pi) ∧ (World.cell? W2) ⟨b1, o1 + j, none⟩ = some (.int .i64 pj) := ⟨HBd2.out.cell hilt, (HBr3.out.cell (p := ⟨b1, o1 + i, none⟩) hb1w).trans yw1, (HBr3.out.cell (p := ⟨b1, o1 + j, none⟩) hb1w).trans yw2⟩
          refine hK.out _ _ (fun _ => hS2) ?_
          clear hK K hS hbd hown hbr2
          try simp only [Act.put, List.setIfInBounds_toArray, List.set_cons_zero, List.set_cons_succ]
          refine anyE_one (i := 18) (o := ?oiA) (by kernel_rfl) ?hiA (fun K hK => ?stepA)
          case hiA => simp only [List.getElem?_toArray, List.getElem?_cons_zero, List.getElem?_cons_succ]; rfl
          refine step_app2 _ (by rfl) (.tmp 34) (.tmp 46) 28 (by rfl) (w.heap.size + 1) 3 j0 _ 1 8 Try.underlying28 hj hy0 hy1 hy2 rfl (by decide) (.slice A3 j c3) j _ (by rfl) HO2.out ⟨wr.heap.size, 0, none⟩ 1 1 [.int .i64 (d + pi + pj)] (by rfl) (by rfl) (fun q u hq => by
            cases q with
            | zero => rw [Addr.add_lit, ← hq]; exact x1
            | succ q => simp at hq) (by simp [Value.oneCell']) (by omega) (by decide) (by omega) (j + 1) rfl ((rowL (cg f p) i (j + 1)).map (Value.int .i64)) HSu.out.symm ?_
          intro A4 c4 w4 hown4 hg4 hlow4 hat4
          have hbd4 := HBd2.out.keep hg4 (.inr rfl) hne
          have hbr4 := HBr3.out.grown hg4 HBr3.out.size (fun k hk => Nat.le_of_succ_le (hlow4 k hk))
          have z0 := hbd4.cell hilt
          have z1 := hbd4.frozen i
          have hS4 : (World.cell? w4) ⟨w.heap.size, i, none⟩ = some (.slice A3 j c3) ∧ (World.cell? w4) ⟨b1, o1 + i, none⟩ = some (.int .i64 pi) ∧ (World.cell? w4) ⟨b1, o1 + j, none⟩ = some (.int .i64 pj) := ⟨z0, (hbr4.cell (p := ⟨b1, o1 + i, none⟩) hb1w).trans yw1, (hbr4.cell (p := ⟨b1, o1 + j, none⟩) hb1w).trans yw2⟩
          have HBd5 := Lib.hid (HBd2.out.step hilt hg4 hne hat4)
          have HBr5 := Lib.hid (below_put hbr4 (Nat.le_refl _) i (.slice A4 (j + 1) c4))
          have HO5 := Lib.hid (((Only.refl w.heap.size w4).put i (.slice A4 (j + 1) c4)).own hown4 (own_ne hown4 (by omega)))
          refine hK.out _ _ (fun _ => hS4) ?_
          clear hK K hS2
          try simp only [Act.put, List.setIfInBounds_toArray, List.set_cons_zero, List.set_cons_succ]
          refine anyE_tx 19 48 [20] [20] (oi := ?oi19) (v := ?v19) ?hi19 ?hd19 (by kernel_rfl) (by kernel_rfl) (by kernel_rfl) (by kernel_rfl) ?hQ19 ?hy19 hS4 ?rest19
          case hi19 => simp only [List.getElem?_toArray, List.getElem?_cons_zero, List.getElem?_cons_succ]; rfl
          case hd19 => rfl
          case hQ19 => exact fun _ _ _ h => h
          case hy19 => (refine Or.inl ⟨by rfl, ?_⟩; intro w hSw; (try dsimp only at hSw); go_simp; try with_reducible rfl)
          simp only [List.setIfInBounds_toArray, List.set_cons_zero, List.set_cons_succ]
          refine anyE_one (i := 20) (o := ?oi20) (by kernel_rfl) ?hi20 (fun K hK => ?step20)
          case hi20 => simp only [List.getElem?_toArray, List.getElem?_cons_zero, List.getElem?_cons_succ]; rfl
          go_simp
          refine hK.out _ _ (fun h => absurd h (by decide)) ?_
          clear hK K hS4
          refine anyE_done (by kernel_rfl) ?_ _
          go_wp2_with fail
          go_roundw
          case rel => exact ⟨j + 1, _, by omega, by go_num, HO5.out, HBd5.out, HBr5.out⟩
          case measure => simp [intOf]; omega
        · obtain rfl : j = n := by omega
          have hip : i < p.length := by rw [Hl.out]; exact hilt
          have y1 := ((HP.out.below hbr2 (Nat.le_refl _)).cells hip).2
          have Hst := Lib.hid (sum_take_succ hip)
          have hsb := sum_bd (p.take i) (fun x hx => Hp.out x (List.mem_of_mem_take hx))
          have hpi := Hp.out _ (List.getElem_mem hip)
          have hlt : (p.take i).length ≤ 7 := by rw [List.length_take]; omega
          have hw1 : IntKind.i64.wrap ((p.take i).sum + p[i]) = (p.take i).sum + p[i] := IntWalk.i64_in _ (by omega)
          have HBd2 := Lib.hid (hbd.next hilt hown)
          have HBr2 := Lib.hid hbr2
          generalize p[i] = pi at y1 hw1 Hst
          clear hown hbd hbr2 hsb hpi hlt
          go_wp2_with fail
          go_roundw
          case rel => exact ⟨i + 1, by omega, by go_num, by rw [Hst.out], HBd2.out, HBr2.out⟩
          case measure => simp [intOf]; omega
    · obtain rfl : i = n := by omega
      obtain ⟨q, cq, e0, hnq, hcm, hq, hrow⟩ := hbd.row (i' := 0) (by omega)
      have hd := hrow.dropD (c := cq) (a := 1) (by rw [rowL_length]; exact hnq)
      rw [rowL_drop] at hd
      have hsum : (p.take i).sum = p.sum := by rw [List.take_of_length_le (by rw [Hl.out]; exact Nat.le_refl _)]
      rw [hsum]
      have HWa := Lib.hid hbd.wa
      have hlen2 : ((frm 1 i).map (cg f p 0)).length = i - 1 := by rw [List.length_map, frm_length]
      have hd' : IntsAt wr.heap.size wr (if cq = 1 then some ⟨q, 0, none⟩ else some ⟨q, 1, none⟩) ((frm 1 i).map (cg f p 0)) := by simpa [Addr.add_lit] using hd
      have hsl : (sortS ((frm 1 i).map (cg f p 0))).length = i - 1 := by rw [sortS_length, hlen2]
      obtain ⟨x0, x1, L, hL⟩ : ∃ x0 x1 L, sortS ((frm 1 i).map (cg f p 0)) = x0 :: x1 :: L := by
        cases hh : sortS ((frm 1 i).map (cg f p 0)) with
        | nil => rw [hh] at hsl; simp at hsl; omega
        | cons x0 r => cases r with
          | nil => rw [hh] at hsl; simp at hsl; omega
          | cons x1 L => exact ⟨x0, x1, L, rfl⟩
      obtain ⟨m, hm, hm2⟩ : ∃ m, (sortS ((frm 1 i).map (cg f p 0))).length = m ∧ 2 ≤ m := ⟨_, rfl, by rw [hsl]; omega⟩
      have HTw := Lib.hid (two_sorted hL)
      have hxb : ∀ x ∈ sortS ((frm 1 i).map (cg f p 0)), -2000 ≤ x ∧ x ≤ 3000 := fun x hx => by
        have hx2 : x ∈ (frm 1 i).map (cg f p 0) := (List.mergeSort_perm _ _).subset hx
        obtain ⟨k, hk, rfl⟩ := List.mem_map.1 hx2
        exact cg_bd Hf.out Hp.out Hl.out (by omega) (mem_frm.1 hk).2
      have hx0 := hxb x0 (by rw [hL]; simp)
      have hx1 := hxb x1 (by rw [hL]; simp)
      have hsb := sum_bd p Hp.out
      rw [Hl.out] at hsb
      rw [if_neg (by omega)] at hd'
      have cv := Lib.hid (fun W => values_any (.slice (some ⟨q, 1, none⟩) (i - 1) (cq - 1)) W (some ⟨q, 1, none⟩) (i - 1) (cq - 1) rfl)
      have cso := Lib.hid (fun W (hW : Below wr.heap.size wr W) (Bs : Nat) (hBs : Bs < W.heap.size) (hc : W.cell? ⟨Bs, 0, none⟩ = some (.slice (some ⟨q, 1, none⟩) (i - 1) (cq - 1))) => by
        have := sorted_any Bs (cq - 1) wr.heap.size (some ⟨q, 1, none⟩) ((frm 1 i).map (cg f p 0)) (by rw [hlen2]; omega) W hBs hW.size (by rw [hlen2]; exact hc) (hd'.below hW (Nat.le_refl _))
        rw [hm, hL] at this
        exact this)
      have hb3 := hbr
      have HBr := Lib.hid hbr
      have h1i : (1 : Int) ≤ (i : Int) := by omega
      have hw1 : IntKind.i64.wrap (2 * p.sum) = 2 * p.sum := IntWalk.i64_in _ (by omega)
      have HF := Lib.hid (fun j k hj hk => cg_bd Hf.out Hp.out Hl.out (i := j) (k := k) hj hk)
      have hsz : w.heap.size < wr.heap.size := hbd.lt
      obtain ⟨wx, rfl⟩ : ∃ wx : World, wx = wr := ⟨_, rfl⟩
      generalize hS : p.sum = S at hw1 hsb
      have HS := Lib.hid hS
      clear hm hbd hbr hrow hd hd' hsl hlen2 hxb hL hsum hS hb3 hilt
      go_wp2_with (first
        | (go_at_call 89; refine (cv.out _).mono ?_; rintro e w1 ⟨rfl, rfl⟩; have hb1' : Below wx.heap.size wx (wx.alloc (.cells #[.slice (some ⟨q, 1, none⟩) (i - 1) (cq - 1)] 28)) := (Below.refl _ _).alloc (Nat.le_refl _) _)
        | (go_at_call 88; refine (cso.out _ hb1' _ (by simp) (by exact cell_one_new _ _ _ 0 _ rfl)).mono ?_; rintro e w2 ⟨v2, rfl, hown2, hd2⟩; obtain ⟨A5, c5, rfl⟩ := own_form hown2))
      obtain ⟨q5, rfl, hq5, _, z0⟩ := own_cell hown2 (k := 0) (u := .int .i64 x0) (by omega) rfl
      obtain ⟨q6, e6, _, _, z1⟩ := own_cell hown2 (k := 1) (u := .int .i64 x1) (by omega) rfl
      injection e6 with e6
      injection e6 with e6
      subst e6
      have hb2 := hb1'.trans (hd2.mono hb1'.size)
      have hb2w := HBr.out.trans (hb2.mono HBr.out.size)
      have HZ := Lib.hid (fun W (hW : Below w2.heap.size w2 W) => show W.cell? ⟨q5, 0, none⟩ = some (.int .i64 x0) ∧ W.cell? ⟨q5, 1, none⟩ = some (.int .i64 x1) ∧ Below w2.heap.size w2 W from ⟨(hW.cell (p := ⟨q5, 0, none⟩) hq5).trans z0, (hW.cell (p := ⟨q5, 1, none⟩) hq5).trans z1, hW⟩)
      have HWa2 := Lib.hid (HWa.out.below hb2 hb2.size)
      have hbm : b < w.heap.size := H.out.1
      have csr := Lib.hid (fun W => stops_any (some ⟨b, off, none⟩) i c W (by omega))
      have ctr : ∀ (A6 : Option Addr) (c6 : Nat) (W : World), Below w2.heap.size w2 W → IntsAt W.heap.size W A6 (upto i) → i - 1 ≤ c6 → c6 ≤ maxLen → Calls Try.prog 54 #[.slice (some ⟨w.heap.size, 0, none⟩) i i, .slice A6 (i - 1) c6] W fun e w' => ∃ z, e = .returned (.int .i64 z) ∧ IsTree (cg f p) (fun x => x ∈ frm 1 i) (i - 1) z ∧ -18000 ≤ z ∧ z ≤ 18000 ∧ Below W.heap.size W w' := fun A6 c6 W hW hI h1 h2 => by
        have := tree_any w.heap.size 0 i i c6 W.heap.size (cg f p) A6 (frm 1 i) W (-2000) 3000 (by omega) (by omega) (by omega) (by omega) (Nat.le_refl _) (HWa2.out.below hW hW.size) hn7 (by rw [upto_frm]; exact hI) List.nodup_range' (fun x hx => (mem_frm.1 hx).2) (by rw [frm_length]; exact h1) h2 (by rw [frm_length]; omega) (fun j k hj hk => HF.out j k (mem_frm.1 hj).2 (mem_frm.1 hk).2)
        rw [frm_length] at this
        exact this
      have CT := Lib.hid ctr
      have hlu := upto_length i
      have hm0 : (0 : Int) < (m : Int) := by omega
      have hm1 : (1 : Int) < (m : Int) := by omega
      have hm00 : 0 < m := by omega
      have tok := Lib.hid (Nat.le_refl 0)
      have HB2w := Lib.hid hb2w
      clear z0 z1 hown2 hd2 ctr hb2 hb2w hb1' cv cso
      go_region_held3 (fun W => W.cell? ⟨q5, 0, none⟩ = some (.int .i64 x0) ∧ W.cell? ⟨q5, 1, none⟩ = some (.int .i64 x1) ∧ Below w2.heap.size w2 W)
        ((refine HZ.out _ ?_; repeat (first | exact Below.refl _ _ | assumption | refine Below.drew ?_)))
        (first
          | (go_at_call 55; have tk := tok; clear tok; refine (csr.out _).mono ?_; rintro e w3 ⟨A6, c6, rfl, hown3, hd3⟩; have tok2 := tk; have hb3 : Below w2.heap.size w2 w3 := Below.trans (by repeat (first | exact Below.refl _ _ | assumption | refine Below.drew ?_)) (hd3.mono (Below.size (w := w2) (B := w2.heap.size) (by repeat (first | exact Below.refl _ _ | assumption | refine Below.drew ?_)))); have HI3 := Lib.hid (IntsAt.of_own (zs := upto i) (by rw [hlu]; exact hown3)); have HC3 := Lib.hid (own_caps hown3); clear hown3 hd3)
          | (go_at_call 54; have tk := tok2; clear tok2; refine (CT.out _ _ _ hb3 HI3.out HC3.out.1 HC3.out.2.1).mono ?_; rintro e w4 ⟨T, rfl, ht, ht0, ht1, hd4⟩; have hb4 : Below w2.heap.size w2 w4 := hb3.trans (hd4.mono hb3.size); have hwA : IntKind.i64.wrap (T + x0) = T + x0 := IntWalk.i64_in _ (by omega); have hwB : IntKind.i64.wrap (T + x0 + x1) = T + x0 + x1 := IntWalk.i64_in _ (by omega); have hwC : IntKind.i64.wrap (T + x0 + x1 - 2 * S) = T + x0 + x1 - 2 * S := IntWalk.i64_in _ (by omega); have HT := Lib.hid ht; clear ht hd4))
      all_goals
        go_wp2_with fail
        go_ret
        exact ⟨_, rfl, ⟨T, x0 + x1, HT.out, HTw.out, by rw [HS.out]; omega⟩, by omega, by omega, HB2w.out.trans (hb4.mono HB2w.out.size)⟩
end Go.Proofs.Ytmodbpglopfghaa
