/- clone f90. Written by mkHb.py. -/
import Derived.Test.YtgoojcjfhghmgaaDoorDisHa
import Derived.Test.YtgoojcjfhghmgaaDoorDisFf
import Derived.Test.YtgoojcjfhghmgaaDoorDisG
set_option linter.unusedSimpArgs false
set_option linter.unusedVariables false
namespace Go.Proofs.YtgoojcjfhghmgaaDoor
open Go Go.RowKit

section
variable {P : Program} {md : Region.Mode} {ops : Array Oper} {Q : Exit → Act → World → Prop} {S : World → Prop}
/-- Number i is taken first; the exempt ones wait for it; its place is written out. -/
theorem anyE_tx (i d : Nat) (xs N : List Nat) {oi : Oper} {v : Value} {n : Nat} {listed : Array Bool} {a : Act} {w : World} (hi : ops[i]? = some oi) (hd : oi.dst = some d)
    (hs : Region.noSelect ops = true) (hf : Region.free md ops listed i = true) (hr : (Region.ready md ops listed).contains i = true) (hx : waitsE md ops listed xs N i = true)
    (hQ : ∀ c a w, Q (.panic c) (a.put oi.dst v) w → Q (.panic c) a w) (hy : YieldsIf P ops S oi v a) (hS : S w)
    (h : anyE P md ops Q S (fun j => xs.contains j) n (listed.setIfInBounds i true) { a with tmps := a.tmps.setIfInBounds d v } w) : anyE P md ops Q S (fun j => xs.contains j) (n + 1) listed a w := by
  refine anyE_take N hi hs hf hr hx hQ hy hS ?_
  rw [hd]; exact h
end
set_option maxRecDepth 100000 in
set_option maxHeartbeats 4000000 in
theorem clone_bk (AI AR : Option Addr) (cI cR B : Nat) (b : Bk) (w : World) (hB : B ≤ w.heap.size) (h : ItsAt B w AI b.its) (h' : RusAt B w AR b.rus) (hs : Short b) :
    Calls Tryd.prog 90 #[.agg #[.int .i64 b.p, .slice AI b.its.length cI, .slice AR b.rus.length cR]] w fun e w' => ∃ AI' AR' cI' cR' ps qs mid, e = .returned (.agg #[.int .i64 b.p, .slice AI' b.its.length cI', .slice AR' b.rus.length cR']) ∧
      ItP w.heap.size (.slice AI' b.its.length cI') w' ps b.its ∧ UpTo mid (.slice AI' b.its.length cI') (flatV ps) ∧ w.heap.size ≤ mid ∧ mid ≤ w'.heap.size ∧ RuP mid (.slice AR' b.rus.length cR') w' qs b.rus ∧ Below w.heap.size w w' := by
  obtain ⟨j0, hj, hy0, hy1, hy2⟩ := info_parts info84
  obtain ⟨i0, hi, hz0, hz1, hz2⟩ := info_parts info42
  have H := Lib.hid (h.below (Below.refl _ _) hB)
  have H' := Lib.hid (h'.below (Below.refl _ _) hB)
  have Hs := Lib.hid hs
  have ni := hs.1
  have nr := hs.2.1
  clear h h' hs hB
  go_enter Tryd.func90, Tryd.ntmps90
  go_wp2_with fail
  generalize hW0 : ((w.alloc (.cells #[.int .i64 b.p, .slice AI b.its.length cI, .slice AR b.rus.length cR] 25)).alloc (.cells #[.int .i64 0, .slice none 0 0, .slice none 0 0] 25)).alloc (.cells #[.int .i64 b.p, .slice none 0 0, .slice none 0 0] 25) = W0
  have HB0 := Lib.hid (show Below w.heap.size w W0 by rw [← hW0]; exact balloc (balloc (balloc (Below.refl _ _) _) _) _)
  have HK0 := Lib.hid (show Blk W0 w.heap.size 25 #[.int .i64 b.p, .slice AI b.its.length cI, .slice AR b.rus.length cR] by rw [← hW0]; exact ((Blk.new _ _ _).alloc _).alloc _)
  have HK1 := Lib.hid (show Blk W0 (w.heap.size + 1) 25 #[.int .i64 0, .slice none 0 0, .slice none 0 0] by rw [← hW0]; exact (blk_new' (by simp)).alloc _)
  have HKG := Lib.hid (show Blk W0 (w.heap.size + 1 + 1) 25 #[.int .i64 b.p, .slice none 0 0, .slice none 0 0] by rw [← hW0]; exact blk_new' (by simp))
  have HG := Lib.hid (show w.heap.size + 1 + 1 < W0.heap.size from HKG.out.lt)
  clear hW0
  obtain ⟨G, hG⟩ : ∃ G, G = w.heap.size + 1 + 1 := ⟨_, rfl⟩
  rw [← hG] at HKG HG ⊢
  have HGe := Lib.hid hG
  have hlo0 : G < W0.heap.size := HG.out
  clear hG
  go_loopw [14] (fun i wr => ∃ (k : Nat) (AIx : Option Addr) (cIx : Nat) (ps : List (Value × Value)), k ≤ b.its.length ∧ i = .int .i64 k ∧ Aside (ItP W0.heap.size (.slice AIx k cIx) wr ps (b.its.take k)) ∧ Aside (Only G W0 wr) ∧ Aside (Blk wr G 25 #[.int .i64 b.p, .slice AIx k cIx, .slice none 0 0])) (fun i _ => b.its.length - (intOf i).toNat)
  case atStart => exact ⟨0, none, 0, [], Nat.zero_le _, rfl, ItP.nil _ _, Only.refl _ _, HKG.out⟩
  case round =>
    obtain ⟨k, AIx, cIx, ps, hk, rfl, hit, hon, hbl⟩ := hrel
    have HIt := Lib.hid hit.out
    have HOn := Lib.hid hon.out
    have HBl := Lib.hid hbl.out
    have hlow : Below w.heap.size w wr := HB0.out.trans (hon.out.below (by rw [HGe.out]; omega) HB0.out.size)
    have HLow := Lib.hid hlow
    have hlo : W0.heap.size ≤ wr.heap.size := hon.out.size
    have hGr : G < wr.heap.size := hbl.out.lt
    clear hit hon hbl
    by_cases hlt : k < b.its.length
    · obtain ⟨bb, off, A1, c1, A2, c2, rfl, hbB, e0, e1, i1, i2⟩ := H.out k hlt
      obtain ⟨m1, m2⟩ := Hs.out.2.2.1 b.its[k] (List.getElem_mem hlt)
      have d0 := (hlow.cell (p := ⟨bb, off + k * 2, none⟩) hbB).trans e0
      have d1 := (hlow.cell (p := ⟨bb, off + k * 2 + 1, none⟩) hbB).trans e1
      have cc1 := Lib.hid (fun W (hW : Below wr.heap.size wr W) => clone_any A1 c1 w.heap.size b.its[k].1 W (by omega) (i1.below (hlow.trans (hW.mono hlow.size)) (Nat.le_refl _)))
      have cc2 := Lib.hid (fun W (hW : Below wr.heap.size wr W) => clone_any A2 c2 w.heap.size b.its[k].2 W (by omega) (i2.below (hlow.trans (hW.mono hlow.size)) (Nat.le_refl _)))
      have hbw := hlow.size
      have hbbw : bb < wr.heap.size := by omega
      clear e0 e1 i1 i2 hlow
      obtain ⟨n1, hn1⟩ : ∃ n1, n1 = b.its[k].1.length := ⟨_, rfl⟩
      obtain ⟨n2, hn2⟩ : ∃ n2, n2 = b.its[k].2.length := ⟨_, rfl⟩
      rw [← hn1] at d0 cc1
      rw [← hn2] at d1 cc2
      have Hn1 := Lib.hid hn1
      have Hn2 := Lib.hid hn2
      clear hn1 hn2
      obtain ⟨y0, y1, y2, f0, f1, f2⟩ := blk3 HBl.out
      go_wp2_with fail
      have hbi : Below wr.heap.size wr (wr.alloc (.cells #[.slice A1 n1 c1, .slice A2 n2 c2] 84)).drew := (balloc (Below.refl _ _) _).drew
      have HTi := Lib.hid (show Blk (wr.alloc (.cells #[.slice A1 n1 c1, .slice A2 n2 c2] 84)).drew wr.heap.size 84 #[.slice A1 n1 c1, .slice A2 n2 c2] from (Blk.new _ _ _).drew)
      refine wp_region_E (S := fun W => W.cell? ⟨G, 1, none⟩ = some (.slice AIx k cIx) ∧ W.cell? ⟨wr.heap.size, 0, none⟩ = some (.slice A1 n1 c1) ∧ W.cell? ⟨wr.heap.size, 1, none⟩ = some (.slice A2 n2 c2)) (E := fun j => [12].contains j) (by kernel_rfl) ?_
      generalize (wr.alloc (.cells #[.slice A1 n1 c1, .slice A2 n2 c2] 84)).drew = wi0 at hbi HTi ⊢
      have HBi := Lib.hid (Below.refl wi0.heap.size wi0)
      have cc1 := Lib.hid (fun W (hW : Below wi0.heap.size wi0 W) => cc1.out W (hbi.trans (hW.mono hbi.size)))
      have cc2 := Lib.hid (fun W (hW : Below wi0.heap.size wi0 W) => cc2.out W (hbi.trans (hW.mono hbi.size)))
      have HOw := Lib.hid (show wi0.ownsRow W0.heap.size 84 2 (.slice AIx k cIx) k (flatV ps) from by
        have := (HIt.out.below hbi).2.1
        rw [List.length_take, Nat.min_eq_left hk] at this
        exact this)
      have HNE := Lib.hid (show some G ≠ (Value.slice AIx k cIx).ownBlock from own_ne HOw.out hlo0)
      have HNT := Lib.hid (show some wr.heap.size ≠ (Value.slice AIx k cIx).ownBlock from fun e => by have := (HIt.out.2.1.lt _ e.symm).2; omega)
      have HSn := Lib.hid (fun (Wb Wc W w8 : World) (A6 A7 A8 : Option Addr) (c6 c7 c8 : Nat) hb1 ho1 hb2 ho2 hb3 hown hg hat => show ItP W0.heap.size (.slice A8 (k + 1) c8) w8 (ps ++ [(.slice A6 n1 c6, .slice A7 n2 c7)]) (b.its.take (k + 1)) from by
        have := ItP.snoc (x := b.its[k]'hlt) (wr := wi0) (Wb := Wb) (Wc := Wc) (W := W) (w8 := w8) (A6 := A6) (A7 := A7) (A8 := A8) (c6 := c6) (c7 := c7) (c8 := c8) (n1 := n1) (n2 := n2) (k := k) (HIt.out.below hbi) (by simp; omega) (Nat.le_trans hlo hbi.size) Hn1.out Hn2.out hb1 ho1 hb2 ho2 hb3 hown hg hat
        rw [List.take_succ_eq_append_getElem hlt]
        exact this)
      have HOn := Lib.hid (HOn.out.trans (Only.of_below hbi G))
      have HBl := Lib.hid (HBl.out.below hbi hGr)
      have hlo : W0.heap.size ≤ wi0.heap.size := Nat.le_trans hlo hbi.size
      have hGr : G < wi0.heap.size := Nat.lt_of_lt_of_le hGr hbi.size
      have Keep := Lib.hid (show ∀ W, Below wi0.heap.size wi0 W → W.cell? ⟨G, 1, none⟩ = some (.slice AIx k cIx) ∧ W.cell? ⟨wr.heap.size, 0, none⟩ = some (.slice A1 n1 c1) ∧ W.cell? ⟨wr.heap.size, 1, none⟩ = some (.slice A2 n2 c2) from fun W hW => ⟨(HBl.out.below hW hGr).cell 1, (HTi.out.below hW HTi.out.lt).cell 0, (HTi.out.below hW HTi.out.lt).cell 1⟩)
      generalize b.its[k].1.map (Value.int .i64) = o1 at cc1 HSn
      generalize b.its[k].2.map (Value.int .i64) = o2 at cc2 HSn
      have hS := Keep.out _ HBi.out
      clear d0 d1 y0 y1 y2 f0 f1 f2 m1 m2 hbi
      refine anyE_tx 0 18 [12] [12] (oi := ?oi1) (v := ?v1) ?hi1 ?hd1 (by kernel_rfl) (by kernel_rfl) (by kernel_rfl) (by kernel_rfl) ?hQ1 ?hy1 hS ?rest1
      case hi1 => simp only [List.getElem?_toArray, List.getElem?_cons_zero, List.getElem?_cons_succ]; rfl
      case hd1 => rfl
      case hQ1 => exact fun _ _ _ h => h
      case hy1 => (refine Or.inl ⟨by rfl, ?_⟩; intro w hSw; (try dsimp only at hSw); go_simp; try with_reducible rfl)
      simp only [List.setIfInBounds_toArray, List.set_cons_zero, List.set_cons_succ]
      refine anyE_tx 1 19 [12] [12] (oi := ?oi2) (v := ?v2) ?hi2 ?hd2 (by kernel_rfl) (by kernel_rfl) (by kernel_rfl) (by kernel_rfl) ?hQ2 ?hy2 hS ?rest2
      case hi2 => simp only [List.getElem?_toArray, List.getElem?_cons_zero, List.getElem?_cons_succ]; rfl
      case hd2 => rfl
      case hQ2 => exact fun _ _ _ h => h
      case hy2 => (refine Or.inl ⟨by rfl, ?_⟩; intro w hSw; (try dsimp only at hSw); go_simp; try with_reducible rfl)
      simp only [List.setIfInBounds_toArray, List.set_cons_zero, List.set_cons_succ]
      refine anyE_tx 2 20 [12] [12] (oi := ?oi3) (v := ?v3) ?hi3 ?hd3 (by kernel_rfl) (by kernel_rfl) (by kernel_rfl) (by kernel_rfl) ?hQ3 ?hy3 hS ?rest3
      case hi3 => simp only [List.getElem?_toArray, List.getElem?_cons_zero, List.getElem?_cons_succ]; rfl
      case hd3 => rfl
      case hQ3 => exact fun _ _ _ h => h
      case hy3 => (refine Or.inl ⟨by rfl, ?_⟩; intro w hSw; (try dsimp only at hSw); go_simp; try with_reducible rfl)
      simp only [List.setIfInBounds_toArray, List.set_cons_zero, List.set_cons_succ]
      refine anyE_tx 3 21 [12] [12] (oi := ?oi4) (v := ?v4) ?hi4 ?hd4 (by kernel_rfl) (by kernel_rfl) (by kernel_rfl) (by kernel_rfl) ?hQ4 ?hy4 hS ?rest4
      case hi4 => simp only [List.getElem?_toArray, List.getElem?_cons_zero, List.getElem?_cons_succ]; rfl
      case hd4 => rfl
      case hQ4 => exact fun _ _ _ h => h
      case hy4 => (refine Or.inl ⟨by rfl, ?_⟩; intro w hSw; (try dsimp only at hSw); go_simp; try with_reducible rfl)
      simp only [List.setIfInBounds_toArray, List.set_cons_zero, List.set_cons_succ]
      refine anyE_tx 5 23 [12] [12] (oi := ?oi5) (v := ?v5) ?hi5 ?hd5 (by kernel_rfl) (by kernel_rfl) (by kernel_rfl) (by kernel_rfl) ?hQ5 ?hy5 hS ?rest5
      case hi5 => simp only [List.getElem?_toArray, List.getElem?_cons_zero, List.getElem?_cons_succ]; rfl
      case hd5 => rfl
      case hQ5 => exact fun _ _ _ h => h
      case hy5 => (refine Or.inl ⟨by rfl, ?_⟩; intro w hSw; (try dsimp only at hSw); go_simp; try with_reducible rfl)
      simp only [List.setIfInBounds_toArray, List.set_cons_zero, List.set_cons_succ]
      refine anyE_tx 6 24 [12] [12] (oi := ?oi6) (v := ?v6) ?hi6 ?hd6 (by kernel_rfl) (by kernel_rfl) (by kernel_rfl) (by kernel_rfl) ?hQ6 ?hy6 hS ?rest6
      case hi6 => simp only [List.getElem?_toArray, List.getElem?_cons_zero, List.getElem?_cons_succ]; rfl
      case hd6 => rfl
      case hQ6 => exact fun _ _ _ h => h
      case hy6 => (refine Or.inl ⟨by rfl, ?_⟩; intro w hSw; (try dsimp only at hSw); go_simp; try with_reducible rfl)
      simp only [List.setIfInBounds_toArray, List.set_cons_zero, List.set_cons_succ]
      refine anyE_one (i := 4) (o := ?oi7) (by kernel_rfl) ?hi7 (fun K hK => ?step7)
      case hi7 => simp only [List.getElem?_toArray, List.getElem?_cons_zero, List.getElem?_cons_succ]; rfl
      go_simp
      refine (cc1.out _ HBi.out).mono ?_
      rintro e Wb ⟨v6, rfl, ho, hb⟩
      obtain ⟨A6, c6, rfl⟩ := own_form ho
      have HO6 := Lib.hid ho
      have HB6 := Lib.hid hb
      have HBb := Lib.hid (HBi.out.trans (hb.mono HBi.out.size))
      clear ho hb
      go_wp2_with fail
      refine hK.out _ _ (fun _ => Keep.out _ HBb.out) ?_
      clear hK K
      try simp only [Act.put, List.setIfInBounds_toArray, List.set_cons_zero, List.set_cons_succ]
      refine anyE_one (i := 7) (o := ?oi8) (by kernel_rfl) ?hi8 (fun K hK => ?step8)
      case hi8 => simp only [List.getElem?_toArray, List.getElem?_cons_zero, List.getElem?_cons_succ]; rfl
      go_simp
      refine (cc2.out _ HBb.out).mono ?_
      rintro e Wc ⟨v7, rfl, ho, hb⟩
      obtain ⟨A7, c7, rfl⟩ := own_form ho
      have HO7 := Lib.hid ho
      have HB7 := Lib.hid hb
      have HBc := Lib.hid (HBb.out.trans (hb.mono HBb.out.size))
      clear ho hb
      go_wp2_with fail
      refine hK.out _ _ (fun _ => Keep.out _ HBc.out) ?_
      clear hK K
      try simp only [Act.put, List.setIfInBounds_toArray, List.set_cons_zero, List.set_cons_succ]
      refine anyE_tx 8 26 [12] [12] (oi := ?oi9) (v := ?v9) ?hi9 ?hd9 (by kernel_rfl) (by kernel_rfl) (by kernel_rfl) (by kernel_rfl) ?hQ9 ?hy9 (Keep.out _ HBc.out) ?rest9
      case hi9 => simp only [List.getElem?_toArray, List.getElem?_cons_zero, List.getElem?_cons_succ]; rfl
      case hd9 => rfl
      case hQ9 => exact fun _ _ _ h => h
      case hy9 => (refine Or.inl ⟨by rfl, ?_⟩; intro w hSw; (try dsimp only at hSw); go_simp; try with_reducible rfl)
      simp only [List.setIfInBounds_toArray, List.set_cons_zero, List.set_cons_succ]
      refine anyE_one (i := 9) (o := ?oi10) (by kernel_rfl) ?hi10 (fun K hK => ?step10)
      case hi10 => simp only [List.getElem?_toArray, List.getElem?_cons_zero, List.getElem?_cons_succ]; rfl
      go_simp
      go_wp2_with fail
      refine hK.out _ _ (fun _ => Keep.out _ (balloc HBc.out _)) ?_
      clear hK K
      try simp only [Act.put, List.setIfInBounds_toArray, List.set_cons_zero, List.set_cons_succ]
      refine anyE_one (i := 10) (o := ?oi10x) (by kernel_rfl) ?hi10x (fun K hK => ?step10x)
      case hi10x => simp only [List.getElem?_toArray, List.getElem?_cons_zero, List.getElem?_cons_succ]; rfl
      have hbW := balloc HBc.out (.cells #[.slice A6 n1 c6, .slice A7 n2 c7] 84)
      refine step_app2 _ (by rfl) (.tmp 19) (.tmp 27) 22 (by rfl) W0.heap.size 84 j0 _ 2 48 Tryd.underlying22 hj hy0 hy1 hy2 (by rfl) (by decide) (.slice AIx k cIx) k (flatV ps) (by rfl)
        (own_below HOw.out hbW)
        ⟨_, 0, none⟩ 1 1 [.slice A6 n1 c6, .slice A7 n2 c7] (by rfl) (by rfl)
        (news_blk (t := 84) (cs := #[.slice A6 n1 c6, .slice A7 n2 c7]) (blk_new' rfl) _ rfl)
        (by simp [Value.oneCell']) (by omega) (by decide) (Nat.le_trans hlo hbW.size) (k + 1) rfl (flatV (ps ++ [(.slice A6 n1 c6, .slice A7 n2 c7)])) (flatV_snoc _ _ _).symm ?_
      intro A8 c8 w8 hown8 hg8 hlow8 hat8
      have HI8 := Lib.hid (HSn.out Wb Wc _ w8 A6 A7 A8 c6 c7 c8 HB6.out HO6.out HB7.out HO7.out (balloc (Below.refl _ _) _) hown8 hg8 hat8)
      have HB8 := Lib.hid (Blk.grown (HBl.out.below hbW hGr) hg8 HNE.out)
      have HT8 := Lib.hid (Blk.grown (HTi.out.below hbW HTi.out.lt) hg8 HNT.out)
      have hbw8 : Below W0.heap.size wi0 w8 := (Below.mono hbW hlo).grown hg8 (Nat.le_trans hlo hbW.size) (fun j hj => hlow8 j hj)
      have HO8 := Lib.hid (show Only G W0 w8 from ⟨hbw8.os.trans HOn.out.os, hbw8.tape.trans HOn.out.tape, hbw8.output.trans HOn.out.output, Nat.le_trans HOn.out.size hbw8.size, fun i hi hne => (hbw8.block i hi).trans (HOn.out.block i hi hne)⟩)
      have HS8 := Lib.hid (show w8.cell? ⟨G, 1, none⟩ = some (.slice AIx k cIx) ∧ w8.cell? ⟨wr.heap.size, 0, none⟩ = some (.slice A1 n1 c1) ∧ w8.cell? ⟨wr.heap.size, 1, none⟩ = some (.slice A2 n2 c2) from ⟨HB8.out.cell 1, HT8.out.cell 0, HT8.out.cell 1⟩)
      clear hown8 hg8 hlow8 hat8 hbW hbw8
      refine hK.out _ _ (fun _ => HS8.out) ?_
      clear hK K
      try simp only [Act.put, List.setIfInBounds_toArray, List.set_cons_zero, List.set_cons_succ]
      refine anyE_tx 11 29 [12] [12] (oi := ?oi11) (v := ?v11) ?hi11 ?hd11 (by kernel_rfl) (by kernel_rfl) (by kernel_rfl) (by kernel_rfl) ?hQ11 ?hy11 HS8.out ?rest11
      case hi11 => simp only [List.getElem?_toArray, List.getElem?_cons_zero, List.getElem?_cons_succ]; rfl
      case hd11 => rfl
      case hQ11 => exact fun _ _ _ h => h
      case hy11 => (refine Or.inl ⟨by rfl, ?_⟩; intro w hSw; (try dsimp only at hSw); go_simp; try with_reducible rfl)
      simp only [List.setIfInBounds_toArray, List.set_cons_zero, List.set_cons_succ]
      have q8 := HS8.out.1
      have q9 := HB8.out.frozen 1
      refine anyE_one (i := 12) (o := ?oi12) (by kernel_rfl) ?hi12 (fun K hK => ?step12)
      case hi12 => simp only [List.getElem?_toArray, List.getElem?_cons_zero, List.getElem?_cons_succ]; rfl
      go_simp
      refine hK.out _ _ (fun h => absurd h (by decide)) ?_
      clear hK K
      try simp only [Act.put, List.setIfInBounds_toArray, List.set_cons_zero, List.set_cons_succ]
      refine anyE_done (by kernel_rfl) ?_ _
      go_wp2_with fail
      go_roundw
      case rel => exact ⟨k + 1, A8, c8, _, by omega, by go_num, HI8.out.only ((Only.refl G w8).put 1 (.slice A8 (k + 1) c8)) hlo0, HO8.out.put 1 (.slice A8 (k + 1) c8), HB8.out.put 1 (.slice A8 (k + 1) c8)⟩
      case measure => simp [intOf]; omega
    · obtain rfl : k = b.its.length := by omega
      obtain ⟨w1, rfl⟩ : ∃ w1 : World, w1 = wr := ⟨_, rfl⟩
      have HItF := Lib.hid (show ItP W0.heap.size (.slice AIx b.its.length cIx) w1 ps b.its from by
        have := HIt.out
        rw [List.take_length] at this
        exact this)
      have HK0' := Lib.hid (show Blk w1 w.heap.size 25 #[.int .i64 b.p, .slice AI b.its.length cI, .slice AR b.rus.length cR] from (HOn.out.block _ HK0.out.lt (fun e => by injection e with e; have := HGe.out; omega)).trans HK0.out)
      have HK1' := Lib.hid (show Blk w1 (w.heap.size + 1) 25 #[.int .i64 0, .slice none 0 0, .slice none 0 0] from (HOn.out.block _ HK1.out.lt (fun e => by injection e with e; have := HGe.out; omega)).trans HK1.out)
      obtain ⟨x0, x1, x2, _⟩ := blk3 HK0'.out
      have hlow1 := hlow
      have Hlow1 := Lib.hid hlow
      have hG1 : G < w1.heap.size := hGr
      clear hlow HIt HOn hlo hlt
      go_wp2_with fail
      go_loopw [34] (fun i wr => ∃ (k : Nat) (ARx : Option Addr) (cRx : Nat) (qs : List (Value × Value)), k ≤ b.rus.length ∧ i = .int .i64 k ∧ Aside (RuP w1.heap.size (.slice ARx k cRx) wr qs (b.rus.take k)) ∧ Aside (Only G w1 wr) ∧ Aside (Blk wr G 25 #[.int .i64 b.p, .slice AIx b.its.length cIx, .slice ARx k cRx])) (fun i _ => b.rus.length - (intOf i).toNat)
      case atStart => exact ⟨0, none, 0, [], Nat.zero_le _, rfl, RuP.nil _ _, Only.refl _ _, HBl.out⟩
      case round =>
        clear HBl
        obtain ⟨k, ARx, cRx, qs, hk, rfl, hit, hon, hbl⟩ := hrel
        have HIt := Lib.hid hit.out
        have HOn := Lib.hid hon.out
        have HBl := Lib.hid hbl.out
        have hlow : Below w.heap.size w wr := Hlow1.out.trans (hon.out.below (by rw [HGe.out]; omega) Hlow1.out.size)
        have hlo : w1.heap.size ≤ wr.heap.size := hon.out.size
        have hGr : G < wr.heap.size := hbl.out.lt
        clear hit hon hbl
        by_cases hlt : k < b.rus.length
        · obtain ⟨bb, off, A1, c1, rfl, hbB, e0, e1, i1⟩ := H'.out k hlt
          have m1 := Hs.out.2.2.2 b.rus[k] (List.getElem_mem hlt)
          have d0 := (hlow.cell (p := ⟨bb, off + k * 2, none⟩) hbB).trans e0
          have d1 := (hlow.cell (p := ⟨bb, off + k * 2 + 1, none⟩) hbB).trans e1
          have cc1 := Lib.hid (fun W (hW : Below wr.heap.size wr W) => clone_any A1 c1 w.heap.size b.rus[k].1 W (by omega) (i1.below (hlow.trans (hW.mono hlow.size)) (Nat.le_refl _)))
          have hbw := hlow.size
          have hbbw : bb < wr.heap.size := by omega
          clear e0 e1 i1 hlow
          obtain ⟨n1, hn1⟩ : ∃ n1, n1 = b.rus[k].1.length := ⟨_, rfl⟩
          obtain ⟨z, hz⟩ : ∃ z, z = b.rus[k].2 := ⟨_, rfl⟩
          rw [← hn1] at d0 cc1
          rw [← hz] at d1
          have Hn1 := Lib.hid hn1
          have Hz := Lib.hid hz
          clear hn1 hz
          obtain ⟨y0, y1, y2, f0, f1, f2⟩ := blk3 HBl.out
          go_wp2_with fail
          have hbi : Below wr.heap.size wr (wr.alloc (.cells #[.slice A1 n1 c1, .int .i64 z] 42)).drew := (balloc (Below.refl _ _) _).drew
          have HTi := Lib.hid (show Blk (wr.alloc (.cells #[.slice A1 n1 c1, .int .i64 z] 42)).drew wr.heap.size 42 #[.slice A1 n1 c1, .int .i64 z] from (Blk.new _ _ _).drew)
          refine wp_region_E (S := fun W => W.cell? ⟨G, 2, none⟩ = some (.slice ARx k cRx) ∧ W.cell? ⟨wr.heap.size, 0, none⟩ = some (.slice A1 n1 c1) ∧ W.cell? ⟨wr.heap.size, 1, none⟩ = some (.int .i64 z)) (E := fun j => [11].contains j) (by kernel_rfl) ?_
          generalize (wr.alloc (.cells #[.slice A1 n1 c1, .int .i64 z] 42)).drew = wi0 at hbi HTi ⊢
          have HBi := Lib.hid (Below.refl wi0.heap.size wi0)
          have cc1 := Lib.hid (fun W (hW : Below wi0.heap.size wi0 W) => cc1.out W (hbi.trans (hW.mono hbi.size)))
          have HOw := Lib.hid (show wi0.ownsRow w1.heap.size 42 2 (.slice ARx k cRx) k (flatV qs) from by
            have := (HIt.out.below hbi).2.1
            rw [List.length_take, Nat.min_eq_left hk] at this
            exact this)
          have HNE := Lib.hid (show some G ≠ (Value.slice ARx k cRx).ownBlock from own_ne HOw.out hG1)
          have HNT := Lib.hid (show some wr.heap.size ≠ (Value.slice ARx k cRx).ownBlock from fun e => by have := (HIt.out.2.1.lt _ e.symm).2; omega)
          have HSn := Lib.hid (fun (Wb W w8 : World) (A6 A8 : Option Addr) (c6 c8 : Nat) hb1 ho1 hb3 (hown : w8.ownsRow w1.heap.size 42 2 (.slice A8 (k + 1) c8) (k + 1) (flatV (qs ++ [(.slice A6 n1 c6, .int .i64 z)]))) hg hat => show RuP w1.heap.size (.slice A8 (k + 1) c8) w8 (qs ++ [(.slice A6 n1 c6, .int .i64 z)]) (b.rus.take (k + 1)) from by
            have := RuP.snoc (x := b.rus[k]'hlt) (wr := wi0) (Wb := Wb) (W := W) (w8 := w8) (A6 := A6) (A8 := A8) (c6 := c6) (c8 := c8) (n1 := n1) (k := k) (HIt.out.below hbi) (by simp; omega) (Nat.le_trans hlo hbi.size) Hn1.out hb1 ho1 hb3 (by rw [← Hz.out]; exact hown) hg hat
            rw [List.take_succ_eq_append_getElem hlt, Hz.out]
            exact this)
          have HOn := Lib.hid (HOn.out.trans (Only.of_below hbi G))
          have HBl := Lib.hid (HBl.out.below hbi hGr)
          have hlo : w1.heap.size ≤ wi0.heap.size := Nat.le_trans hlo hbi.size
          have hGr : G < wi0.heap.size := Nat.lt_of_lt_of_le hGr hbi.size
          have Keep := Lib.hid (show ∀ W, Below wi0.heap.size wi0 W → W.cell? ⟨G, 2, none⟩ = some (.slice ARx k cRx) ∧ W.cell? ⟨wr.heap.size, 0, none⟩ = some (.slice A1 n1 c1) ∧ W.cell? ⟨wr.heap.size, 1, none⟩ = some (.int .i64 z) from fun W hW => ⟨(HBl.out.below hW hGr).cell 2, (HTi.out.below hW HTi.out.lt).cell 0, (HTi.out.below hW HTi.out.lt).cell 1⟩)
          generalize b.rus[k].1.map (Value.int .i64) = o1 at cc1 HSn
          have hS := Keep.out _ HBi.out
          clear d0 d1 y0 y1 y2 f0 f1 f2 m1 hbi
          refine anyE_tx 0 38 [11] [11] (oi := ?oi13) (v := ?v13) ?hi13 ?hd13 (by kernel_rfl) (by kernel_rfl) (by kernel_rfl) (by kernel_rfl) ?hQ13 ?hy13 hS ?rest13
          case hi13 => simp only [List.getElem?_toArray, List.getElem?_cons_zero, List.getElem?_cons_succ]; rfl
          case hd13 => rfl
          case hQ13 => exact fun _ _ _ h => h
          case hy13 => (refine Or.inl ⟨by rfl, ?_⟩; intro w hSw; (try dsimp only at hSw); go_simp; try with_reducible rfl)
          simp only [List.setIfInBounds_toArray, List.set_cons_zero, List.set_cons_succ]
          refine anyE_tx 1 39 [11] [11] (oi := ?oi14) (v := ?v14) ?hi14 ?hd14 (by kernel_rfl) (by kernel_rfl) (by kernel_rfl) (by kernel_rfl) ?hQ14 ?hy14 hS ?rest14
          case hi14 => simp only [List.getElem?_toArray, List.getElem?_cons_zero, List.getElem?_cons_succ]; rfl
          case hd14 => rfl
          case hQ14 => exact fun _ _ _ h => h
          case hy14 => (refine Or.inl ⟨by rfl, ?_⟩; intro w hSw; (try dsimp only at hSw); go_simp; try with_reducible rfl)
          simp only [List.setIfInBounds_toArray, List.set_cons_zero, List.set_cons_succ]
          refine anyE_tx 2 40 [11] [11] (oi := ?oi15) (v := ?v15) ?hi15 ?hd15 (by kernel_rfl) (by kernel_rfl) (by kernel_rfl) (by kernel_rfl) ?hQ15 ?hy15 hS ?rest15
          case hi15 => simp only [List.getElem?_toArray, List.getElem?_cons_zero, List.getElem?_cons_succ]; rfl
          case hd15 => rfl
          case hQ15 => exact fun _ _ _ h => h
          case hy15 => (refine Or.inl ⟨by rfl, ?_⟩; intro w hSw; (try dsimp only at hSw); go_simp; try with_reducible rfl)
          simp only [List.setIfInBounds_toArray, List.set_cons_zero, List.set_cons_succ]
          refine anyE_tx 3 41 [11] [11] (oi := ?oi16) (v := ?v16) ?hi16 ?hd16 (by kernel_rfl) (by kernel_rfl) (by kernel_rfl) (by kernel_rfl) ?hQ16 ?hy16 hS ?rest16
          case hi16 => simp only [List.getElem?_toArray, List.getElem?_cons_zero, List.getElem?_cons_succ]; rfl
          case hd16 => rfl
          case hQ16 => exact fun _ _ _ h => h
          case hy16 => (refine Or.inl ⟨by rfl, ?_⟩; intro w hSw; (try dsimp only at hSw); go_simp; try with_reducible rfl)
          simp only [List.setIfInBounds_toArray, List.set_cons_zero, List.set_cons_succ]
          refine anyE_tx 5 43 [11] [11] (oi := ?oi17) (v := ?v17) ?hi17 ?hd17 (by kernel_rfl) (by kernel_rfl) (by kernel_rfl) (by kernel_rfl) ?hQ17 ?hy17 hS ?rest17
          case hi17 => simp only [List.getElem?_toArray, List.getElem?_cons_zero, List.getElem?_cons_succ]; rfl
          case hd17 => rfl
          case hQ17 => exact fun _ _ _ h => h
          case hy17 => (refine Or.inl ⟨by rfl, ?_⟩; intro w hSw; (try dsimp only at hSw); go_simp; try with_reducible rfl)
          simp only [List.setIfInBounds_toArray, List.set_cons_zero, List.set_cons_succ]
          refine anyE_tx 6 44 [11] [11] (oi := ?oi18) (v := ?v18) ?hi18 ?hd18 (by kernel_rfl) (by kernel_rfl) (by kernel_rfl) (by kernel_rfl) ?hQ18 ?hy18 hS ?rest18
          case hi18 => simp only [List.getElem?_toArray, List.getElem?_cons_zero, List.getElem?_cons_succ]; rfl
          case hd18 => rfl
          case hQ18 => exact fun _ _ _ h => h
          case hy18 => (refine Or.inl ⟨by rfl, ?_⟩; intro w hSw; (try dsimp only at hSw); go_simp; try with_reducible rfl)
          simp only [List.setIfInBounds_toArray, List.set_cons_zero, List.set_cons_succ]
          refine anyE_one (i := 4) (o := ?oi19) (by kernel_rfl) ?hi19 (fun K hK => ?step19)
          case hi19 => simp only [List.getElem?_toArray, List.getElem?_cons_zero, List.getElem?_cons_succ]; rfl
          go_simp
          refine (cc1.out _ HBi.out).mono ?_
          rintro e Wb ⟨v6, rfl, ho, hb⟩
          obtain ⟨A6, c6, rfl⟩ := own_form ho
          have HO6 := Lib.hid ho
          have HB6 := Lib.hid hb
          have HBb := Lib.hid (HBi.out.trans (hb.mono HBi.out.size))
          clear ho hb
          go_wp2_with fail
          refine hK.out _ _ (fun _ => Keep.out _ HBb.out) ?_
          clear hK K
          try simp only [Act.put, List.setIfInBounds_toArray, List.set_cons_zero, List.set_cons_succ]
          refine anyE_tx 7 45 [11] [11] (oi := ?oi20) (v := ?v20) ?hi20 ?hd20 (by kernel_rfl) (by kernel_rfl) (by kernel_rfl) (by kernel_rfl) ?hQ20 ?hy20 (Keep.out _ HBb.out) ?rest20
          case hi20 => simp only [List.getElem?_toArray, List.getElem?_cons_zero, List.getElem?_cons_succ]; rfl
          case hd20 => rfl
          case hQ20 => exact fun _ _ _ h => h
          case hy20 => (refine Or.inl ⟨by rfl, ?_⟩; intro w hSw; (try dsimp only at hSw); go_simp; try with_reducible rfl)
          simp only [List.setIfInBounds_toArray, List.set_cons_zero, List.set_cons_succ]
          refine anyE_one (i := 8) (o := ?oi21) (by kernel_rfl) ?hi21 (fun K hK => ?step21)
          case hi21 => simp only [List.getElem?_toArray, List.getElem?_cons_zero, List.getElem?_cons_succ]; rfl
          go_simp
          go_wp2_with fail
          refine hK.out _ _ (fun _ => Keep.out _ (balloc HBb.out _)) ?_
          clear hK K
          try simp only [Act.put, List.setIfInBounds_toArray, List.set_cons_zero, List.set_cons_succ]
          refine anyE_one (i := 9) (o := ?oi9y) (by kernel_rfl) ?hi9y (fun K hK => ?step9y)
          case hi9y => simp only [List.getElem?_toArray, List.getElem?_cons_zero, List.getElem?_cons_succ]; rfl
          have hbW := balloc HBb.out (.cells #[.slice A6 n1 c6, .int .i64 z] 42)
          refine step_app2 _ (by rfl) (.tmp 39) (.tmp 46) 23 (by rfl) w1.heap.size 42 i0 _ 2 32 Tryd.underlying23 hi hz0 hz1 hz2 (by rfl) (by decide) (.slice ARx k cRx) k (flatV qs) (by rfl)
            (own_below HOw.out hbW)
            ⟨_, 0, none⟩ 1 1 [.slice A6 n1 c6, .int .i64 z] (by rfl) (by rfl)
            (news_blk (t := 42) (cs := #[.slice A6 n1 c6, .int .i64 z]) (blk_new' rfl) _ rfl)
            (by simp [Value.oneCell']) (by omega) (by decide) (Nat.le_trans hlo hbW.size) (k + 1) rfl (flatV (qs ++ [(.slice A6 n1 c6, .int .i64 z)])) (flatV_snoc _ _ _).symm ?_
          intro A8 c8 w8 hown8 hg8 hlow8 hat8
          have HI8 := Lib.hid (HSn.out Wb _ w8 A6 A8 c6 c8 HB6.out HO6.out (balloc (Below.refl _ _) _) hown8 hg8 hat8)
          have HB8 := Lib.hid (Blk.grown (HBl.out.below hbW hGr) hg8 HNE.out)
          have HT8 := Lib.hid (Blk.grown (HTi.out.below hbW HTi.out.lt) hg8 HNT.out)
          have hbw8 : Below w1.heap.size wi0 w8 := (Below.mono hbW hlo).grown hg8 (Nat.le_trans hlo hbW.size) (fun j hj => hlow8 j hj)
          have HO8 := Lib.hid (show Only G w1 w8 from ⟨hbw8.os.trans HOn.out.os, hbw8.tape.trans HOn.out.tape, hbw8.output.trans HOn.out.output, Nat.le_trans HOn.out.size hbw8.size, fun i hi hne => (hbw8.block i hi).trans (HOn.out.block i hi hne)⟩)
          have HS8 := Lib.hid (show w8.cell? ⟨G, 2, none⟩ = some (.slice ARx k cRx) ∧ w8.cell? ⟨wr.heap.size, 0, none⟩ = some (.slice A1 n1 c1) ∧ w8.cell? ⟨wr.heap.size, 1, none⟩ = some (.int .i64 z) from ⟨HB8.out.cell 2, HT8.out.cell 0, HT8.out.cell 1⟩)
          clear hown8 hg8 hlow8 hat8 hbW hbw8
          refine hK.out _ _ (fun _ => HS8.out) ?_
          clear hK K
          try simp only [Act.put, List.setIfInBounds_toArray, List.set_cons_zero, List.set_cons_succ]
          refine anyE_tx 10 48 [11] [11] (oi := ?oi22) (v := ?v22) ?hi22 ?hd22 (by kernel_rfl) (by kernel_rfl) (by kernel_rfl) (by kernel_rfl) ?hQ22 ?hy22 HS8.out ?rest22
          case hi22 => simp only [List.getElem?_toArray, List.getElem?_cons_zero, List.getElem?_cons_succ]; rfl
          case hd22 => rfl
          case hQ22 => exact fun _ _ _ h => h
          case hy22 => (refine Or.inl ⟨by rfl, ?_⟩; intro w hSw; (try dsimp only at hSw); go_simp; try with_reducible rfl)
          simp only [List.setIfInBounds_toArray, List.set_cons_zero, List.set_cons_succ]
          have q8 := HS8.out.1
          have q9 := HB8.out.frozen 2
          refine anyE_one (i := 11) (o := ?oi23) (by kernel_rfl) ?hi23 (fun K hK => ?step23)
          case hi23 => simp only [List.getElem?_toArray, List.getElem?_cons_zero, List.getElem?_cons_succ]; rfl
          go_simp
          refine hK.out _ _ (fun h => absurd h (by decide)) ?_
          clear hK K
          try simp only [Act.put, List.setIfInBounds_toArray, List.set_cons_zero, List.set_cons_succ]
          refine anyE_done (by kernel_rfl) ?_ _
          go_wp2_with fail
          go_roundw
          case rel => exact ⟨k + 1, A8, c8, _, by omega, by go_num, HI8.out.only ((Only.refl G w8).put 2 (.slice A8 (k + 1) c8)) hG1, HO8.out.put 2 (.slice A8 (k + 1) c8), HB8.out.put 2 (.slice A8 (k + 1) c8)⟩
          case measure => simp [intOf]; omega
        · obtain rfl : k = b.rus.length := by omega
          have HRu := Lib.hid (show RuP w1.heap.size (.slice ARx b.rus.length cRx) wr qs b.rus from by
            have := HIt.out
            rw [List.take_length] at this
            exact this)
          have hne1 : w.heap.size + 1 ≠ G := by have := HGe.out; omega
          have HR1 := Lib.hid (show Blk wr (w.heap.size + 1) 25 #[.int .i64 0, .slice none 0 0, .slice none 0 0] from (HOn.out.block _ HK1'.out.lt (fun e => by injection e with e; omega)).trans HK1'.out)
          obtain ⟨y0, y1, y2, f0, f1, f2⟩ := blk3 HBl.out
          obtain ⟨t0, t1, t2, g0, g1, g2⟩ := blk3 HR1.out
          have hlR : w.heap.size + 1 < wr.heap.size := HR1.out.lt
          have HL1 := Lib.hid (show w.heap.size + 1 < W0.heap.size from HK1.out.lt)
          have HL2 := Lib.hid (show w.heap.size + 1 < w1.heap.size from HK1'.out.lt)
          have HLow := Lib.hid hlow
          clear hlow
          go_wp2_with fail
          have HP := Lib.hid ((((Only.refl (w.heap.size + 1) wr).put 0 (.int .i64 b.p)).put 1 (.slice AIx b.its.length cIx)).put 2 (.slice ARx b.rus.length cRx))
          have HB2 := Lib.hid (((HR1.out.put 0 (.int .i64 b.p)).put 1 (.slice AIx b.its.length cIx)).put 2 (.slice ARx b.rus.length cRx))
          have HD := Lib.hid (below_put' (below_put' (below_put' HLow.out (Nat.le_succ w.heap.size) 0 (.int .i64 b.p)) (Nat.le_succ w.heap.size) 1 (.slice AIx b.its.length cIx)) (Nat.le_succ w.heap.size) 2 (.slice ARx b.rus.length cRx))
          refine bodyPost_ret (results_cell_row rfl _ _ (w.heap.size + 1) 25 _ (0, 0) _ rfl HB2.out Tryd.underlying25 rfl (by kernel_rfl)) rfl ⟨AIx, ARx, cIx, cRx, ps, qs, w1.heap.size, rfl, ?_, ?_, ?_, ?_, ?_, HD.out⟩
          · exact (((HItF.out.only HOn.out hlo0).only HP.out HL1.out).base HB0.out.size)
          · exact HItF.out.upTo
          · exact Hlow1.out.size
          · exact Nat.le_trans hlo HP.out.size
          · exact HRu.out.only HP.out HL2.out
end Go.Proofs.YtgoojcjfhghmgaaDoor
