/- The reference's Reduce f48. Written by mkHf.py. -/
import Derived.Test.YtgoojcjfhghmgaaDoorDisHa
import Derived.Test.YtgoojcjfhghmgaaDoorM1
import Derived.Test.YtgoojcjfhghmgaaDoorDisG
import Derived.Test.YtgoojcjfhghmgaaDoorDisEe
import Derived.Test.YtgoojcjfhghmgaaDoorDisHc
import Derived.Laws.ResultCell
import Derived.Test.YtgoojcjfhghmgaaDoorDisFb
import Derived.Test.YtgoojcjfhghmgaaDoorDisEb

set_option linter.unusedSimpArgs false
set_option linter.unusedVariables false
namespace Go.Proofs.YtgoojcjfhghmgaaDoor
open Go Go.RowKit

section
variable {P : Program} {md : Region.Mode} {ops : Array Oper} {Q : Exit → Act → World → Prop} {S : World → Prop}
/-- Number i is taken first; the exempt ones wait for it; its place is written out. -/
theorem anyE_tx (i d : Nat) (xs N : List Nat) {oi : Oper} {v : Value} {n : Nat} {listed : Array Bool} {a : Act} {w : World} (hi : ops[i]? = some oi) (hd : oi.dst = some d)
    (hs : Region.noSelect ops = true) (hf : Region.free md ops listed i = true) (hr : (Region.ready md ops listed).contains i = true) (hx : waitsE md ops listed xs N i = true)
    (hQ : ∀ c a w, Q (.panic c) (a.put oi.dst v) w → Q (.panic c) a w) (hy : YieldsIf P ops S oi v a) (hS : S w)
    (h : anyE P md ops Q S (fun j => xs.contains j) n (listed.setIfInBounds i true) { a with tmps := a.tmps.setIfInBounds d v } w) : anyE P md ops Q S (fun j => xs.contains j) (n + 1) listed a w := by
  refine anyE_take N hi hs hf hr hx hQ hy hS ?_
  rw [hd]; exact h
end
set_option maxRecDepth 100000 in
set_option maxHeartbeats 4000000 in
theorem clone_bk (AI AR : Option Addr) (cI cR B : Nat) (b : Bk) (w : World) (hB : B ≤ w.heap.size) (h : ItsAt B w AI b.its) (h' : RusAt B w AR b.rus) (hs : Short b) :
    Calls Tryd.prog 90 #[.agg #[.int .i64 b.p, .slice AI b.its.length cI, .slice AR b.rus.length cR]] w fun e w' => ∃ AI' AR' cI' cR' ps qs mid, e = .returned (.agg #[.int .i64 b.p, .slice AI' b.its.length cI', .slice AR' b.rus.length cR']) ∧
      ItP w.heap.size (.slice AI' b.its.length cI') w' ps b.its ∧ UpTo mid (.slice AI' b.its.length cI') (flatV ps) ∧ w.heap.size ≤ mid ∧ mid ≤ w'.heap.size ∧ RuP mid (.slice AR' b.rus.length cR') w' qs b.rus ∧ Below w.heap.size w w' := by
  obtain ⟨j0, hj, hy0, hy1, hy2⟩ := info_parts info84
  obtain ⟨i0, hi, hz0, hz1, hz2⟩ := info_parts info42
  have H := Lib.hid (h.below (Below.refl _ _) hB)
  have H' := Lib.hid (h'.below (Below.refl _ _) hB)
  have Hs := Lib.hid hs
  have ni := hs.1
  have nr := hs.2.1
  clear h h' hs hB
  go_enter Tryd.func90, Tryd.ntmps90
  go_wp2_with fail
  generalize hW0 : ((w.alloc (.cells #[.int .i64 b.p, .slice AI b.its.length cI, .slice AR b.rus.length cR] 25)).alloc (.cells #[.int .i64 0, .slice none 0 0, .slice none 0 0] 25)).alloc (.cells #[.int .i64 b.p, .slice none 0 0, .slice none 0 0] 25) = W0
  have HB0 := Lib.hid (show Below w.heap.size w W0 by rw [← hW0]; exact balloc (balloc (balloc (Below.refl _ _) _) _) _)
  have HK0 := Lib.hid (show Blk W0 w.heap.size 25 #[.int .i64 b.p, .slice AI b.its.length cI, .slice AR b.rus.length cR] by rw [← hW0]; exact ((Blk.new _ _ _).alloc _).alloc _)
  have HK1 := Lib.hid (show Blk W0 (w.heap.size + 1) 25 #[.int .i64 0, .slice none 0 0, .slice none 0 0] by rw [← hW0]; exact (blk_new' (by simp)).alloc _)
  have HKG := Lib.hid (show Blk W0 (w.heap.size + 1 + 1) 25 #[.int .i64 b.p, .slice none 0 0, .slice none 0 0] by rw [← hW0]; exact blk_new' (by simp))
  have HG := Lib.hid (show w.heap.size + 1 + 1 < W0.heap.size from HKG.out.lt)
  clear hW0
  obtain ⟨G, hG⟩ : ∃ G, G = w.heap.size + 1 + 1 := ⟨_, rfl⟩
  rw [← hG] at HKG HG ⊢
  have HGe := Lib.hid hG
  have hlo0 : G < W0.heap.size := HG.out
  clear hG
  go_loopw [14] (fun i wr => ∃ (k : Nat) (AIx : Option Addr) (cIx : Nat) (ps : List (Value × Value)), k ≤ b.its.length ∧ i = .int .i64 k ∧ Aside (ItP W0.heap.size (.slice AIx k cIx) wr ps (b.its.take k)) ∧ Aside (Only G W0 wr) ∧ Aside (Blk wr G 25 #[.int .i64 b.p, .slice AIx k cIx, .slice none 0 0])) (fun i _ => b.its.length - (intOf i).toNat)
  case atStart => exact ⟨0, none, 0, [], Nat.zero_le _, rfl, ItP.nil _ _, Only.refl _ _, HKG.out⟩
  case round =>
    obtain ⟨k, AIx, cIx, ps, hk, rfl, hit, hon, hbl⟩ := hrel
    have HIt := Lib.hid hit.out
    have HOn := Lib.hid hon.out
    have HBl := Lib.hid hbl.out
    have hlow : Below w.heap.size w wr := HB0.out.trans (hon.out.below (by rw [HGe.out]; omega) HB0.out.size)
    have HLow := Lib.hid hlow
    have hlo : W0.heap.size ≤ wr.heap.size := hon.out.size
    have hGr : G < wr.heap.size := hbl.out.lt
    clear hit hon hbl
    by_cases hlt : k < b.its.length
    · obtain ⟨bb, off, A1, c1, A2, c2, rfl, hbB, e0, e1, i1, i2⟩ := H.out k hlt
      obtain ⟨m1, m2⟩ := Hs.out.2.2.1 b.its[k] (List.getElem_mem hlt)
      have d0 := (hlow.cell (p := ⟨bb, off + k * 2, none⟩) hbB).trans e0
      have d1 := (hlow.cell (p := ⟨bb, off + k * 2 + 1, none⟩) hbB).trans e1
      have cc1 := Lib.hid (fun W (hW : Below wr.heap.size wr W) => clone_any A1 c1 w.heap.size b.its[k].1 W (by omega) (i1.below (hlow.trans (hW.mono hlow.size)) (Nat.le_refl _)))
      have cc2 := Lib.hid (fun W (hW : Below wr.heap.size wr W) => clone_any A2 c2 w.heap.size b.its[k].2 W (by omega) (i2.below (hlow.trans (hW.mono hlow.size)) (Nat.le_refl _)))
      have hbw := hlow.size
      have hbbw : bb < wr.heap.size := by omega
      clear e0 e1 i1 i2 hlow
      obtain ⟨n1, hn1⟩ : ∃ n1, n1 = b.its[k].1.length := ⟨_, rfl⟩
      obtain ⟨n2, hn2⟩ : ∃ n2, n2 = b.its[k].2.length := ⟨_, rfl⟩
      rw [← hn1] at d0 cc1
      rw [← hn2] at d1 cc2
      have Hn1 := Lib.hid hn1
      have Hn2 := Lib.hid hn2
      clear hn1 hn2
      obtain ⟨y0, y1, y2, f0, f1, f2⟩ := blk3 HBl.out
      go_wp2_with fail
      have hbi : Below wr.heap.size wr (wr.alloc (.cells #[.slice A1 n1 c1, .slice A2 n2 c2] 84)).drew := (balloc (Below.refl _ _) _).drew
      have HTi := Lib.hid (show Blk (wr.alloc (.cells #[.slice A1 n1 c1, .slice A2 n2 c2] 84)).drew wr.heap.size 84 #[.slice A1 n1 c1, .slice A2 n2 c2] from (Blk.new _ _ _).drew)
      refine wp_region_E (S := fun W => W.cell? ⟨G, 1, none⟩ = some (.slice AIx k cIx) ∧ W.cell? ⟨wr.heap.size, 0, none⟩ = some (.slice A1 n1 c1) ∧ W.cell? ⟨wr.heap.size, 1, none⟩ = some (.slice A2 n2 c2)) (E := fun j => [12].contains j) (by kernel_rfl) ?_
      generalize (wr.alloc (.cells #[.slice A1 n1 c1, .slice A2 n2 c2] 84)).drew = wi0 at hbi HTi ⊢
      have HBi := Lib.hid (Below.refl wi0.heap.size wi0)
      have cc1 := Lib.hid (fun W (hW : Below wi0.heap.size wi0 W) => cc1.out W (hbi.trans (hW.mono hbi.size)))
      have cc2 := Lib.hid (fun W (hW : Below wi0.heap.size wi0 W) => cc2.out W (hbi.trans (hW.mono hbi.size)))
      have HOw := Lib.hid (show wi0.ownsRow W0.heap.size 84 2 (.slice AIx k cIx) k (flatV ps) from by
        have := (HIt.out.below hbi).2.1
        rw [List.length_take, Nat.min_eq_left hk] at this
        exact this)
      have HNE := Lib.hid (show some G ≠ (Value.slice AIx k cIx).ownBlock from own_ne HOw.out hlo0)
      have HNT := Lib.hid (show some wr.heap.size ≠ (Value.slice AIx k cIx).ownBlock from fun e => by have := (HIt.out.2.1.lt _ e.symm).2; omega)
      have HSn := Lib.hid (fun (Wb Wc W w8 : World) (A6 A7 A8 : Option Addr) (c6 c7 c8 : Nat) hb1 ho1 hb2 ho2 hb3 hown hg hat => show ItP W0.heap.size (.slice A8 (k + 1) c8) w8 (ps ++ [(.slice A6 n1 c6, .slice A7 n2 c7)]) (b.its.take (k + 1)) from by
        have := ItP.snoc (x := b.its[k]'hlt) (wr := wi0) (Wb := Wb) (Wc := Wc) (W := W) (w8 := w8) (A6 := A6) (A7 := A7) (A8 := A8) (c6 := c6) (c7 := c7) (c8 := c8) (n1 := n1) (n2 := n2) (k := k) (HIt.out.below hbi) (by simp; omega) (Nat.le_trans hlo hbi.size) Hn1.out Hn2.out hb1 ho1 hb2 ho2 hb3 hown hg hat
        rw [List.take_succ_eq_append_getElem hlt]
        exact this)
      have HOn := Lib.hid (HOn.out.trans (Only.of_below hbi G))
      have HBl := Lib.hid (HBl.out.below hbi hGr)
      have hlo : W0.heap.size ≤ wi0.heap.size := Nat.le_trans hlo hbi.size
      have hGr : G < wi0.heap.size := Nat.lt_of_lt_of_le hGr hbi.size
      have Keep := Lib.hid (show ∀ W, Below wi0.heap.size wi0 W → W.cell? ⟨G, 1, none⟩ = some (.slice AIx k cIx) ∧ W.cell? ⟨wr.heap.size, 0, none⟩ = some (.slice A1 n1 c1) ∧ W.cell? ⟨wr.heap.size, 1, none⟩ = some (.slice A2 n2 c2) from fun W hW => ⟨(HBl.out.below hW hGr).cell 1, (HTi.out.below hW HTi.out.lt).cell 0, (HTi.out.below hW HTi.out.lt).cell 1⟩)
      generalize b.its[k].1.map (Value.int .i64) = o1 at cc1 HSn
      generalize b.its[k].2.map (Value.int .i64) = o2 at cc2 HSn
      have hS := Keep.out _ HBi.out
      clear d0 d1 y0 y1 y2 f0 f1 f2 m1 m2 hbi
      refine anyE_tx 0 18 [12] [12] (oi := ?oi1) (v := ?v1) ?hi1 ?hd1 (by kernel_rfl) (by kernel_rfl) (by kernel_rfl) (by kernel_rfl) ?hQ1 ?hy1 hS ?rest1
      case hi1 => simp only [List.getElem?_toArray, List.getElem?_cons_zero, List.getElem?_cons_succ]; rfl
      case hd1 => rfl
      case hQ1 => exact fun _ _ _ h => h
      case hy1 => (refine Or.inl ⟨by rfl, ?_⟩; intro w hSw; (try dsimp only at hSw); go_simp; try with_reducible rfl)
      simp only [List.setIfInBounds_toArray, List.set_cons_zero, List.set_cons_succ]
      refine anyE_tx 1 19 [12] [12] (oi := ?oi2) (v := ?v2) ?hi2 ?hd2 (by kernel_rfl) (by kernel_rfl) (by kernel_rfl) (by kernel_rfl) ?hQ2 ?hy2 hS ?rest2
      case hi2 => simp only [List.getElem?_toArray, List.getElem?_cons_zero, List.getElem?_cons_succ]; rfl
      case hd2 => rfl
      case hQ2 => exact fun _ _ _ h => h
      case hy2 => (refine Or.inl ⟨by rfl, ?_⟩; intro w hSw; (try dsimp only at hSw); go_simp; try with_reducible rfl)
      simp only [List.setIfInBounds_toArray, List.set_cons_zero, List.set_cons_succ]
      refine anyE_tx 2 20 [12] [12] (oi := ?oi3) (v := ?v3) ?hi3 ?hd3 (by kernel_rfl) (by kernel_rfl) (by kernel_rfl) (by kernel_rfl) ?hQ3 ?hy3 hS ?rest3
      case hi3 => simp only [List.getElem?_toArray, List.getElem?_cons_zero, List.getElem?_cons_succ]; rfl
      case hd3 => rfl
      case hQ3 => exact fun _ _ _ h => h
      case hy3 => (refine Or.inl ⟨by rfl, ?_⟩; intro w hSw; (try dsimp only at hSw); go_simp; try with_reducible rfl)
      simp only [List.setIfInBounds_toArray, List.set_cons_zero, List.set_cons_succ]
      refine anyE_tx 3 21 [12] [12] (oi := ?oi4) (v := ?v4) ?hi4 ?hd4 (by kernel_rfl) (by kernel_rfl) (by kernel_rfl) (by kernel_rfl) ?hQ4 ?hy4 hS ?rest4
      case hi4 => simp only [List.getElem?_toArray, List.getElem?_cons_zero, List.getElem?_cons_succ]; rfl
      case hd4 => rfl
      case hQ4 => exact fun _ _ _ h => h
      case hy4 => (refine Or.inl ⟨by rfl, ?_⟩; intro w hSw; (try dsimp only at hSw); go_simp; try with_reducible rfl)
      simp only [List.setIfInBounds_toArray, List.set_cons_zero, List.set_cons_succ]
      refine anyE_tx 5 23 [12] [12] (oi := ?oi5) (v := ?v5) ?hi5 ?hd5 (by kernel_rfl) (by kernel_rfl) (by kernel_rfl) (by kernel_rfl) ?hQ5 ?hy5 hS ?rest5
      case hi5 => simp only [List.getElem?_toArray, List.getElem?_cons_zero, List.getElem?_cons_succ]; rfl
      case hd5 => rfl
      case hQ5 => exact fun _ _ _ h => h
      case hy5 => (refine Or.inl ⟨by rfl, ?_⟩; intro w hSw; (try dsimp only at hSw); go_simp; try with_reducible rfl)
      simp only [List.setIfInBounds_toArray, List.set_cons_zero, List.set_cons_succ]
      refine anyE_tx 6 24 [12] [12] (oi := ?oi6) (v := ?v6) ?hi6 ?hd6 (by kernel_rfl) (by kernel_rfl) (by kernel_rfl) (by kernel_rfl) ?hQ6 ?hy6 hS ?rest6
      case hi6 => simp only [List.getElem?_toArray, List.getElem?_cons_zero, List.getElem?_cons_succ]; rfl
      case hd6 => rfl
      case hQ6 => exact fun _ _ _ h => h
      case hy6 => (refine Or.inl ⟨by rfl, ?_⟩; intro w hSw; (try dsimp only at hSw); go_simp; try with_reducible rfl)
      simp only [List.setIfInBounds_toArray, List.set_cons_zero, List.set_cons_succ]
      refine anyE_one (i := 4) (o := ?oi7) (by kernel_rfl) ?hi7 (fun K hK => ?step7)
      case hi7 => simp only [List.getElem?_toArray, List.getElem?_cons_zero, List.getElem?_cons_succ]; rfl
      go_simp
      refine (cc1.out _ HBi.out).mono ?_
      rintro e Wb ⟨v6, rfl, ho, hb⟩
      obtain ⟨A6, c6, rfl⟩ := own_form ho
      have HO6 := Lib.hid ho
      have HB6 := Lib.hid hb
      have HBb := Lib.hid (HBi.out.trans (hb.mono HBi.out.size))
      clear ho hb
      go_wp2_with fail
      refine hK.out _ _ (fun _ => Keep.out _ HBb.out) ?_
      clear hK K
      try simp only [Act.put, List.setIfInBounds_toArray, List.set_cons_zero, List.set_cons_succ]
      refine anyE_one (i := 7) (o := ?oi8) (by kernel_rfl) ?hi8 (fun K hK => ?step8)
      case hi8 => simp only [List.getElem?_toArray, List.getElem?_cons_zero, List.getElem?_cons_succ]; rfl
      go_simp
      refine (cc2.out _ HBb.out).mono ?_
      rintro e Wc ⟨v7, rfl, ho, hb⟩
      obtain ⟨A7, c7, rfl⟩ := own_form ho
      have HO7 := Lib.hid ho
      have HB7 := Lib.hid hb
      have HBc := Lib.hid (HBb.out.trans (hb.mono HBb.out.size))
      clear ho hb
      go_wp2_with fail
      refine hK.out _ _ (fun _ => Keep.out _ HBc.out) ?_
      clear hK K
      try simp only [Act.put, List.setIfInBounds_toArray, List.set_cons_zero, List.set_cons_succ]
      refine anyE_tx 8 26 [12] [12] (oi := ?oi9) (v := ?v9) ?hi9 ?hd9 (by kernel_rfl) (by kernel_rfl) (by kernel_rfl) (by kernel_rfl) ?hQ9 ?hy9 (Keep.out _ HBc.out) ?rest9
      case hi9 => simp only [List.getElem?_toArray, List.getElem?_cons_zero, List.getElem?_cons_succ]; rfl
      case hd9 => rfl
      case hQ9 => exact fun _ _ _ h => h
      case hy9 => (refine Or.inl ⟨by rfl, ?_⟩; intro w hSw; (try dsimp only at hSw); go_simp; try with_reducible rfl)
      simp only [List.setIfInBounds_toArray, List.set_cons_zero, List.set_cons_succ]
      refine anyE_one (i := 9) (o := ?oi10) (by kernel_rfl) ?hi10 (fun K hK => ?step10)
      case hi10 => simp only [List.getElem?_toArray, List.getElem?_cons_zero, List.getElem?_cons_succ]; rfl
      go_simp
      go_wp2_with fail
      refine hK.out _ _ (fun _ => Keep.out _ (balloc HBc.out _)) ?_
      clear hK K
      try simp only [Act.put, List.setIfInBounds_toArray, List.set_cons_zero, List.set_cons_succ]
      refine anyE_one (i := 10) (o := ?oi10x) (by kernel_rfl) ?hi10x (fun K hK => ?step10x)
      case hi10x => simp only [List.getElem?_toArray, List.getElem?_cons_zero, List.getElem?_cons_succ]; rfl
      have hbW := balloc HBc.out (.cells #[.slice A6 n1 c6, .slice A7 n2 c7] 84)
      refine step_app2 _ (by rfl) (.tmp 19) (.tmp 27) 22 (by rfl) W0.heap.size 84 j0 _ 2 48 Tryd.underlying22 hj hy0 hy1 hy2 (by rfl) (by decide) (.slice AIx k cIx) k (flatV ps) (by rfl)
        (own_below HOw.out hbW)
        ⟨_, 0, none⟩ 1 1 [.slice A6 n1 c6, .slice A7 n2 c7] (by rfl) (by rfl)
        (news_blk (t := 84) (cs := #[.slice A6 n1 c6, .slice A7 n2 c7]) (blk_new' rfl) _ rfl)
        (by simp [Value.oneCell']) (by omega) (by decide) (Nat.le_trans hlo hbW.size) (k + 1) rfl (flatV (ps ++ [(.slice A6 n1 c6, .slice A7 n2 c7)])) (flatV_snoc _ _ _).symm ?_
      intro A8 c8 w8 hown8 hg8 hlow8 hat8
      have HI8 := Lib.hid (HSn.out Wb Wc _ w8 A6 A7 A8 c6 c7 c8 HB6.out HO6.out HB7.out HO7.out (balloc (Below.refl _ _) _) hown8 hg8 hat8)
      have HB8 := Lib.hid (Blk.grown (HBl.out.below hbW hGr) hg8 HNE.out)
      have HT8 := Lib.hid (Blk.grown (HTi.out.below hbW HTi.out.lt) hg8 HNT.out)
      have hbw8 : Below W0.heap.size wi0 w8 := (Below.mono hbW hlo).grown hg8 (Nat.le_trans hlo hbW.size) (fun j hj => hlow8 j hj)
      have HO8 := Lib.hid (show Only G W0 w8 from ⟨hbw8.os.trans HOn.out.os, hbw8.tape.trans HOn.out.tape, hbw8.output.trans HOn.out.output, Nat.le_trans HOn.out.size hbw8.size, fun i hi hne => (hbw8.block i hi).trans (HOn.out.block i hi hne)⟩)
      have HS8 := Lib.hid (show w8.cell? ⟨G, 1, none⟩ = some (.slice AIx k cIx) ∧ w8.cell? ⟨wr.heap.size, 0, none⟩ = some (.slice A1 n1 c1) ∧ w8.cell? ⟨wr.heap.size, 1, none⟩ = some (.slice A2 n2 c2) from ⟨HB8.out.cell 1, HT8.out.cell 0, HT8.out.cell 1⟩)
      clear hown8 hg8 hlow8 hat8 hbW hbw8
      refine hK.out _ _ (fun _ => HS8.out) ?_
      clear hK K
      try simp only [Act.put, List.setIfInBounds_toArray, List.set_cons_zero, List.set_cons_succ]
      refine anyE_tx 11 29 [12] [12] (oi := ?oi11) (v := ?v11) ?hi11 ?hd11 (by kernel_rfl) (by kernel_rfl) (by kernel_rfl) (by kernel_rfl) ?hQ11 ?hy11 HS8.out ?rest11
      case hi11 => simp only [List.getElem?_toArray, List.getElem?_cons_zero, List.getElem?_cons_succ]; rfl
      case hd11 => rfl
      case hQ11 => exact fun _ _ _ h => h
      case hy11 => (refine Or.inl ⟨by rfl, ?_⟩; intro w hSw; (try dsimp only at hSw); go_simp; try with_reducible rfl)
      simp only [List.setIfInBounds_toArray, List.set_cons_zero, List.set_cons_succ]
      have q8 := HS8.out.1
      have q9 := HB8.out.frozen 1
      refine anyE_one (i := 12) (o := ?oi12) (by kernel_rfl) ?hi12 (fun K hK => ?step12)
      case hi12 => simp only [List.getElem?_toArray, List.getElem?_cons_zero, List.getElem?_cons_succ]; rfl
      go_simp
      refine hK.out _ _ (fun h => absurd h (by decide)) ?_
      clear hK K
      try simp only [Act.put, List.setIfInBounds_toArray, List.set_cons_zero, List.set_cons_succ]
      refine anyE_done (by kernel_rfl) ?_ _
      go_wp2_with fail
      go_roundw
      case rel => exact ⟨k + 1, A8, c8, _, by omega, by go_num, HI8.out.only ((Only.refl G w8).put 1 (.slice A8 (k + 1) c8)) hlo0, HO8.out.put 1 (.slice A8 (k + 1) c8), HB8.out.put 1 (.slice A8 (k + 1) c8)⟩
      case measure => simp [intOf]; omega
    · obtain rfl : k = b.its.length := by omega
      obtain ⟨w1, rfl⟩ : ∃ w1 : World, w1 = wr := ⟨_, rfl⟩
      have HItF := Lib.hid (show ItP W0.heap.size (.slice AIx b.its.length cIx) w1 ps b.its from by
        have := HIt.out
        rw [List.take_length] at this
        exact this)
      have HK0' := Lib.hid (show Blk w1 w.heap.size 25 #[.int .i64 b.p, .slice AI b.its.length cI, .slice AR b.rus.length cR] from (HOn.out.block _ HK0.out.lt (fun e => by injection e with e; have := HGe.out; omega)).trans HK0.out)
      have HK1' := Lib.hid (show Blk w1 (w.heap.size + 1) 25 #[.int .i64 0, .slice none 0 0, .slice none 0 0] from (HOn.out.block _ HK1.out.lt (fun e => by injection e with e; have := HGe.out; omega)).trans HK1.out)
      obtain ⟨x0, x1, x2, _⟩ := blk3 HK0'.out
      have hlow1 := hlow
      have Hlow1 := Lib.hid hlow
      have hG1 : G < w1.heap.size := hGr
      clear hlow HIt HOn hlo hlt
      go_wp2_with fail
      go_loopw [34] (fun i wr => ∃ (k : Nat) (ARx : Option Addr) (cRx : Nat) (qs : List (Value × Value)), k ≤ b.rus.length ∧ i = .int .i64 k ∧ Aside (RuP w1.heap.size (.slice ARx k cRx) wr qs (b.rus.take k)) ∧ Aside (Only G w1 wr) ∧ Aside (Blk wr G 25 #[.int .i64 b.p, .slice AIx b.its.length cIx, .slice ARx k cRx])) (fun i _ => b.rus.length - (intOf i).toNat)
      case atStart => exact ⟨0, none, 0, [], Nat.zero_le _, rfl, RuP.nil _ _, Only.refl _ _, HBl.out⟩
      case round =>
        clear HBl
        obtain ⟨k, ARx, cRx, qs, hk, rfl, hit, hon, hbl⟩ := hrel
        have HIt := Lib.hid hit.out
        have HOn := Lib.hid hon.out
        have HBl := Lib.hid hbl.out
        have hlow : Below w.heap.size w wr := Hlow1.out.trans (hon.out.below (by rw [HGe.out]; omega) Hlow1.out.size)
        have hlo : w1.heap.size ≤ wr.heap.size := hon.out.size
        have hGr : G < wr.heap.size := hbl.out.lt
        clear hit hon hbl
        by_cases hlt : k < b.rus.length
        · obtain ⟨bb, off, A1, c1, rfl, hbB, e0, e1, i1⟩ := H'.out k hlt
          have m1 := Hs.out.2.2.2 b.rus[k] (List.getElem_mem hlt)
          have d0 := (hlow.cell (p := ⟨bb, off + k * 2, none⟩) hbB).trans e0
          have d1 := (hlow.cell (p := ⟨bb, off + k * 2 + 1, none⟩) hbB).trans e1
          have cc1 := Lib.hid (fun W (hW : Below wr.heap.size wr W) => clone_any A1 c1 w.heap.size b.rus[k].1 W (by omega) (i1.below (hlow.trans (hW.mono hlow.size)) (Nat.le_refl _)))
          have hbw := hlow.size
          have hbbw : bb < wr.heap.size := by omega
          clear e0 e1 i1 hlow
          obtain ⟨n1, hn1⟩ : ∃ n1, n1 = b.rus[k].1.length := ⟨_, rfl⟩
          obtain ⟨z, hz⟩ : ∃ z, z = b.rus[k].2 := ⟨_, rfl⟩
          rw [← hn1] at d0 cc1
          rw [← hz] at d1
          have Hn1 := Lib.hid hn1
          have Hz := Lib.hid hz
          clear hn1 hz
          obtain ⟨y0, y1, y2, f0, f1, f2⟩ := blk3 HBl.out
          go_wp2_with fail
          have hbi : Below wr.heap.size wr (wr.alloc (.cells #[.slice A1 n1 c1, .int .i64 z] 42)).drew := (balloc (Below.refl _ _) _).drew
          have HTi := Lib.hid (show Blk (wr.alloc (.cells #[.slice A1 n1 c1, .int .i64 z] 42)).drew wr.heap.size 42 #[.slice A1 n1 c1, .int .i64 z] from (Blk.new _ _ _).drew)
          refine wp_region_E (S := fun W => W.cell? ⟨G, 2, none⟩ = some (.slice ARx k cRx) ∧ W.cell? ⟨wr.heap.size, 0, none⟩ = some (.slice A1 n1 c1) ∧ W.cell? ⟨wr.heap.size, 1, none⟩ = some (.int .i64 z)) (E := fun j => [11].contains j) (by kernel_rfl) ?_
          generalize (wr.alloc (.cells #[.slice A1 n1 c1, .int .i64 z] 42)).drew = wi0 at hbi HTi ⊢
          have HBi := Lib.hid (Below.refl wi0.heap.size wi0)
          have cc1 := Lib.hid (fun W (hW : Below wi0.heap.size wi0 W) => cc1.out W (hbi.trans (hW.mono hbi.size)))
          have HOw := Lib.hid (show wi0.ownsRow w1.heap.size 42 2 (.slice ARx k cRx) k (flatV qs) from by
            have := (HIt.out.below hbi).2.1
            rw [List.length_take, Nat.min_eq_left hk] at this
            exact this)
          have HNE := Lib.hid (show some G ≠ (Value.slice ARx k cRx).ownBlock from own_ne HOw.out hG1)
          have HNT := Lib.hid (show some wr.heap.size ≠ (Value.slice ARx k cRx).ownBlock from fun e => by have := (HIt.out.2.1.lt _ e.symm).2; omega)
          have HSn := Lib.hid (fun (Wb W w8 : World) (A6 A8 : Option Addr) (c6 c8 : Nat) hb1 ho1 hb3 (hown : w8.ownsRow w1.heap.size 42 2 (.slice A8 (k + 1) c8) (k + 1) (flatV (qs ++ [(.slice A6 n1 c6, .int .i64 z)]))) hg hat => show RuP w1.heap.size (.slice A8 (k + 1) c8) w8 (qs ++ [(.slice A6 n1 c6, .int .i64 z)]) (b.rus.take (k + 1)) from by
            have := RuP.snoc (x := b.rus[k]'hlt) (wr := wi0) (Wb := Wb) (W := W) (w8 := w8) (A6 := A6) (A8 := A8) (c6 := c6) (c8 := c8) (n1 := n1) (k := k) (HIt.out.below hbi) (by simp; omega) (Nat.le_trans hlo hbi.size) Hn1.out hb1 ho1 hb3 (by rw [← Hz.out]; exact hown) hg hat
            rw [List.take_succ_eq_append_getElem hlt, Hz.out]
            exact this)
          have HOn := Lib.hid (HOn.out.trans (Only.of_below hbi G))
          have HBl := Lib.hid (HBl.out.below hbi hGr)
          have hlo : w1.heap.size ≤ wi0.heap.size := Nat.le_trans hlo hbi.size
          have hGr : G < wi0.heap.size := Nat.lt_of_lt_of_le hGr hbi.size
          have Keep := Lib.hid (show ∀ W, Below wi0.heap.size wi0 W → W.cell? ⟨G, 2, none⟩ = some (.slice ARx k cRx) ∧ W.cell? ⟨wr.heap.size, 0, none⟩ = some (.slice A1 n1 c1) ∧ W.cell? ⟨wr.heap.size, 1, none⟩ = some (.int .i64 z) from fun W hW => ⟨(HBl.out.below hW hGr).cell 2, (HTi.out.below hW HTi.out.lt).cell 0, (HTi.out.below hW HTi.out.lt).cell 1⟩)
          generalize b.rus[k].1.map (Value.int .i64) = o1 at cc1 HSn
          have hS := Keep.out _ HBi.out
          clear d0 d1 y0 y1 y2 f0 f1 f2 m1 hbi
          refine anyE_tx 0 38 [11] [11] (oi := ?oi13) (v := ?v13) ?hi13 ?hd13 (by kernel_rfl) (by kernel_rfl) (by kernel_rfl) (by kernel_rfl) ?hQ13 ?hy13 hS ?rest13
          case hi13 => simp only [List.getElem?_toArray, List.getElem?_cons_zero, List.getElem?_cons_succ]; rfl
          case hd13 => rfl
          case hQ13 => exact fun _ _ _ h => h
          case hy13 => (refine Or.inl ⟨by rfl, ?_⟩; intro w hSw; (try dsimp only at hSw); go_simp; try with_reducible rfl)
          simp only [List.setIfInBounds_toArray, List.set_cons_zero, List.set_cons_succ]
          refine anyE_tx 1 39 [11] [11] (oi := ?oi14) (v := ?v14) ?hi14 ?hd14 (by kernel_rfl) (by kernel_rfl) (by kernel_rfl) (by kernel_rfl) ?hQ14 ?hy14 hS ?rest14
          case hi14 => simp only [List.getElem?_toArray, List.getElem?_cons_zero, List.getElem?_cons_succ]; rfl
          case hd14 => rfl
          case hQ14 => exact fun _ _ _ h => h
          case hy14 => (refine Or.inl ⟨by rfl, ?_⟩; intro w hSw; (try dsimp only at hSw); go_simp; try with_reducible rfl)
          simp only [List.setIfInBounds_toArray, List.set_cons_zero, List.set_cons_succ]
          refine anyE_tx 2 40 [11] [11] (oi := ?oi15) (v := ?v15) ?hi15 ?hd15 (by kernel_rfl) (by kernel_rfl) (by kernel_rfl) (by kernel_rfl) ?hQ15 ?hy15 hS ?rest15
          case hi15 => simp only [List.getElem?_toArray, List.getElem?_cons_zero, List.getElem?_cons_succ]; rfl
          case hd15 => rfl
          case hQ15 => exact fun _ _ _ h => h
          case hy15 => (refine Or.inl ⟨by rfl, ?_⟩; intro w hSw; (try dsimp only at hSw); go_simp; try with_reducible rfl)
          simp only [List.setIfInBounds_toArray, List.set_cons_zero, List.set_cons_succ]
          refine anyE_tx 3 41 [11] [11] (oi := ?oi16) (v := ?v16) ?hi16 ?hd16 (by kernel_rfl) (by kernel_rfl) (by kernel_rfl) (by kernel_rfl) ?hQ16 ?hy16 hS ?rest16
          case hi16 => simp only [List.getElem?_toArray, List.getElem?_cons_zero, List.getElem?_cons_succ]; rfl
          case hd16 => rfl
          case hQ16 => exact fun _ _ _ h => h
          case hy16 => (refine Or.inl ⟨by rfl, ?_⟩; intro w hSw; (try dsimp only at hSw); go_simp; try with_reducible rfl)
          simp only [List.setIfInBounds_toArray, List.set_cons_zero, List.set_cons_succ]
          refine anyE_tx 5 43 [11] [11] (oi := ?oi17) (v := ?v17) ?hi17 ?hd17 (by kernel_rfl) (by kernel_rfl) (by kernel_rfl) (by kernel_rfl) ?hQ17 ?hy17 hS ?rest17
          case hi17 => simp only [List.getElem?_toArray, List.getElem?_cons_zero, List.getElem?_cons_succ]; rfl
          case hd17 => rfl
          case hQ17 => exact fun _ _ _ h => h
          case hy17 => (refine Or.inl ⟨by rfl, ?_⟩; intro w hSw; (try dsimp only at hSw); go_simp; try with_reducible rfl)
          simp only [List.setIfInBounds_toArray, List.set_cons_zero, List.set_cons_succ]
          refine anyE_tx 6 44 [11] [11] (oi := ?oi18) (v := ?v18) ?hi18 ?hd18 (by kernel_rfl) (by kernel_rfl) (by kernel_rfl) (by kernel_rfl) ?hQ18 ?hy18 hS ?rest18
          case hi18 => simp only [List.getElem?_toArray, List.getElem?_cons_zero, List.getElem?_cons_succ]; rfl
          case hd18 => rfl
          case hQ18 => exact fun _ _ _ h => h
          case hy18 => (refine Or.inl ⟨by rfl, ?_⟩; intro w hSw; (try dsimp only at hSw); go_simp; try with_reducible rfl)
          simp only [List.setIfInBounds_toArray, List.set_cons_zero, List.set_cons_succ]
          refine anyE_one (i := 4) (o := ?oi19) (by kernel_rfl) ?hi19 (fun K hK => ?step19)
          case hi19 => simp only [List.getElem?_toArray, List.getElem?_cons_zero, List.getElem?_cons_succ]; rfl
          go_simp
          refine (cc1.out _ HBi.out).mono ?_
          rintro e Wb ⟨v6, rfl, ho, hb⟩
          obtain ⟨A6, c6, rfl⟩ := own_form ho
          have HO6 := Lib.hid ho
          have HB6 := Lib.hid hb
          have HBb := Lib.hid (HBi.out.trans (hb.mono HBi.out.size))
          clear ho hb
          go_wp2_with fail
          refine hK.out _ _ (fun _ => Keep.out _ HBb.out) ?_
          clear hK K
          try simp only [Act.put, List.setIfInBounds_toArray, List.set_cons_zero, List.set_cons_succ]
          refine anyE_tx 7 45 [11] [11] (oi := ?oi20) (v := ?v20) ?hi20 ?hd20 (by kernel_rfl) (by kernel_rfl) (by kernel_rfl) (by kernel_rfl) ?hQ20 ?hy20 (Keep.out _ HBb.out) ?rest20
          case hi20 => simp only [List.getElem?_toArray, List.getElem?_cons_zero, List.getElem?_cons_succ]; rfl
          case hd20 => rfl
          case hQ20 => exact fun _ _ _ h => h
          case hy20 => (refine Or.inl ⟨by rfl, ?_⟩; intro w hSw; (try dsimp only at hSw); go_simp; try with_reducible rfl)
          simp only [List.setIfInBounds_toArray, List.set_cons_zero, List.set_cons_succ]
          refine anyE_one (i := 8) (o := ?oi21) (by kernel_rfl) ?hi21 (fun K hK => ?step21)
          case hi21 => simp only [List.getElem?_toArray, List.getElem?_cons_zero, List.getElem?_cons_succ]; rfl
          go_simp
          go_wp2_with fail
          refine hK.out _ _ (fun _ => Keep.out _ (balloc HBb.out _)) ?_
          clear hK K
          try simp only [Act.put, List.setIfInBounds_toArray, List.set_cons_zero, List.set_cons_succ]
          refine anyE_one (i := 9) (o := ?oi9y) (by kernel_rfl) ?hi9y (fun K hK => ?step9y)
          case hi9y => simp only [List.getElem?_toArray, List.getElem?_cons_zero, List.getElem?_cons_succ]; rfl
          have hbW := balloc HBb.out (.cells #[.slice A6 n1 c6, .int .i64 z] 42)
          refine step_app2 _ (by rfl) (.tmp 39) (.tmp 46) 23 (by rfl) w1.heap.size 42 i0 _ 2 32 Tryd.underlying23 hi hz0 hz1 hz2 (by rfl) (by decide) (.slice ARx k cRx) k (flatV qs) (by rfl)
            (own_below HOw.out hbW)
            ⟨_, 0, none⟩ 1 1 [.slice A6 n1 c6, .int .i64 z] (by rfl) (by rfl)
            (news_blk (t := 42) (cs := #[.slice A6 n1 c6, .int .i64 z]) (blk_new' rfl) _ rfl)
            (by simp [Value.oneCell']) (by omega) (by decide) (Nat.le_trans hlo hbW.size) (k + 1) rfl (flatV (qs ++ [(.slice A6 n1 c6, .int .i64 z)])) (flatV_snoc _ _ _).symm ?_
          intro A8 c8 w8 hown8 hg8 hlow8 hat8
          have HI8 := Lib.hid (HSn.out Wb _ w8 A6 A8 c6 c8 HB6.out HO6.out (balloc (Below.refl _ _) _) hown8 hg8 hat8)
          have HB8 := Lib.hid (Blk.grown (HBl.out.below hbW hGr) hg8 HNE.out)
          have HT8 := Lib.hid (Blk.grown (HTi.out.below hbW HTi.out.lt) hg8 HNT.out)
          have hbw8 : Below w1.heap.size wi0 w8 := (Below.mono hbW hlo).grown hg8 (Nat.le_trans hlo hbW.size) (fun j hj => hlow8 j hj)
          have HO8 := Lib.hid (show Only G w1 w8 from ⟨hbw8.os.trans HOn.out.os, hbw8.tape.trans HOn.out.tape, hbw8.output.trans HOn.out.output, Nat.le_trans HOn.out.size hbw8.size, fun i hi hne => (hbw8.block i hi).trans (HOn.out.block i hi hne)⟩)
          have HS8 := Lib.hid (show w8.cell? ⟨G, 2, none⟩ = some (.slice ARx k cRx) ∧ w8.cell? ⟨wr.heap.size, 0, none⟩ = some (.slice A1 n1 c1) ∧ w8.cell? ⟨wr.heap.size, 1, none⟩ = some (.int .i64 z) from ⟨HB8.out.cell 2, HT8.out.cell 0, HT8.out.cell 1⟩)
          clear hown8 hg8 hlow8 hat8 hbW hbw8
          refine hK.out _ _ (fun _ => HS8.out) ?_
          clear hK K
          try simp only [Act.put, List.setIfInBounds_toArray, List.set_cons_zero, List.set_cons_succ]
          refine anyE_tx 10 48 [11] [11] (oi := ?oi22) (v := ?v22) ?hi22 ?hd22 (by kernel_rfl) (by kernel_rfl) (by kernel_rfl) (by kernel_rfl) ?hQ22 ?hy22 HS8.out ?rest22
          case hi22 => simp only [List.getElem?_toArray, List.getElem?_cons_zero, List.getElem?_cons_succ]; rfl
          case hd22 => rfl
          case hQ22 => exact fun _ _ _ h => h
          case hy22 => (refine Or.inl ⟨by rfl, ?_⟩; intro w hSw; (try dsimp only at hSw); go_simp; try with_reducible rfl)
          simp only [List.setIfInBounds_toArray, List.set_cons_zero, List.set_cons_succ]
          have q8 := HS8.out.1
          have q9 := HB8.out.frozen 2
          refine anyE_one (i := 11) (o := ?oi23) (by kernel_rfl) ?hi23 (fun K hK => ?step23)
          case hi23 => simp only [List.getElem?_toArray, List.getElem?_cons_zero, List.getElem?_cons_succ]; rfl
          go_simp
          refine hK.out _ _ (fun h => absurd h (by decide)) ?_
          clear hK K
          try simp only [Act.put, List.setIfInBounds_toArray, List.set_cons_zero, List.set_cons_succ]
          refine anyE_done (by kernel_rfl) ?_ _
          go_wp2_with fail
          go_roundw
          case rel => exact ⟨k + 1, A8, c8, _, by omega, by go_num, HI8.out.only ((Only.refl G w8).put 2 (.slice A8 (k + 1) c8)) hG1, HO8.out.put 2 (.slice A8 (k + 1) c8), HB8.out.put 2 (.slice A8 (k + 1) c8)⟩
          case measure => simp [intOf]; omega
        · obtain rfl : k = b.rus.length := by omega
          have HRu := Lib.hid (show RuP w1.heap.size (.slice ARx b.rus.length cRx) wr qs b.rus from by
            have := HIt.out
            rw [List.take_length] at this
            exact this)
          have hne1 : w.heap.size + 1 ≠ G := by have := HGe.out; omega
          have HR1 := Lib.hid (show Blk wr (w.heap.size + 1) 25 #[.int .i64 0, .slice none 0 0, .slice none 0 0] from (HOn.out.block _ HK1'.out.lt (fun e => by injection e with e; omega)).trans HK1'.out)
          obtain ⟨y0, y1, y2, f0, f1, f2⟩ := blk3 HBl.out
          obtain ⟨t0, t1, t2, g0, g1, g2⟩ := blk3 HR1.out
          have hlR : w.heap.size + 1 < wr.heap.size := HR1.out.lt
          have HL1 := Lib.hid (show w.heap.size + 1 < W0.heap.size from HK1.out.lt)
          have HL2 := Lib.hid (show w.heap.size + 1 < w1.heap.size from HK1'.out.lt)
          have HLow := Lib.hid hlow
          clear hlow
          go_wp2_with fail
          have HP := Lib.hid ((((Only.refl (w.heap.size + 1) wr).put 0 (.int .i64 b.p)).put 1 (.slice AIx b.its.length cIx)).put 2 (.slice ARx b.rus.length cRx))
          have HB2 := Lib.hid (((HR1.out.put 0 (.int .i64 b.p)).put 1 (.slice AIx b.its.length cIx)).put 2 (.slice ARx b.rus.length cRx))
          have HD := Lib.hid (below_put' (below_put' (below_put' HLow.out (Nat.le_succ w.heap.size) 0 (.int .i64 b.p)) (Nat.le_succ w.heap.size) 1 (.slice AIx b.its.length cIx)) (Nat.le_succ w.heap.size) 2 (.slice ARx b.rus.length cRx))
          refine bodyPost_ret (results_cell_row rfl _ _ (w.heap.size + 1) 25 _ (0, 0) _ rfl HB2.out Tryd.underlying25 rfl (by kernel_rfl)) rfl ⟨AIx, ARx, cIx, cRx, ps, qs, w1.heap.size, rfl, ?_, ?_, ?_, ?_, ?_, HD.out⟩
          · exact (((HItF.out.only HOn.out hlo0).only HP.out HL1.out).base HB0.out.size)
          · exact HItF.out.upTo
          · exact Hlow1.out.size
          · exact Nat.le_trans hlo HP.out.size
          · exact HRu.out.only HP.out HL2.out
end Go.Proofs.YtgoojcjfhghmgaaDoor


namespace Go.Proofs.YtgoojcjfhghmgaaDoor
open Go.RowKit

theorem keep2 {w0 W : World} {n : Nat} {c0 c1 : Value} (hlt : n < w0.heap.size) (h : w0.cell? ⟨n, 0, none⟩ = some c0 ∧ w0.cell? ⟨n, 1, none⟩ = some c1) (hb : Below w0.heap.size w0 W) :
    W.cell? ⟨n, 0, none⟩ = some c0 ∧ W.cell? ⟨n, 1, none⟩ = some c1 ∧ Below w0.heap.size w0 W :=
  ⟨(hb.cell (p := ⟨n, 0, none⟩) hlt).trans h.1, (hb.cell (p := ⟨n, 1, none⟩) hlt).trans h.2, hb⟩
/-- Whether a rule follows. -/
def FlR (l : List Ru) (p : Nat) (x : Ru) (r : Bool) : Prop := ∃ y, Cl l (mk (natL x.1)) allW y ∧ y < 2 ^ p ∧ r = y.testBit x.2.toNat
theorem FlR.unique {l : List Ru} {p : Nat} {x : Ru} {r r' : Bool} (h : FlR l p x r) (h' : FlR l p x r') : r = r' := by
  obtain ⟨y, h1, _, rfl⟩ := h
  obtain ⟨z, g1, _, rfl⟩ := h'
  rw [h1.unique g1]
def FlV (l : List Ru) (p : Nat) (x : Ru) (v : Value) : Prop := ∃ r, v = .bool r ∧ FlR l p x r

set_option maxRecDepth 100000 in
set_option maxHeartbeats 4000000 in
theorem follows_any (A AR : Option Addr) (c cR B p : Nat) (l : List Ru) (x : Ru) (w : World) (hB : B ≤ w.heap.size) (h : RusAt B w AR l) (hi : IntsAt B w A x.1) (hs : l.length ≤ 60) (hl : ∀ x ∈ l, x.1.length ≤ 40) (hm : x.1.length ≤ 60) (hr : ∀ x ∈ l, ruOk p x = true) (hx : ruOk p x = true) (hp : p ≤ 10) :
    Calls Tryd.prog 78 #[.slice AR l.length cR, .agg #[.slice A x.1.length c, .int .i64 x.2]] w fun e w' => ∃ v, e = .returned v ∧ FlV l p x v ∧ Below w.heap.size w w' := by
  obtain ⟨ps, t0⟩ := x
  obtain ⟨hset, ht0, htp⟩ := ruOk_mem hx
  obtain ⟨t, rfl⟩ := Int.eq_ofNat_of_zero_le ht0
  simp only at hi hm hset ht0 htp ⊢
  have htn : t < p := by omega
  have hb0 := Blk.new w 42 #[.slice A ps.length c, .int .i64 t]
  have hw0 : Below w.heap.size w (w.alloc (.cells #[.slice A ps.length c, .int .i64 t] 42)) := (Below.refl _ _).alloc (Nat.le_refl _) _
  obtain ⟨W0, hW0⟩ : ∃ W0, W0 = w.alloc (.cells #[.slice A ps.length c, .int .i64 t] 42) := ⟨_, rfl⟩
  rw [← hW0] at hb0 hw0
  have hlt : w.heap.size < W0.heap.size := hb0.lt
  have hR := (h.below (Below.refl _ _) hB).below hw0 (Nat.le_of_lt hlt)
  have hP := (hi.below (Below.refl _ _) hB).below hw0 (Nat.le_of_lt hlt)
  have hps := isS_mem hset
  have hin : intL (natL ps) = ps := int_nat fun x hx => (hps x hx).1
  have hlp := natL_lt hps
  have cm0 := fun W (hW : Below W0.heap.size W0 W) => mask_any A c W0.heap.size (natL ps) W (by rw [hin]; exact hP.below hW (Nat.le_refl _)) (by rw [natL_length]; omega) (fun x hx => by have := hlp x hx; omega)
  rw [natL_length] at cm0
  have cm := Lib.hid cm0
  have cc := Lib.hid (fun W (hW : Below W0.heap.size W0 W) => closure_any AR cR W0.heap.size l p (mk (natL ps)) (-1) allW W hW.size (hR.below hW (Nat.le_refl _)) hs hl hr hp (mk_lt hlp) minus_one)
  have kt := fun y (hy : y < 2 ^ p) => bit_test (m := y) (i := t) (Nat.lt_of_lt_of_le hy (Nat.pow_le_pow_right (by decide) (by omega)))
  have Kt := Lib.hid kt
  have HF := Lib.hid (fun y (h1 : Cl l (mk (natL ps)) allW y) (h2 : y < 2 ^ p) => show FlV l p (ps, (t : Int)) (.bool (y.testBit t)) from ⟨_, rfl, y, h1, h2, by simp⟩)
  have HB := Lib.hid hb0
  have Hw := Lib.hid hw0
  clear h hi hs hl hm hr hx hset ht0 htp hb0 hw0 hR hP hps hin hlp cm0 kt hB
  generalize mk (natL ps) = m at cm cc HF
  have tok := Lib.hid (Nat.le_refl 0)
  go_enter Tryd.func78, Tryd.ntmps78
  go_wp2_with fail
  rw [← hW0]
  clear hW0
  go_region_held3 (fun W => W.cell? ⟨w.heap.size, 0, none⟩ = some (.slice A ps.length c) ∧ W.cell? ⟨w.heap.size, 1, none⟩ = some (.int .i64 t) ∧ Below W0.heap.size W0 W)
    ((refine keep2 hlt ⟨HB.out.cell 0, HB.out.cell 1⟩ ?_; repeat (first | exact Below.refl _ _ | assumption | refine Below.drew ?_)))
    (first
      | (go_at_call 76; have tk := tok; clear tok; refine (cm.out _ (by repeat (first | exact Below.refl _ _ | assumption | refine Below.drew ?_))).mono ?_; rintro e w5 ⟨rfl, rfl⟩; have tok2 := tk)
      | (go_at_call 75; have tk := tok2; clear tok2; refine (cc.out _ (by repeat (first | exact Below.refl _ _ | assumption | refine Below.drew ?_))).mono ?_; rintro e w6 ⟨y, rfl, hcl, hyl, hd6⟩; have kty := Kt.out y hyl; have hb6 : Below W0.heap.size W0 w6 := Below.trans (by repeat (first | exact Below.refl _ _ | assumption | refine Below.drew ?_)) (hd6.mono (Below.size (w := W0) (B := W0.heap.size) (by repeat (first | exact Below.refl _ _ | assumption | refine Below.drew ?_)))); have q0 := (hb6.cell (p := ⟨w.heap.size, 0, none⟩) hlt).trans (HB.out.cell 0); have q1 := (hb6.cell (p := ⟨w.heap.size, 1, none⟩) hlt).trans (HB.out.cell 1)))
  all_goals
    have HB6 := Lib.hid (Hw.out.trans (hb6.mono Hw.out.size))
    have HF6 := Lib.hid (HF.out y hcl hyl)
    clear hcl hyl hb6 kty
    generalize y.testBit t = r at HF6 ⊢
    cases r
    all_goals
      go_wp2_with fail
      go_ret
      exact ⟨_, rfl, HF6.out, HB6.out⟩

/-- The error of a book and a rule. -/
def fwE (b : Bk) (x : Ru) : Int := if vlR b = 0 then (if ruOk b.p x then 0 else 1) else vlR b
def FwB (b : Bk) (x : Ru) (r : Bool) : Prop := if fwE b x = 0 then FlR b.rus b.p.toNat x r else r = false
def FwV (b : Bk) (x : Ru) (v : Value) : Prop := ∃ r, v = .bool r ∧ FwB b x r
theorem FwB.unique {b : Bk} {x : Ru} {r r' : Bool} (h : FwB b x r) (h' : FwB b x r') : r = r' := by
  unfold FwB at h h'
  split at h
  · rename_i h0; rw [if_pos h0] at h'; exact h.unique h'
  · rename_i h0; rw [if_neg h0] at h'; rw [h, h']
theorem keep5 {w0 W : World} {n n' : Nat} {c0 c1 c2 e0 e1 : Value} (hlt : n < w0.heap.size) (hlt' : n' < w0.heap.size) (h : w0.cell? ⟨n, 0, none⟩ = some c0 ∧ w0.cell? ⟨n, 1, none⟩ = some c1 ∧ w0.cell? ⟨n, 2, none⟩ = some c2) (h' : w0.cell? ⟨n', 0, none⟩ = some e0 ∧ w0.cell? ⟨n', 1, none⟩ = some e1) (hb : Below w0.heap.size w0 W) :
    (W.cell? ⟨n, 0, none⟩ = some c0 ∧ W.cell? ⟨n, 1, none⟩ = some c1 ∧ W.cell? ⟨n, 2, none⟩ = some c2) ∧ (W.cell? ⟨n', 0, none⟩ = some e0 ∧ W.cell? ⟨n', 1, none⟩ = some e1) ∧ Below w0.heap.size w0 W :=
  ⟨⟨(hb.cell (p := ⟨n, 0, none⟩) hlt).trans h.1, (hb.cell (p := ⟨n, 1, none⟩) hlt).trans h.2.1, (hb.cell (p := ⟨n, 2, none⟩) hlt).trans h.2.2⟩, ⟨(hb.cell (p := ⟨n', 0, none⟩) hlt').trans h'.1, (hb.cell (p := ⟨n', 1, none⟩) hlt').trans h'.2⟩, hb⟩

set_option maxRecDepth 100000 in
set_option maxHeartbeats 4000000 in
theorem Follows_any (AI AR : Option Addr) (cI cR : Nat) (A : Option Addr) (c B : Nat) (b : Bk) (x : Ru) (w : World) (hB : B ≤ w.heap.size) (h : ItsAt B w AI b.its) (h' : RusAt B w AR b.rus) (hi : IntsAt B w A x.1) (hs : Short b) (hm : x.1.length ≤ 60) :
    Calls Tryd.prog 33 #[.agg #[.int .i64 b.p, .slice AI b.its.length cI, .slice AR b.rus.length cR], .agg #[.slice A x.1.length c, .int .i64 x.2]] w fun e w' => ∃ v, e = .returned (.tuple #[v, .int .i64 (fwE b x)]) ∧ FwV b x v ∧ Below w.heap.size w w' := by
  obtain ⟨W0, hW0⟩ : ∃ W0, W0 = (w.alloc (.cells #[.int .i64 b.p, .slice AI b.its.length cI, .slice AR b.rus.length cR] 25)).alloc (.cells #[.slice A x.1.length c, .int .i64 x.2] 42) := ⟨_, rfl⟩
  have hw0 : Below w.heap.size w W0 := by rw [hW0]; exact balloc (balloc (Below.refl _ _) _) _
  have hb0 : Blk W0 w.heap.size 25 #[.int .i64 b.p, .slice AI b.its.length cI, .slice AR b.rus.length cR] := by rw [hW0]; exact (Blk.new w 25 _).alloc _
  have hb1 : Blk W0 (w.heap.size + 1) 42 #[.slice A x.1.length c, .int .i64 x.2] := by rw [hW0]; exact blk_new' (by simp only [World.size_alloc])
  have hlt : w.heap.size < W0.heap.size := hb0.lt
  have hI := (h.below (Below.refl _ _) hB).below hw0 (Nat.le_of_lt hlt)
  have hR := (h'.below (Below.refl _ _) hB).below hw0 (Nat.le_of_lt hlt)
  have hP := (hi.below (Below.refl _ _) hB).below hw0 (Nat.le_of_lt hlt)
  have cv := Lib.hid (Validate_any AI AR cI cR _ b W0 (Nat.le_refl _) hI hR hs)
  have cs := Lib.hid (fun W (hW : Below W0.heap.size W0 W) => isRule_any A c W0.heap.size x b.p W hW.size (hP.below hW (Nat.le_refl _)) (by omega))
  have HE := Lib.hid (show fwE b x = if vlR b = 0 then (if ruOk b.p x then 0 else 1) else vlR b from rfl)
  have HR := Lib.hid (fun r => show FwB b x r ↔ (if fwE b x = 0 then FlR b.rus b.p.toNat x r else r = false) from Iff.rfl)
  have HX := Lib.hid (fun W (hW : Below W0.heap.size W0 W) => And.intro (blk3 (hb0.below hW hlt)) (blk2 (hb1.below hW hb1.lt)))
  have Hw := Lib.hid hw0
  have tok := Lib.hid (Nat.le_refl 0)
  by_cases h0 : vlR b = 0
  · have hv := vl_zero h0
    have hp0 := hv.p0
    have hp1 := hv.p1
    rw [h0] at cv
    cases hset : ruOk b.p x with
    | false =>
      have e1 : fwE b x = 1 := by rw [HE.out, if_pos h0, hset]; rfl
      have Hn := Lib.hid (show FwV b x (.bool false) from ⟨_, rfl, (HR.out false).2 (by rw [if_neg (by omega)])⟩)
      rw [hset] at cs
      rw [e1]
      clear h h' hi hs hI hR hP hb0 hb1 hw0 hv HE HR hset h0 e1 hB
      go_enter Tryd.func33, Tryd.ntmps33
      go_wp2_with (first
        | (have tk := tok; clear tok; go_at_call 20; rw [← hW0]; clear hW0; refine cv.out.mono ?_; rintro e w1 ⟨rfl, hd⟩; have hd1 := hd; have tok2 := tk; obtain ⟨⟨z0, z1, z2, _⟩, y0, y1, _⟩ := HX.out _ hd1; clear hd)
        | (have tk := tok2; clear tok2; go_at_call 60; refine (cs.out _ hd1).mono ?_; rintro e w2 ⟨rfl, hd2⟩; have hb2 := hd1.trans (hd2.mono hd1.size)))
      go_ret2
      exact ⟨_, rfl, Hn.out, Hw.out.trans (hb2.mono Hw.out.size)⟩
    | true =>
      have e1 : fwE b x = 0 := by rw [HE.out, if_pos h0, hset]; rfl
      have Hn := Lib.hid (fun v (h1 : FlV b.rus b.p.toNat x v) => show FwV b x v from by obtain ⟨r, e, h2⟩ := h1; exact ⟨r, e, (HR.out r).2 (by rw [if_pos e1]; exact h2)⟩)
      have cf := Lib.hid (fun W (hW : Below W0.heap.size W0 W) => follows_any A AR c cR W0.heap.size b.p.toNat b.rus x W hW.size (hR.below hW (Nat.le_refl _)) (hP.below hW (Nat.le_refl _)) hs.2.1 hs.2.2.2 hm (fun x hx => by have := hv.rules x hx; rwa [Int.toNat_of_nonneg hp0]) (by rwa [Int.toNat_of_nonneg hp0]) (by omega))
      rw [hset] at cs
      rw [e1]
      clear h h' hi hs hI hR hP hb0 hb1 hw0 hv HE HR hset h0 e1 hB
      go_enter Tryd.func33, Tryd.ntmps33
      go_wp2_with (first
        | (have tk := tok; clear tok; go_at_call 20; rw [← hW0]; clear hW0; refine cv.out.mono ?_; rintro e w1 ⟨rfl, hd⟩; have hd1 := hd; have tok2 := tk; obtain ⟨⟨z0, z1, z2, _⟩, y0, y1, _⟩ := HX.out _ hd1; clear hd)
        | (have tk := tok2; clear tok2; go_at_call 60; refine (cs.out _ hd1).mono ?_; rintro e w2 ⟨rfl, hd2⟩; have hb2 := hd1.trans (hd2.mono hd1.size); have tok3 := tk; clear z0 z1 z2 y0 y1; obtain ⟨⟨z0, z1, z2, _⟩, y0, y1, _⟩ := HX.out _ hb2)
        | (have tk := tok3; clear tok3; go_at_call 78; refine (cf.out _ hb2).mono ?_; rintro e w3 ⟨v3, rfl, hr3, hd3⟩; have hb3 := hb2.trans (hd3.mono hb2.size)))
      go_ret2
      exact ⟨v3, rfl, Hn.out v3 hr3, Hw.out.trans (hb3.mono Hw.out.size)⟩
  · have e1 : fwE b x = vlR b := by rw [HE.out, if_neg h0]
    have Hn := Lib.hid (show FwV b x (.bool false) from ⟨_, rfl, (HR.out false).2 (by rw [if_neg (by rw [e1]; exact h0)])⟩)
    have he2 : (vlR b != 0) = true := by simpa using h0
    rw [e1]
    clear h h' hi hs hI hR hP hb0 hb1 hw0 HE HR h0 e1 hB
    generalize vlR b = e0 at *
    go_enter Tryd.func33, Tryd.ntmps33
    go_wp2_with (have tk := tok; clear tok; go_at_call 20; rw [← hW0]; clear hW0; refine cv.out.mono ?_; rintro e w1 ⟨rfl, hd⟩; obtain ⟨⟨z0, z1, z2, _⟩, y0, y1, _⟩ := HX.out _ hd)
    go_ret2
    exact ⟨_, rfl, Hn.out, Hw.out.trans (hd.mono Hw.out.size)⟩
end Go.Proofs.YtgoojcjfhghmgaaDoor


set_option linter.unusedSimpArgs false
set_option linter.unusedVariables false
namespace Go.Proofs.YtgoojcjfhghmgaaDoor
open Go Go.RowKit

/-- What is left of rules if the last k ones are looked at, from the end. -/
def RedR (p : Nat) : Nat → List Ru → List Ru → Prop
  | 0, l, m => m = l
  | k + 1, l, m => ∃ r, FlR (l.eraseIdx k) p (l[k]?.getD ([], 0)) r ∧ RedR p k (if r = true then l.eraseIdx k else l) m
theorem RedR.unique {p : Nat} : ∀ {k : Nat} {l m m' : List Ru}, RedR p k l m → RedR p k l m' → m = m'
  | 0, _, _, _, h, h' => h.trans h'.symm
  | k + 1, _, _, _, ⟨r, h1, h2⟩, ⟨r', h3, h4⟩ => by
    obtain rfl := h1.unique h3
    exact h2.unique h4
theorem RedR.sub {p : Nat} : ∀ {k : Nat} {l m : List Ru}, RedR p k l m → m.Sublist l
  | 0, _, _, h => by
    have e : _ = _ := h
    rw [e]; exact List.Sublist.refl _
  | k + 1, l, _, ⟨r, _, h⟩ => by
    refine h.sub.trans ?_
    cases r
    · exact List.Sublist.refl _
    · exact List.eraseIdx_sublist l k
theorem mem_erase_or {l : List Ru} {k : Nat} (hk : k < l.length) {x : Ru} (h : x ∈ l) : x ∈ l.eraseIdx k ∨ x = l[k] := by
  obtain ⟨j, hj, rfl⟩ := List.mem_iff_getElem.1 h
  by_cases e : j = k
  · subst e; exact .inr rfl
  · refine .inl ?_
    rw [List.eraseIdx_eq_take_drop_succ]
    rcases Nat.lt_or_ge j k with h1 | h1
    · exact List.mem_append.2 (.inl (List.mem_iff_getElem.2 ⟨j, by simp; omega, by simp⟩))
    · exact List.mem_append.2 (.inr (List.mem_iff_getElem.2 ⟨j - (k + 1), by simp; omega, by simp only [List.getElem_drop]; congr 1; omega⟩))
/-- A set is shut by the same rules if one that follows is left out. -/
theorem shut_erase {l : List Ru} {k p : Nat} (hk : k < l.length) (h : FlR (l.eraseIdx k) p l[k] true) (y : Nat) : Shut (l.eraseIdx k) allW y ↔ Shut l allW y := by
  constructor
  · intro hs r hr ha hw
    rcases mem_erase_or hk hr with hr | rfl
    · exact hs r hr ha hw
    · obtain ⟨x, hx, _, hb⟩ := h
      have hsub : Sub (mk (natL l[k].1)) y := fun q hq => by
        rw [mk_bit, List.contains_iff_mem] at hq
        exact List.all_eq_true.1 ha q hq
      exact hx.1.2 y hsub hs _ hb.symm
  · intro hs r hr ha hw
    exact hs r (List.mem_of_mem_eraseIdx hr) ha hw
theorem RedR.shut {p : Nat} : ∀ {k : Nat} {l m : List Ru}, k ≤ l.length → RedR p k l m → ∀ y, Shut m allW y ↔ Shut l allW y
  | 0, _, _, _, h, y => by
    have e : _ = _ := h
    rw [e]
  | k + 1, l, m, hk, ⟨r, h1, h2⟩, y => by
    rw [show l[k]?.getD ([], 0) = l[k] by simp [show k < l.length by omega]] at h1
    cases r with
    | false => exact RedR.shut (by simp; omega) h2 y
    | true => exact (RedR.shut (by simp [List.length_eraseIdx]; split <;> omega) h2 y).trans (shut_erase (by omega) h1 y)
theorem cl_shut {l m : List Ru} (h : ∀ y, Shut m allW y ↔ Shut l allW y) {x y : Nat} : Cl m x allW y ↔ Cl l x allW y :=
  ⟨fun ⟨⟨h1, h2⟩, h3⟩ => ⟨⟨h1, fun z hz hs => h2 z hz ((h z).2 hs)⟩, (h y).1 h3⟩, fun ⟨⟨h1, h2⟩, h3⟩ => ⟨⟨h1, fun z hz hs => h2 z hz ((h z).1 hs)⟩, (h y).2 h3⟩⟩

theorem RowsOwn.erase {base : Nat} {gx : Option Nat} {w : World} {vs : List Value} {rows : List (List Int)} (h : RowsOwn base gx w vs rows) (k : Nat) : RowsOwn base gx w (vs.eraseIdx k) (rows.eraseIdx k) := by
  have key : ∀ i, ∃ j, (∀ (α : Type) (l : List α), (l.eraseIdx k)[i]? = l[j]?) ∧ (i < k → j = i) ∧ (k ≤ i → j = i + 1) := fun i => by
    by_cases e : i < k
    · exact ⟨i, fun α l => by rw [List.getElem?_eraseIdx, if_pos e], fun _ => rfl, fun h => by omega⟩
    · exact ⟨i + 1, fun α l => by rw [List.getElem?_eraseIdx, if_neg e], fun h => by omega, fun _ => rfl⟩
  refine ⟨by simp [List.length_eraseIdx, h.1], fun i hi => ?_, fun i i' v v' hii hv hv' b hb => ?_⟩
  · obtain ⟨j, e, _, _⟩ := key i
    have hj : rows[j]? = some (rows.eraseIdx k)[i] := by rw [← e, List.getElem?_eq_getElem hi]
    obtain ⟨hj1, hj2⟩ := List.getElem?_eq_some_iff.1 hj
    obtain ⟨A, c, q1, q2, q3⟩ := h.2.1 j hj1
    rw [hj2] at q1 q2 q3
    exact ⟨A, c, by rw [e]; exact q1, q2, q3⟩
  · obtain ⟨j, e, e1, e2⟩ := key i
    obtain ⟨j', e', e1', e2'⟩ := key i'
    rw [e] at hv
    rw [e'] at hv'
    exact h.2.2 j j' v v' (by
      rcases Nat.lt_or_ge i k with h1 | h1 <;> rcases Nat.lt_or_ge i' k with h2 | h2
      · rw [e1 h1, e1' h2]; exact hii
      · rw [e1 h1, e2' h2]; omega
      · omega
      · rw [e2 h1, e2' h2]; omega) hv hv' b hb
/-- A block that is no row of it is turned. -/
theorem RowsOwn.onlyG {base : Nat} {gx : Option Nat} {w w' : World} {vs : List Value} {rows : List (List Int)} {G : Nat} {t : TypeId} {cs : Array Value} (h : RowsOwn base gx w vs rows) (o : Only G w w') (hG : Blk w G t cs) (ht : 3 ≠ t) : RowsOwn base gx w' vs rows :=
  ⟨h.1, fun i hi => by
    obtain ⟨A, c, h1, h2, h3⟩ := h.2.1 i hi
    exact ⟨A, c, h1, o.own h2 (hG.ne_row h2 ht), h3⟩, h.2.2⟩
theorem RuP.onlyG {lo G : Nat} {out : Value} {w w' : World} {ps : List (Value × Value)} {l : List Ru} {cs : Array Value} (h : RuP lo out w ps l) (o : Only G w w') (hG : Blk w G 25 cs) : RuP lo out w' ps l :=
  ⟨h.1, o.own h.2.1 (hG.ne_row h.2.1 (by decide)), h.2.2.1.onlyG o hG (by decide), h.2.2.2⟩
theorem RuP.one {lo : Nat} {out : Value} {w : World} {ps : List (Value × Value)} {l : List Ru} (h : RuP lo out w ps l) : ∀ u ∈ flatV ps, u.oneCell' = true := flatV_one fun q hq => by
  obtain ⟨i, hi, rfl⟩ := List.mem_iff_getElem.1 hq
  have hil : i < l.length := by rw [← h.1]; exact hi
  obtain ⟨A, c, h1, _⟩ := h.2.2.1.2.1 i (by simpa [flR] using hil)
  rw [List.getElem?_map, List.getElem?_eq_getElem hi] at h1
  have h2 := congrArg (fun l => l[i]?) h.2.2.2
  simp only [List.getElem?_map, List.getElem?_eq_getElem hi, List.getElem?_eq_getElem hil, Option.map_some, Option.some.injEq] at h1 h2
  rw [h1, h2]
  exact ⟨rfl, rfl⟩
/-- Rules of which one is left out, in a row of their own. -/
theorem RuP.erase {lo lo' i n : Nat} {out out' : Value} {w w' : World} {ps : List (Value × Value)} {l : List Ru} (h : RuP lo out w ps l) (hn : l.length = n) (hi : i < n) (hlo : lo ≤ lo') (hw : w.heap.size ≤ lo') (hb : Below w.heap.size w w')
    (ho : w'.ownsRow lo' 42 2 out' (n - 1) (flatV (ps.eraseIdx i))) : RuP lo out' w' (ps.eraseIdx i) (l.eraseIdx i) := by
  subst hn
  refine ⟨by simp [List.length_eraseIdx, h.1], by rw [List.length_eraseIdx_of_lt hi]; exact own_base ho hlo, ?_, ?_⟩
  · have h1 := (h.2.2.1.below hb).erase i
    have e1 : (ps.map (·.1)).eraseIdx i = (ps.eraseIdx i).map (·.1) := by rw [List.eraseIdx_eq_take_drop_succ, List.eraseIdx_eq_take_drop_succ]; simp
    have e2 : (flR l).eraseIdx i = flR (l.eraseIdx i) := by unfold flR; rw [List.eraseIdx_eq_take_drop_succ, List.eraseIdx_eq_take_drop_succ]; simp
    rw [e1, e2] at h1
    refine ⟨h1.1, fun j hj => ?_, h1.2.2⟩
    obtain ⟨A, c, q1, q2, _⟩ := h1.2.1 j hj
    refine ⟨A, c, q1, q2, fun k hk e => ?_⟩
    have h3 := (ho.lt k e).1
    have h2 := (h.2.2.1.erase i).lt (by rw [e1]; exact q1) hk
    omega
  · have := h.2.2.2
    have e1 : (ps.eraseIdx i).map (·.2) = (ps.map (·.2)).eraseIdx i := by rw [List.eraseIdx_eq_take_drop_succ, List.eraseIdx_eq_take_drop_succ]; simp
    rw [e1, this, List.eraseIdx_eq_take_drop_succ, List.eraseIdx_eq_take_drop_succ]; simp
end Go.Proofs.YtgoojcjfhghmgaaDoor


set_option linter.unusedSimpArgs false
set_option linter.unusedVariables false
namespace Go.Proofs.YtgoojcjfhghmgaaDoor
open Go Go.RowKit

theorem results_cell_row2 {P : Program} {fn : Func} {p u : Tmp} {ty : TypeId} (h : fn.results = #[.cell p ty, .tmp u]) (tmps : Array Value) (w : World) (g : Nat) (t : TypeId) (cs : Array Value) (fr : Nat × Nat) (d : TypeDesc)
    (hp : tmps.getD p undef = .pointer (some ⟨g, 0, none⟩)) (hg : w.heap[g]? = some (.cells cs t fr))
    (hu : P.underlying ty = some d) (hd : (match d with | .struct _ | .array _ _ => true | _ => false) = true) (hi : (P.info? ty).map (·.size) = some cs.size) :
    (results fn tmps).run P w = .ok (.tuple #[.agg cs, tmps.getD u undef]) w := by
  rw [results_cell_tmp h, hp]
  simp only [asAddr, Sem.run_pure, Result.andThen_ok, run_loadVar_row w g t ty cs fr d hg hu hd hi]

set_option maxRecDepth 100000 in
set_option maxHeartbeats 4000000 in
theorem Reduce_any (AI AR : Option Addr) (cI cR B : Nat) (b : Bk) (w : World) (hB : B ≤ w.heap.size) (h : ItsAt B w AI b.its) (h' : RusAt B w AR b.rus) (hs : Short b) (h0 : vlR b = 0) :
    Calls Tryd.prog 47 #[.agg #[.int .i64 b.p, .slice AI b.its.length cI, .slice AR b.rus.length cR]] w fun e w' => ∃ AI' AR' cI' cR' qs m, e = .returned (.tuple #[.agg #[.int .i64 b.p, .slice AI' b.its.length cI', .slice AR' (List.length m) cR'], .int .i64 0]) ∧
      ItsAt w'.heap.size w' AI' b.its ∧ RedR b.p.toNat b.rus.length b.rus m ∧ RuP w.heap.size (.slice AR' m.length cR') w' qs m ∧ Below w.heap.size w w' := by
  have hv := vl_zero h0
  have hT := h.below (Below.refl _ _) hB
  have hT' := h'.below (Below.refl _ _) hB
  have cv := Lib.hid (fun W (hW : Below w.heap.size w W) => Validate_any AI AR cI cR w.heap.size b W hW.size (hT.below hW (Nat.le_refl _)) (hT'.below hW (Nat.le_refl _)) hs)
  have cc := Lib.hid (fun W (hW : Below w.heap.size w W) => clone_bk AI AR cI cR w.heap.size b W hW.size (hT.below hW (Nat.le_refl _)) (hT'.below hW (Nat.le_refl _)) hs)
  rw [h0] at cv
  obtain ⟨p, hp⟩ := Int.eq_ofNat_of_zero_le hv.p0
  have hp10 : p ≤ 10 := by have := hv.p1; omega
  have hpn : b.p.toNat = p := by rw [hp]; rfl
  have cf := Lib.hid (fun (A A1 : Option Addr) (cA c1 : Nat) (l : List Ru) (x : Ru) (W : World) (hR : RusAt W.heap.size W A l) (hI : IntsAt W.heap.size W A1 x.1) (hl : ∀ y ∈ l, y ∈ b.rus) (hx : x ∈ b.rus) (hlen : l.length ≤ b.rus.length) => follows_any A1 A c1 cA W.heap.size p l x W (Nat.le_refl _) hR hI (by have := hs.2.1; omega) (fun y hy => hs.2.2.2 y (hl y hy)) (by have := hs.2.2.2 x hx; omega) (fun y hy => by have := hv.rules y (hl y hy); rwa [hp] at this) (by have := hv.rules x hx; rwa [hp] at this) hp10)
  have nr := hs.2.1
  have HB0 := Lib.hid (show Below w.heap.size w ((w.alloc (.cells #[.int .i64 b.p, .slice AI b.its.length cI, .slice AR b.rus.length cR] 25)).alloc (.cells #[.int .i64 0, .slice none 0 0, .slice none 0 0] 25)) from balloc (balloc (Below.refl _ _) _) _)
  rw [hpn]
  clear h h' hs hT hT' hv h0 hB hp hpn
  go_enter Tryd.func47, Tryd.ntmps47
  go_wp2_with fail
  generalize hW0 : (w.alloc (.cells #[.int .i64 b.p, .slice AI b.its.length cI, .slice AR b.rus.length cR] 25)).alloc (.cells #[.int .i64 0, .slice none 0 0, .slice none 0 0] 25) = W0
  rw [hW0] at HB0
  have HK0 := Lib.hid (show Blk W0 w.heap.size 25 #[.int .i64 b.p, .slice AI b.its.length cI, .slice AR b.rus.length cR] by rw [← hW0]; exact (Blk.new _ _ _).alloc _)
  have HK1 := Lib.hid (show Blk W0 (w.heap.size + 1) 25 #[.int .i64 0, .slice none 0 0, .slice none 0 0] by rw [← hW0]; exact blk_new' (by simp))
  have HS0 := Lib.hid (show w.heap.size + 1 < W0.heap.size from HK1.out.lt)
  clear hW0
  go_wp2_with (first
    | (go_at_call 20; refine (cv.out _ HB0.out).mono ?_; rintro e w1 ⟨rfl, hb1⟩; obtain ⟨x0, x1, x2, _⟩ := blk3 (HK0.out.below hb1 HK0.out.lt); have hB1 := HB0.out.trans (hb1.mono HB0.out.size))
    | (go_at_call 90; refine (cc.out _ hB1).mono ?_; rintro e w2 ⟨AI', AR', cI', cR', ps, qs, mid, rfl, hit, hup, hm1, hm2, hru, hb2⟩))
  generalize hW3 : w2.alloc (.cells #[.int .i64 b.p, .slice AI' b.its.length cI', .slice AR' b.rus.length cR'] 25) = w3
  have hb23 : Below w2.heap.size w2 w3 := by rw [← hW3]; exact balloc (Below.refl _ _) _
  have HKG := Lib.hid (show Blk w3 w2.heap.size 25 #[.int .i64 b.p, .slice AI' b.its.length cI', .slice AR' b.rus.length cR'] by rw [← hW3]; exact Blk.new _ _ _)
  have hB2 := hb1.trans (hb2.mono hb1.size)
  have HB3 := Lib.hid (hB2.trans (hb23.mono hB2.size))
  have HIt := Lib.hid hit
  have HL1 := Lib.hid (show w.heap.size + 1 < w1.heap.size from Nat.lt_of_lt_of_le HS0.out hb1.size)
  have HRu := Lib.hid ((hru.below hb23).base (Nat.le_trans (Nat.le_trans HB0.out.size hb1.size) hm1))
  have H23 := Lib.hid hb23
  have hGl : W0.heap.size ≤ w2.heap.size := hB2.size
  have HGl := Lib.hid (And.intro (show w.heap.size + 1 < w2.heap.size by have := HS0.out; omega) hb23.size)
  have HK12 := Lib.hid (HK1.out.below hB2 HK1.out.lt)
  have HBw := Lib.hid (HB0.out.trans (hB2.mono HB0.out.size))
  clear hW3 hit hup hm1 hm2 hru hb23 hb1 hb2 hB1 hB2 x0 x1 x2
  go_loopw [6] (fun s wr => ∃ (k : Nat) (cur : List Ru) (qs : List (Value × Value)) (A : Option Addr) (c : Nat), k ≤ cur.length ∧ cur.length ≤ b.rus.length ∧ s = .int .i64 ((k : Int) - 1) ∧ Aside (∀ m, RedR p k cur m → RedR p b.rus.length b.rus m) ∧ Aside (∀ x ∈ cur, x ∈ b.rus) ∧ Aside (RuP w.heap.size (.slice A cur.length c) wr qs cur) ∧ Aside (Blk wr w2.heap.size 25 #[.int .i64 b.p, .slice AI' b.its.length cI', .slice A cur.length c]) ∧ Aside (Below w2.heap.size w2 wr)) (fun s _ => (intOf s + 1).toNat)
  case atStart => exact ⟨b.rus.length, b.rus, qs, AR', cR', Nat.le_refl _, Nat.le_refl _, rfl, fun _ h => h, fun _ h => h, HRu.out, HKG.out, H23.out⟩
  case round =>
    clear HRu HKG
    obtain ⟨k, cur, qs, A, c, hk, hcl, rfl, hred, hsub, hru, hbl, hbr⟩ := hrel
    have HRed := Lib.hid hred.out
    have HSub := Lib.hid hsub.out
    have HRu := Lib.hid hru.out
    have HBl := Lib.hid hbl.out
    have HBr := Lib.hid hbr.out
    have hGr : w2.heap.size < wr.heap.size := hbl.out.lt
    obtain ⟨y0, y1, y2, f0, f1, f2⟩ := blk3 hbl.out
    clear hred hsub hru hbl hbr
    cases k with
    | zero =>
      have HR1 := Lib.hid (HK12.out.below HBr.out HK12.out.lt)
      obtain ⟨t0, t1, t2, g0, g1, g2⟩ := blk3 HR1.out
      have hlR : w.heap.size + 1 < wr.heap.size := HR1.out.lt
      have HM := Lib.hid (HRed.out cur rfl)
      clear hk
      go_wp2_with fail
      have HP := Lib.hid ((((Only.refl (w.heap.size + 1) wr).put 0 (.int .i64 b.p)).put 1 (.slice AI' b.its.length cI')).put 2 (.slice A cur.length c))
      have HB2 := Lib.hid (((HR1.out.put 0 (.int .i64 b.p)).put 1 (.slice AI' b.its.length cI')).put 2 (.slice A cur.length c))
      have hlow := HBw.out.trans (HBr.out.mono HBw.out.size)
      refine bodyPost_ret (results_cell_row2 rfl _ _ (w.heap.size + 1) 25 _ (0, 0) _ rfl HB2.out Tryd.underlying25 rfl (by kernel_rfl)) rfl ⟨AI', A, cI', c, qs, cur, rfl, ?_, HM.out, ?_, ?_⟩
      · exact ((HIt.out.below HBr.out).only HP.out HL1.out).at rfl
      · exact HRu.out.onlyG HP.out HR1.out
      · exact hlow.trans (HP.out.below (Nat.le_succ _) hlow.size)
    | succ k =>
      have e : (((k + 1 : Nat) : Int) - 1) = (k : Int) := by omega
      rw [e]
      clear e
      have hkl : k < cur.length := by omega
      have hkb : k ≤ 1000 := by omega
      obtain ⟨g, off, A1, c1, rfl, hg, e0, e1, i1⟩ := (HRu.out.at rfl) k hkl
      obtain ⟨n1, hn1⟩ : ∃ n1, n1 = cur[k].1.length := ⟨_, rfl⟩
      obtain ⟨z, hz⟩ : ∃ z, z = cur[k].2 := ⟨_, rfl⟩
      rw [← hn1] at e0
      rw [← hz] at e1
      have Hn1 := Lib.hid hn1
      have Hz := Lib.hid hz
      have HI1 := Lib.hid i1
      have HE := Lib.hid (And.intro e0 e1)
      have ckl := Lib.hid (cloneRu_any (some ⟨g, off, none⟩) cur.length c w.heap.size qs wr HRu.out.2.1 (by omega) (by omega) HRu.out.one)
      have cdl := Lib.hid (fun (A2 : Option Addr) (c2 : Nat) (W : World) (ho : W.ownsRow wr.heap.size 42 2 (.slice A2 cur.length c2) cur.length (flatV qs)) => deleteRu_any A2 cur.length c2 k wr.heap.size qs W ho hkl HRu.out.1 (by omega) HRu.out.one)
      have HBl2 := Lib.hid (fun W (hW : Below wr.heap.size wr W) => blk3 (HBl.out.below hW hGr))
      have HC2 := Lib.hid (fun W (hW : Below wr.heap.size wr W) => show W.cell? ⟨g, off + k * 2, none⟩ = some (.slice A1 n1 c1) ∧ W.cell? ⟨g, off + k * 2 + 1, none⟩ = some (.int .i64 z) from ⟨(hW.cell (p := ⟨g, off + k * 2, none⟩) hg).trans HE.out.1, (hW.cell (p := ⟨g, off + k * 2 + 1, none⟩) hg).trans HE.out.2⟩)
      clear hn1 hz i1 e0 e1
      go_wp2_with (first
        | (go_at_call 92; refine ckl.out.mono ?_; rintro e w4 ⟨A2, c2, rfl, ho4, hb4⟩; have HO4 := Lib.hid ho4; have HB4 := Lib.hid hb4; clear ho4 hb4)
        | (go_at_call 91; refine (cdl.out A2 c2 _ HO4.out).mono ?_; rintro e w5 ⟨A3, rfl, ho5, g5, hg5, hg5b, on5⟩; have HO5 := Lib.hid ho5; have hb5 : Below wr.heap.size wr w5 := HB4.out.trans (on5.below hg5b HB4.out.size); have HB5 := Lib.hid hb5; clear y0 y1 y2 f0 f1 f2; obtain ⟨y0, y1, y2, _⟩ := HBl2.out _ hb5; obtain ⟨d0, d1⟩ := HC2.out _ hb5; clear ho5 on5 hb5))
      have hwl : w.heap.size ≤ wr.heap.size := (HBw.out.trans (HBr.out.mono HBw.out.size)).size
      have hRe := RuP.erase (lo' := wr.heap.size) HRu.out rfl hkl hwl (Nat.le_refl _) HB5.out HO5.out
      have hle := List.length_eraseIdx_of_lt hkl
      have c78 := cf.out A3 (A1) c2 c1 (cur.eraseIdx k) (cur[k]'hkl) w5 (hRe.at hle.symm) (HI1.out.below HB5.out HB5.out.size) (fun y hy => HSub.out y (List.mem_of_mem_eraseIdx hy)) (HSub.out _ (List.getElem_mem hkl)) (by omega)
      rw [hle, ← Hn1.out, ← Hz.out] at c78
      have HRe := Lib.hid hRe
      have Hle := Lib.hid hle
      have C78 := Lib.hid c78
      have hk1 : k ≤ cur.length := by omega
      have hk2 : k ≤ cur.length - 1 := by omega
      have hk3 : cur.length - 1 ≤ b.rus.length := by omega
      clear hRe hle c78 hwl d0 d1
      go_at_call 78
      refine C78.out.mono ?_
      rintro e w6 ⟨v, rfl, ⟨r, rfl, hfl⟩, hb6⟩
      have HFl := Lib.hid (show FlR (cur.eraseIdx k) p (cur[k]?.getD ([], 0)) r from by
        rw [show cur[k]?.getD ([], 0) = cur[k] by simp [hkl]]; exact hfl)
      have hb56 := HB5.out.trans (hb6.mono HB5.out.size)
      have HB6 := Lib.hid hb56
      have HBl6 := Lib.hid (HBl.out.below hb56 hGr)
      have HRe6 := Lib.hid (HRe.out.below hb6)
      have HRu6 := Lib.hid (HRu.out.below hb56)
      have HBr6 := Lib.hid (HBr.out.trans (hb56.mono HBr.out.size))
      clear y0 y1 y2 hfl hb6 hb56
      obtain ⟨y0, y1, y2, f0, f1, f2⟩ := blk3 HBl6.out
      cases r with
      | false =>
        go_wp2_with fail
        go_roundw
        case rel => exact ⟨k, cur, qs, some ⟨g, off, none⟩, c, hk1, hcl, by go_num, fun m hm => HRed.out m ⟨false, HFl.out, by simpa using hm⟩, HSub.out, HRu6.out, HBl6.out, HBr6.out⟩
        case measure => simp [intOf]
      | true =>
        go_wp2_with fail
        have HP := Lib.hid ((Only.refl w2.heap.size w6).put 2 (.slice A3 (cur.length - 1) c2))
        go_roundw
        case rel =>
          refine ⟨k, cur.eraseIdx k, qs.eraseIdx k, A3, c2, by rw [Hle.out]; exact hk2, by rw [Hle.out]; exact hk3, by go_num, fun m hm => HRed.out m ⟨true, HFl.out, by simpa using hm⟩, fun x hx => HSub.out x (List.mem_of_mem_eraseIdx hx), ?_, ?_, HBr6.out.trans (HP.out.below (Nat.le_refl _) HBr6.out.size)⟩
          · rw [Hle.out]; exact HRe6.out.onlyG HP.out HBl6.out
          · rw [Hle.out]; exact HBl6.out.put 2 (.slice A3 (cur.length - 1) c2)
        case measure => simp [intOf]

set_option maxRecDepth 100000 in
set_option maxHeartbeats 4000000 in
theorem Reduce_bad (AI AR : Option Addr) (cI cR B : Nat) (b : Bk) (w : World) (hB : B ≤ w.heap.size) (h : ItsAt B w AI b.its) (h' : RusAt B w AR b.rus) (hs : Short b) (h0 : vlR b ≠ 0) :
    Calls Tryd.prog 47 #[.agg #[.int .i64 b.p, .slice AI b.its.length cI, .slice AR b.rus.length cR]] w fun e w' => e = .returned (.tuple #[.agg #[.int .i64 0, .slice none 0 0, .slice none 0 0], .int .i64 (vlR b)]) ∧ Below w.heap.size w w' := by
  have hT := h.below (Below.refl _ _) hB
  have hT' := h'.below (Below.refl _ _) hB
  have cv := Lib.hid (fun W (hW : Below w.heap.size w W) => Validate_any AI AR cI cR w.heap.size b W hW.size (hT.below hW (Nat.le_refl _)) (hT'.below hW (Nat.le_refl _)) hs)
  have hne : (vlR b != 0) = true := by simpa using h0
  generalize vlR b = e0 at cv hne ⊢
  have HB0 := Lib.hid (show Below w.heap.size w ((w.alloc (.cells #[.int .i64 b.p, .slice AI b.its.length cI, .slice AR b.rus.length cR] 25)).alloc (.cells #[.int .i64 0, .slice none 0 0, .slice none 0 0] 25)) from balloc (balloc (Below.refl _ _) _) _)
  clear h h' hs hT hT' h0 hB
  go_enter Tryd.func47, Tryd.ntmps47
  go_wp2_with fail
  generalize hW0 : (w.alloc (.cells #[.int .i64 b.p, .slice AI b.its.length cI, .slice AR b.rus.length cR] 25)).alloc (.cells #[.int .i64 0, .slice none 0 0, .slice none 0 0] 25) = W0
  rw [hW0] at HB0
  have HK1 := Lib.hid (show Blk W0 (w.heap.size + 1) 25 #[.int .i64 0, .slice none 0 0, .slice none 0 0] by rw [← hW0]; exact blk_new' (by simp))
  clear hW0
  go_wp2_with (go_at_call 20; refine (cv.out _ HB0.out).mono ?_; rintro e w1 ⟨rfl, hb1⟩; obtain ⟨t0, t1, t2, g0, g1, g2⟩ := blk3 (HK1.out.below hb1 HK1.out.lt); have hlR : w.heap.size + 1 < w1.heap.size := (HK1.out.below hb1 HK1.out.lt).lt)
  have HR1 := Lib.hid (HK1.out.below hb1 HK1.out.lt)
  have HP := Lib.hid ((((Only.refl (w.heap.size + 1) w1).put 0 (.int .i64 0)).put 1 (.slice none 0 0)).put 2 (.slice none 0 0))
  have HB2 := Lib.hid (((HR1.out.put 0 (.int .i64 0)).put 1 (.slice none 0 0)).put 2 (.slice none 0 0))
  have hlow := HB0.out.trans (hb1.mono HB0.out.size)
  refine bodyPost_ret (results_cell_row2 rfl _ _ (w.heap.size + 1) 25 _ (0, 0) _ rfl HB2.out Tryd.underlying25 rfl (by kernel_rfl)) rfl ⟨rfl, hlow.trans (HP.out.below (Nat.le_succ _) hlow.size)⟩
end Go.Proofs.YtgoojcjfhghmgaaDoor


set_option linter.unusedSimpArgs false
namespace Go.Proofs.YtgoojcjfhghmgaaDoor
open Go.RowKit

theorem IntsN.imp {N N' : Nat → Prop} {B : Nat} {w : World} {A : Option Addr} {zs : List Int} (h : IntsN N B w A zs) (hN : ∀ x, N x → N' x) : IntsN N' B w A zs := fun j hj => by
  obtain ⟨b, off, e, hn, hb, hc⟩ := h j hj
  exact ⟨b, off, e, hN b hn, hb, hc⟩
theorem RusN.imp {N N' : Nat → Prop} {w : World} {A : Option Addr} {l : List Ru} (h : RusN N w A l) (hN : ∀ x, N x → N' x) : RusN N' w A l := fun k hk => by
  obtain ⟨b, off, A1, c1, e, hn, h1, h2, h3, h4⟩ := h k hk
  exact ⟨b, off, A1, c1, e, hN b hn, h1, h2, h3, h4.imp hN⟩
theorem own_cap2 {w : World} {base e s n c : Nat} {A : Option Addr} {xs : List Value} (h : w.ownsRow base e s (.slice A n c) n xs) : n ≤ c := by
  rcases h.2 with ⟨_, h0⟩ | ⟨g, cap, cur, e1, hb, hg, h1, h2, h3, h4⟩
  · omega
  · injection e1 with _ _ e3
    subst e3
    exact h1
set_option maxRecDepth 100000 in
set_option maxHeartbeats 4000000 in
theorem CopyRules_own (A : Option Addr) (c B : Nat) (l : List Ru) (w : World) (hB : B ≤ w.heap.size) (h : RusAt B w A l) (hs : l.length ≤ 60) (hl : ∀ x ∈ l, x.1.length ≤ 40) :
    Calls Tryd.prog 57 #[.slice A l.length c] w fun e w' => ∃ A' c', e = .returned (.slice A' l.length c') ∧ (FarR w.heap.size w' A' l ∧ l.length ≤ c') ∧ Below w.heap.size w w' := by
  obtain ⟨j0, hj, hy0, hy1, hy2⟩ := info_parts info42
  have H := Lib.hid (h.below (Below.refl _ _) hB)
  have Hl := Lib.hid hl
  clear h hB hl
  go_enter Tryd.func57, Tryd.ntmps57
  go_wp2_with fail
  go_loopw [3, 4] (fun out i wr => ∃ (k : Nat) (ps : List (Value × Value)), k ≤ l.length ∧ i = .int .i64 k ∧ ps.length = k ∧ wr.ownsRow w.heap.size 42 2 out k (flatV ps) ∧ LstN out.ownBlock wr (ps.map (·.1)) ((l.take k).map (·.1)) ∧ Aside (ps.map (·.2) = (l.take k).map fun x => .int .i64 x.2) ∧ Aside (LoV w.heap.size (ps.map (·.1))) ∧ Below w.heap.size w wr) (fun _ i _ => l.length - (intOf i).toNat)
  case atStart => exact ⟨0, [], Nat.zero_le _, rfl, rfl, World.ownsRow_nil _ _ _ _, LstN.nil _ _, rfl, LoV.nil _, Below.refl _ _⟩
  case round =>
    obtain ⟨k, ps, hk, rfl, hpl, hown, hL, hT, hV, hb⟩ := hrel
    by_cases hlt : k < l.length
    · obtain ⟨bb, off, A1, c1, rfl, hbB, e0, e1, i1⟩ := H.out k hlt
      have HO := Lib.hid hown
      have HL := Lib.hid hL
      have HT := Lib.hid hT.out
      have HV := Lib.hid hV.out
      have Hb := Lib.hid hb
      have h40 := Hl.out l[k] (List.getElem_mem hlt)
      have cc := Lib.hid (fun W (hW : Below wr.heap.size wr W) => CopyInts_ref A1 c1 w.heap.size l[k].1 W (Nat.le_trans hb.size hW.size) (i1.below (hb.trans (hW.mono hb.size)) (Nat.le_refl _)) (by omega))
      have Hs1 := Lib.hid (show (l.take (k + 1)).map (·.1) = (l.take k).map (·.1) ++ [l[k].1] by rw [List.take_succ_eq_append_getElem hlt, List.map_append]; rfl)
      have Hs2 := Lib.hid (show ((l.take (k + 1)).map fun x => Value.int .i64 x.2) = ((l.take k).map fun x => Value.int .i64 x.2) ++ [.int .i64 l[k].2] by rw [List.take_succ_eq_append_getElem hlt, List.map_append]; rfl)
      have d0 := (hb.cell (p := ⟨bb, off + k * 2, none⟩) hbB).trans e0
      have d1 := (hb.cell (p := ⟨bb, off + k * 2 + 1, none⟩) hbB).trans e1
      have Keep := Lib.hid (fun W (hW : Below w.heap.size w W) => show W.cell? ⟨bb, off + k * 2, none⟩ = some (.slice A1 l[k].1.length c1) ∧ W.cell? ⟨bb, off + k * 2 + 1, none⟩ = some (.int .i64 l[k].2) ∧ Below w.heap.size w W from
        ⟨(hW.cell (p := ⟨bb, off + k * 2, none⟩) hbB).trans e0, (hW.cell (p := ⟨bb, off + k * 2 + 1, none⟩) hbB).trans e1, hW⟩)
      have Hlen := Lib.hid (show ps.length = k from hpl)
      have hk60 : k ≤ 60 := by omega
      clear e0 e1 i1 hown hL hT hV hb hpl d0 d1
      generalize l[k].1 = o at cc Hs1 Keep h40
      generalize l[k].2 = t at Hs2 Keep
      have k0 : (0 : Int) ≤ (k : Int) := by omega
      have k1 : (k : Int) < (l.length : Int) := by omega
      have tok := Lib.hid (Nat.le_refl 0)
      obtain ⟨n, hn⟩ : ∃ n, n = o.length := ⟨_, rfl⟩
      rw [← hn] at cc Keep
      have Hn := Lib.hid hn
      clear hn
      obtain ⟨out, hout⟩ : ∃ o, o = u3 := ⟨_, rfl⟩
      subst hout
      go_wp2_with fail
      go_region_held3 (fun W => W.cell? ⟨bb, off + k * 2, none⟩ = some (.slice A1 n c1) ∧ W.cell? ⟨bb, off + k * 2 + 1, none⟩ = some (.int .i64 t) ∧ Below w.heap.size w W)
        ((refine Keep.out _ ?_; first | (refine Hb.out.trans (Below.mono ?_ Hb.out.size); (repeat (first | exact Below.refl _ _ | assumption | refine Below.drew ?_ | refine balloc ?_ _)); done) | (repeat (first | assumption | refine Below.drew ?_ | refine balloc ?_ _))))
        (first
          | (go_at_call 58; have tk := tok; clear tok; refine (cc.out _ (by repeat (first | exact Below.refl _ _ | assumption | refine Below.drew ?_ | refine balloc ?_ _))).mono ?_; rintro e w5 ⟨A5, c5, rfl, hown5, hd5⟩; have tok2 := tk; have hb5 : Below wr.heap.size wr w5 := Below.trans (by repeat (first | exact Below.refl _ _ | assumption | refine Below.drew ?_ | refine balloc ?_ _)) (hd5.mono (Below.size (w := wr) (B := wr.heap.size) (by repeat (first | exact Below.refl _ _ | assumption | refine Below.drew ?_ | refine balloc ?_ _)))); have ho5 := own_base hown5 (Below.size (w := wr) (B := wr.heap.size) (by repeat (first | exact Below.refl _ _ | assumption | refine Below.drew ?_ | refine balloc ?_ _))); have hlo5 := (own_caps ho5).2.2; clear hown5)
          | (have tk := tok2; clear tok2; refine step_app2 _ (by rfl) (.tmp 11) (.tmp 24) 23 (by rfl) w.heap.size 42 j0 _ 2 32 Tryd.underlying23 hj hy0 hy1 hy2 (by rfl) (by decide) out k (flatV ps) (by rfl)
              (own_below HO.out (by repeat (first | exact Below.refl _ _ | assumption | refine Below.drew ?_ | refine balloc ?_ _)))
              ⟨_, 0, none⟩ 1 1 [.slice A5 n c5, .int .i64 t] (by rfl) (by rfl)
              (news_blk (t := 42) (cs := #[.slice A5 n c5, .int .i64 t]) (by repeat (first | with_reducible exact blk_new' (by simp) | with_reducible refine Blk.drew ?_ | with_reducible refine Blk.alloc ?_ _)) _ rfl)
              (by simp [Value.oneCell']) (by omega) (by decide) (Nat.le_trans Hb.out.size (Below.size (w := wr) (B := wr.heap.size) (by repeat (first | exact Below.refl _ _ | assumption | refine Below.drew ?_ | refine balloc ?_ _)))) (k + 1) (by omega) (flatV (ps ++ [(.slice A5 n c5, .int .i64 t)])) (flatV_snoc _ _ _).symm ?_; intro A7 c7 w7 hown7 hg7 hlow7 hat7; have hb7 : Below w.heap.size w w7 := bgrown (Hb.out.trans (Below.mono (by repeat (first | exact Below.refl _ _ | assumption | refine Below.drew ?_ | refine balloc ?_ _)) Hb.out.size)) hg7 hlow7; have hL7 := lst_step (e := 3) (A := A5) (c := c5) (n := n) (o := o) hg7 hat7 (by repeat (first | exact Below.refl _ _ | assumption | refine Below.drew ?_ | refine balloc ?_ _)) (by repeat (first | assumption | refine World.ownsRow.drew ?_ | refine World.ownsRow.alloc ?_ _)) HL.out (fun k hk => (HO.out.lt k hk).2) Hn.out.symm))
      all_goals
        have HO7 := Lib.hid hown7
        have HL7 := Lib.hid (hL7)
        have HB7 := Lib.hid hb7
        have HV7 := Lib.hid (show LoV w.heap.size ((ps ++ [(Value.slice A5 n c5, Value.int .i64 t)]).map (·.1)) by rw [List.map_append]; exact HV.out.snoc fun a ha => Nat.le_trans Hb.out.size (hlo5 a ha).1)
        clear hown7 hL7 hb7 hlo5
        go_wp2_with fail
        go_roundw
        case rel =>
          refine ⟨k + 1, ps ++ [(.slice A5 n c5, .int .i64 t)], by omega, by go_num, by rw [List.length_append, Hlen.out]; rfl, HO7.out, ?_, ?_, ?_, HB7.out⟩
          · rw [Hs1.out, List.map_append]; exact HL7.out
          · rw [Hs2.out, List.map_append, HT.out]; rfl
          · exact HV7.out
        case measure => simp [intOf]; omega
    · obtain rfl : k = l.length := by omega
      rw [List.take_length] at hL
      have HT := Lib.hid hT.out
      rw [List.take_length] at HT
      obtain ⟨A5, c5, rfl⟩ := own_form hown
      have HR := Lib.hid (And.intro (FarR.of_own hpl hown hL HT.out (Nat.le_refl _) hV.out) (own_cap2 hown))
      clear hown hL hT hV
      go_wp2_with fail
      go_ret
      exact ⟨A5, c5, rfl, HR.out, hb⟩

def Cut2 (lo G : Nat) (b : Bk) (A5 : Option Addr) (c5 : Nat) (wx : World) : Prop := lo < G ∧ Blk wx G 25 #[.int .i64 b.p, .slice none 0 0, .slice A5 b.rus.length c5] ∧ (RusN (fun b => b ≠ G ∧ lo < b) wx A5 b.rus ∧ b.rus.length ≤ c5)
theorem cutA2 {lo c5 : Nat} {b : Bk} {A5 : Option Addr} {base : Nat} {w5 : World} (h : FarR base w5 A5 b.rus ∧ b.rus.length ≤ c5) (hlo : lo < base) (hb5 : base ≤ w5.heap.size) : Cut2 lo w5.heap.size b A5 c5 (w5.alloc (.cells #[.int .i64 b.p, .slice none 0 0, .slice A5 b.rus.length c5] 25)) :=
  ⟨Nat.lt_of_lt_of_le hlo hb5, Blk.new w5 25 _, (h.1.ne fun b h1 h2 => ⟨by omega, by omega⟩).keep (fun _ h => h.1) ((Only.refl _ _).alloc _), h.2⟩
theorem cutB2 {lo c5 G : Nat} {b : Bk} {A5 : Option Addr} {W w5 : World} (hd : Below W.heap.size W w5) (hb : Blk W G 25 #[.int .i64 0, .slice none 0 0, .slice none 0 0]) (h : FarR W.heap.size w5 A5 b.rus ∧ b.rus.length ≤ c5) (hlo : lo < G) :
    Cut2 lo G b A5 c5 (((w5.setCell ⟨G, 0, none⟩ (.int .i64 b.p)).setCell ⟨G, 1, none⟩ (.slice none 0 0)).setCell ⟨G, 2, none⟩ (.slice A5 b.rus.length c5)) :=
  ⟨hlo, (((hb.below hd hb.lt).put 0 _).put 1 _).put 2 _, (h.1.ne fun b h1 _ => ⟨by have := hb.lt; omega, by have := hb.lt; omega⟩).keep (fun _ h => h.1) ((((Only.refl _ _).put 0 _).put 1 _).put 2 _), h.2⟩

set_option maxRecDepth 100000 in
set_option maxHeartbeats 4000000 in
theorem Copy_own (AI AR : Option Addr) (cI cR B : Nat) (b : Bk) (w : World) (hB : B ≤ w.heap.size) (h : ItsAt B w AI b.its) (h' : RusAt B w AR b.rus) (hs : Short b) :
    Calls Tryd.prog 19 #[.agg #[.int .i64 b.p, .slice AI b.its.length cI, .slice AR b.rus.length cR]] w fun e w' => ∃ AI' AR' cI' cR' ps lo, e = .returned (.agg #[.int .i64 b.p, .slice AI' b.its.length cI', .slice AR' b.rus.length cR']) ∧ w.heap.size < lo ∧ ItC lo (.slice AI' b.its.length cI') w' ps b.its b.its.length ∧ (RusN (fun x => w.heap.size < x) w' AR' b.rus ∧ b.rus.length ≤ cR') ∧ Below w.heap.size w w' := by
  obtain ⟨j0, hj, hy0, hy1, hy2⟩ := info_parts info84
  obtain ⟨W0, hW0⟩ : ∃ W0, W0 = (w.alloc (.cells #[.int .i64 b.p, .slice AI b.its.length cI, .slice AR b.rus.length cR] 25)).alloc (.cells #[.int .i64 0, .slice none 0 0, .slice none 0 0] 25) := ⟨_, rfl⟩
  have hw0 : Below w.heap.size w W0 := by rw [hW0]; exact balloc (balloc (Below.refl _ _) _) _
  have hb0 : Blk W0 w.heap.size 25 #[.int .i64 b.p, .slice AI b.its.length cI, .slice AR b.rus.length cR] := by rw [hW0]; exact (Blk.new w 25 _).alloc _
  have hb1 : Blk W0 (w.heap.size + 1) 25 #[.int .i64 0, .slice none 0 0, .slice none 0 0] := by rw [hW0]; exact blk_new' (by simp only [World.size_alloc])
  have hsz : W0.heap.size = w.heap.size + 1 + 1 := by rw [hW0]; simp only [World.size_alloc]
  have hlt : w.heap.size < W0.heap.size := hb0.lt
  have hR := (h'.below (Below.refl _ _) hB).below hw0 (Nat.le_of_lt hlt)
  have H := Lib.hid (h.below (Below.refl _ _) hB)
  have c57 := Lib.hid (fun W (hW : Below W0.heap.size W0 W) => CopyRules_own AR cR W0.heap.size b.rus W hW.size (hR.below hW (Nat.le_refl _)) hs.2.1 hs.2.2.2)
  have HB0 := Lib.hid hb0
  have HB1 := Lib.hid hb1
  have Hw := Lib.hid hw0
  have Hs3 := Lib.hid hs.2.2.1
  have ni := hs.1
  clear h h' hs hR hb0 hb1 hw0 hB hsz
  have tok := Lib.hid (Nat.le_refl 0)
  go_enter Tryd.func19, Tryd.ntmps19
  go_wp2_with fail
  rw [← hW0]
  clear hW0
  have z0 := HB0.out.cell 0
  have z1 := HB0.out.cell 1
  have z2 := HB0.out.cell 2
  have za := fun (V : World) (o : Obj) (i : Nat) (hV : w.heap.size < V.heap.size) => (show (V.alloc o).cell? ⟨w.heap.size, i, none⟩ = V.cell? ⟨w.heap.size, i, none⟩ from (Below.alloc (Below.refl V.heap.size V) (Nat.le_refl _) o).cell (p := ⟨w.heap.size, i, none⟩) hV)
  have a1 := fun (V : World) (i : Nat) => cell_newN (V := V) (n := V.heap.size) (i := i) (cs := #[.int .i64 0, .slice none 0 0, .slice none 0 0]) (t := 25) rfl
  have a2 := fun (V : World) (i : Nat) => show (V.alloc (.cells #[.int .i64 0, .slice none 0 0, .slice none 0 0] 25)).drew.cell? ⟨V.heap.size, i, none⟩ = #[Value.int .i64 0, .slice none 0 0, .slice none 0 0][i]? from a1 V i
  have a3 := fun (V : World) (i : Nat) => cell_newN (V := V.drew) (n := V.heap.size) (i := i) (cs := #[.int .i64 0, .slice none 0 0, .slice none 0 0]) (t := 25) rfl
  have a4 := fun (V : World) (i : Nat) => show (V.drew.alloc (.cells #[.int .i64 0, .slice none 0 0, .slice none 0 0] 25)).drew.cell? ⟨V.heap.size, i, none⟩ = #[Value.int .i64 0, .slice none 0 0, .slice none 0 0][i]? from a3 V i
  have g1 := fun (V : World) (i : Nat) => frozen_newN (V := V) (n := V.heap.size) (i := i) (cs := #[.int .i64 0, .slice none 0 0, .slice none 0 0]) (t := 25) rfl
  have g2 := fun (V : World) (i : Nat) => show (V.alloc (.cells #[.int .i64 0, .slice none 0 0, .slice none 0 0] 25)).drew.frozen? ⟨V.heap.size, i, none⟩ = false from g1 V i
  have g3 := fun (V : World) (i : Nat) => frozen_newN (V := V.drew) (n := V.heap.size) (i := i) (cs := #[.int .i64 0, .slice none 0 0, .slice none 0 0]) (t := 25) rfl
  have g4 := fun (V : World) (i : Nat) => show (V.drew.alloc (.cells #[.int .i64 0, .slice none 0 0, .slice none 0 0] 25)).drew.frozen? ⟨V.heap.size, i, none⟩ = false from g3 V i
  have HBB := Lib.hid (fun W (hW : Below W0.heap.size W0 W) => blk3 (HB0.out.below hW hlt))
  have hlt1 := Lib.hid HB1.out.lt
  go_cut [3] (fun s3 wx => ∃ G A5 c5, s3 = .pointer (some ⟨G, 0, none⟩) ∧ Aside (Cut2 (w.heap.size + 1) G b A5 c5 wx) ∧ Below W0.heap.size W0 wx)
  case first =>
    go_region_with (first
      | (go_at_call 57; have tk := tok; clear tok; refine (c57.out _ (by repeat (first | exact Below.refl _ _ | assumption | refine Below.drew ?_ | refine balloc ?_ _))).mono ?_; rintro e w5 ⟨A5, c5, rfl, hr5, hd5⟩; have tok2 := tk; have q0 := below_if hd5 W0.heap.size 0; have q1 := below_if hd5 W0.heap.size 1; have q2 := below_if hd5 W0.heap.size 2; have f0 := below_iff hd5 W0.heap.size 0; have f1 := below_iff hd5 W0.heap.size 1; have f2 := below_iff hd5 W0.heap.size 2; (try simp [World.size_alloc, World.size_drew, cell_newN, frozen_newN] at q0 q1 q2 f0 f1 f2); have hb5 : Below W0.heap.size W0 w5 := Below.trans (by repeat (first | exact Below.refl _ _ | assumption | refine Below.drew ?_ | refine balloc ?_ _)) (hd5.mono (Below.size (w := W0) (B := W0.heap.size) (by repeat (first | exact Below.refl _ _ | assumption | refine Below.drew ?_ | refine balloc ?_ _)))); have hl5 := Nat.lt_of_lt_of_le hlt hb5.size; clear z0 z1 z2; obtain ⟨z0, z1, z2, _⟩ := HBB.out _ hb5))
    all_goals
      have hx5 := Lib.hid hb5
      go_wp2_with fail
      go_meet
      first
        | exact ⟨w5.heap.size, A5, c5, rfl, cutA2 hr5 hlt1.out hx5.out.size, balloc hx5.out _⟩
        | exact ⟨W0.heap.size, A5, c5, rfl, cutB2 hd5 (Blk.new W0 25 _) hr5 hlt1.out, below_put' (below_put' (below_put' hx5.out (Nat.le_refl _) _ _) (Nat.le_refl _) _ _) (Nat.le_refl _) _ _⟩
  case rest =>
    obtain ⟨G, A5, c5, rfl, hc1, hbc⟩ := hcut
    obtain ⟨hG, hbG, hRN⟩ := hc1.out
    have HRN := Lib.hid hRN
    have HbG := Lib.hid hbG
    have Hbc := Lib.hid hbc
    have hGc : G < wc.heap.size := hbG.lt
    have HC := Lib.hid (HB0.out.below hbc hlt)
    clear hc1 hRN hbG hbc z0 z1 z2 za a1 a2 a3 a4 g1 g2 g3 g4 HBB c57 tok
    go_wp2_with fail
    go_loopw [4] (fun s4 wr => ∃ (k : Nat) (AIx : Option Addr) (cIx : Nat) (ps : List (Value × Value)), k ≤ b.its.length ∧ s4 = .int .i64 k ∧ Aside (ItC wc.heap.size (.slice AIx k cIx) wr ps b.its k) ∧ Aside (Only G wc wr) ∧ Aside (Blk wr G 25 #[.int .i64 b.p, .slice AIx k cIx, .slice A5 b.rus.length c5])) (fun s4 _ => b.its.length - (intOf s4).toNat)
    case atStart => exact ⟨0, none, 0, [], Nat.zero_le _, rfl, ⟨rfl, World.ownsRow_nil _ _ _ _, LstN.nil _ _, LstN.nil _ _, LoV.nil _, LoV.nil _⟩, Only.refl _ _, HbG.out⟩
    case round =>
      obtain ⟨k, AIx, cIx, ps, hk, rfl, hit, hon, hbl⟩ := hrel
      have HIt := Lib.hid hit.out
      have HOn := Lib.hid hon.out
      have HBl := Lib.hid hbl.out
      have hnG : w.heap.size < wc.heap.size ∧ w.heap.size ≠ G := ⟨by have := hG; omega, by omega⟩
      have HCr := Lib.hid (And.intro ((hon.out.cell (p := ⟨w.heap.size, 0, none⟩) hnG.1 hnG.2).trans (HC.out.cell 0)) (And.intro ((hon.out.cell (p := ⟨w.heap.size, 1, none⟩) hnG.1 hnG.2).trans (HC.out.cell 1)) ((hon.out.cell (p := ⟨w.heap.size, 2, none⟩) hnG.1 hnG.2).trans (HC.out.cell 2))))
      have hlow : Below w.heap.size w wr := (Hw.out.trans (Hbc.out.mono Hw.out.size)).trans (hon.out.below (by omega) (by omega))
      have hGr : G < wr.heap.size := hbl.out.lt
      have HNE := Lib.hid (own_ne hit.out.2.1 hGc)
      have hcr : wc.heap.size ≤ wr.heap.size := hon.out.size
      clear hit hon hbl
      by_cases hlt2 : k < b.its.length
      · obtain ⟨bb, off, A1, c1, A2, c2, rfl, hbB, e0, e1, i1, i2⟩ := H.out k hlt2
        obtain ⟨m1, m2⟩ := Hs3.out b.its[k] (List.getElem_mem hlt2)
        obtain ⟨x0, x1, x2⟩ := HCr.out
        obtain ⟨y0, y1, y2, f0, f1, f2⟩ := blk3 HBl.out
        have CellF := Lib.hid (fun W (hW : Below wr.heap.size wr W) => show W.cell? ⟨w.heap.size, 1, none⟩ = some (.slice (some ⟨bb, off, none⟩) b.its.length cI) ∧ W.cell? ⟨bb, off + k * 2, none⟩ = some (.slice A1 b.its[k].1.length c1) ∧ W.cell? ⟨bb, off + k * 2 + 1, none⟩ = some (.slice A2 b.its[k].2.length c2) ∧ W.cell? ⟨G, 1, none⟩ = some (.slice AIx k cIx) ∧ W.frozen? ⟨G, 1, none⟩ = false from
          ⟨(hW.cell (p := ⟨w.heap.size, 1, none⟩) (show w.heap.size < wr.heap.size by have := hnG.1; omega)).trans x1, (hW.cell (p := ⟨bb, off + k * 2, none⟩) (Nat.lt_of_lt_of_le hbB hlow.size)).trans ((hlow.cell (p := ⟨bb, off + k * 2, none⟩) hbB).trans e0), (hW.cell (p := ⟨bb, off + k * 2 + 1, none⟩) (Nat.lt_of_lt_of_le hbB hlow.size)).trans ((hlow.cell (p := ⟨bb, off + k * 2 + 1, none⟩) hbB).trans e1), (hW.cell (p := ⟨G, 1, none⟩) hGr).trans y1, (hW.frozen (p := ⟨G, 1, none⟩) hGr).trans f1⟩)
        have cc1 := Lib.hid (fun W (hW : Below wr.heap.size wr W) => CopyInts_ref A1 c1 w.heap.size b.its[k].1 W (Nat.le_trans hlow.size hW.size) (i1.below (hlow.trans (hW.mono hlow.size)) (Nat.le_refl _)) (by omega))
        have cc2 := Lib.hid (fun W (hW : Below wr.heap.size wr W) => CopyInts_ref A2 c2 w.heap.size b.its[k].2 W (Nat.le_trans hlow.size hW.size) (i2.below (hlow.trans (hW.mono hlow.size)) (Nat.le_refl _)) (by omega))
        have HSn := Lib.hid (fun n1 n2 c6 c7 W w8 A6 A7 A8 c8 (hn1 : n1 = b.its[k].1.length) (hn2 : n2 = b.its[k].2.length) hW => ItC.snoc (n1 := n1) (n2 := n2) (c6 := c6) (c7 := c7) (W := W) (w8 := w8) (A6 := A6) (A7 := A7) (A8 := A8) (c8 := c8) HIt.out hlt2 hn1 hn2 hW hcr)
        obtain ⟨n1, hn1⟩ : ∃ n1, n1 = b.its[k].1.length := ⟨_, rfl⟩
        obtain ⟨n2, hn2⟩ : ∃ n2, n2 = b.its[k].2.length := ⟨_, rfl⟩
        rw [← hn1] at cc1 CellF
        rw [← hn2] at cc2 CellF
        have Hn1 := Lib.hid hn1
        have Hn2 := Lib.hid hn2
        have k0 : (0 : Int) ≤ (k : Int) := by omega
        have k1 : (k : Int) < (b.its.length : Int) := by omega
        generalize b.its[k].1.map (Value.int .i64) = o1 at cc1 HSn
        generalize b.its[k].2.map (Value.int .i64) = o2 at cc2 HSn
        clear e0 e1 i1 i2 m1 m2 x0 x1 x2 y0 y1 y2 f0 f1 f2 hn1 hn2 H Hs3
        have Keep := Lib.hid (fun W (hW : Below (w.heap.size + 1) wr W) (hg : W.cell? ⟨G, 1, none⟩ = some (.slice AIx k cIx)) => show W.cell? ⟨w.heap.size, 1, none⟩ = some (.slice (some ⟨bb, off, none⟩) b.its.length cI) ∧ W.cell? ⟨bb, off + k * 2, none⟩ = some (.slice A1 n1 c1) ∧ W.cell? ⟨bb, off + k * 2 + 1, none⟩ = some (.slice A2 n2 c2) ∧ W.cell? ⟨G, 1, none⟩ = some (.slice AIx k cIx) ∧ Below (w.heap.size + 1) wr W from by
          obtain ⟨z1, z2, z3, _, _⟩ := CellF.out wr (Below.refl _ _)
          exact ⟨(hW.cell (p := ⟨w.heap.size, 1, none⟩) (Nat.lt_succ_self _)).trans z1, (hW.cell (p := ⟨bb, off + k * 2, none⟩) (Nat.lt_succ_of_lt hbB)).trans z2, (hW.cell (p := ⟨bb, off + k * 2 + 1, none⟩) (Nat.lt_succ_of_lt hbB)).trans z3, hg, hW⟩)
        have hle : w.heap.size + 1 ≤ wr.heap.size := by have := hnG.1; omega
        have hle2 : w.heap.size + 1 ≤ wc.heap.size := by have := hnG.1; omega
        have tok := Lib.hid (Nat.le_refl 0)
        have z1 := (CellF.out wr (Below.refl _ _)).1
        go_wp2_with fail
        clear z1
        have hS0 := Keep.out wr.drew (Below.mono (Below.refl wr.heap.size wr) hle).drew (CellF.out wr (Below.refl _ _)).2.2.2.1
        refine wp_region_E (S := fun W => W.cell? ⟨w.heap.size, 1, none⟩ = some (.slice (some ⟨bb, off, none⟩) b.its.length cI) ∧ W.cell? ⟨bb, off + k * 2, none⟩ = some (.slice A1 n1 c1) ∧ W.cell? ⟨bb, off + k * 2 + 1, none⟩ = some (.slice A2 n2 c2) ∧ W.cell? ⟨G, 1, none⟩ = some (.slice AIx k cIx) ∧ Below (w.heap.size + 1) wr W) (E := fun j => [20].contains j) (by kernel_rfl) ?_
        refine anyE_take [1, 18, 20] (i := 0) (v := ?_) rfl (by kernel_rfl) (by kernel_rfl) (by kernel_rfl) (by kernel_rfl) (fun _ _ _ h => h) (Or.inl ⟨by rfl, ?_⟩) hS0 ?_
        rotate_left
        · (intro w hSw; (try dsimp only at hSw); go_simp; try with_reducible rfl)
        try simp only [Act.put, List.setIfInBounds_toArray, List.set_cons_zero, List.set_cons_succ]
        refine anyE_take [18, 20] (i := 1) (v := ?_) rfl (by kernel_rfl) (by kernel_rfl) (by kernel_rfl) (by kernel_rfl) (fun _ _ _ h => h) (Or.inl ⟨by rfl, ?_⟩) hS0 ?_
        rotate_left
        · (intro w hSw; (try dsimp only at hSw); go_simp; try with_reducible rfl)
        try simp only [Act.put, List.setIfInBounds_toArray, List.set_cons_zero, List.set_cons_succ]
        refine anyE_take [3, 5, 6, 7, 8, 16, 17, 18, 20] (i := 2) (v := ?_) rfl (by kernel_rfl) (by kernel_rfl) (by kernel_rfl) (by kernel_rfl) (fun _ _ _ h => h) (Or.inl ⟨by rfl, ?_⟩) hS0 ?_
        rotate_left
        · (intro w hSw; (try dsimp only at hSw); go_simp; try with_reducible rfl)
        try simp only [Act.put, List.setIfInBounds_toArray, List.set_cons_zero, List.set_cons_succ]
        refine anyE_take [5, 6, 7, 8, 16, 17, 18, 20] (i := 3) (v := ?_) rfl (by kernel_rfl) (by kernel_rfl) (by kernel_rfl) (by kernel_rfl) (fun _ _ _ h => h) (Or.inl ⟨by rfl, ?_⟩) hS0 ?_
        rotate_left
        · (intro w hSw; (try dsimp only at hSw); go_simp; try with_reducible rfl)
        try simp only [Act.put, List.setIfInBounds_toArray, List.set_cons_zero, List.set_cons_succ]
        refine anyE_take [5, 6, 7, 8, 16, 17, 18, 20] (i := 4) (v := ?_) rfl (by kernel_rfl) (by kernel_rfl) (by kernel_rfl) (by kernel_rfl) (fun _ _ _ h => h) (Or.inl ⟨by rfl, ?_⟩) hS0 ?_
        rotate_left
        · (intro w hSw; (try dsimp only at hSw); go_simp; try with_reducible rfl)
        try simp only [Act.put, List.setIfInBounds_toArray, List.set_cons_zero, List.set_cons_succ]
        refine anyE_take [6, 7, 8, 16, 17, 18, 20] (i := 5) (v := ?_) rfl (by kernel_rfl) (by kernel_rfl) (by kernel_rfl) (by kernel_rfl) (fun _ _ _ h => h) (Or.inl ⟨by rfl, ?_⟩) hS0 ?_
        rotate_left
        · (intro w hSw; (try dsimp only at hSw); go_simp; try with_reducible rfl)
        try simp only [Act.put, List.setIfInBounds_toArray, List.set_cons_zero, List.set_cons_succ]
        refine anyE_take [7, 8, 16, 17, 18, 20] (i := 6) (v := ?_) rfl (by kernel_rfl) (by kernel_rfl) (by kernel_rfl) (by kernel_rfl) (fun _ _ _ h => h) (Or.inl ⟨by rfl, ?_⟩) hS0 ?_
        rotate_left
        · (intro w hSw; (try dsimp only at hSw); go_simp; try with_reducible rfl)
        try simp only [Act.put, List.setIfInBounds_toArray, List.set_cons_zero, List.set_cons_succ]
        refine anyE_take [8, 16, 17, 18, 20] (i := 7) (v := ?_) rfl (by kernel_rfl) (by kernel_rfl) (by kernel_rfl) (by kernel_rfl) (fun _ _ _ h => h) (Or.inl ⟨by rfl, ?_⟩) hS0 ?_
        rotate_left
        · (intro w hSw; (try dsimp only at hSw); go_simp; try with_reducible rfl)
        try simp only [Act.put, List.setIfInBounds_toArray, List.set_cons_zero, List.set_cons_succ]
        refine anyE_take [10, 12, 13, 14, 15, 16, 17, 18, 20] (i := 9) (v := ?_) rfl (by kernel_rfl) (by kernel_rfl) (by kernel_rfl) (by kernel_rfl) (fun _ _ _ h => h) (Or.inl ⟨by rfl, ?_⟩) hS0 ?_
        rotate_left
        · (intro w hSw; (try dsimp only at hSw); go_simp; try with_reducible rfl)
        try simp only [Act.put, List.setIfInBounds_toArray, List.set_cons_zero, List.set_cons_succ]
        refine anyE_take [12, 13, 14, 15, 16, 17, 18, 20] (i := 10) (v := ?_) rfl (by kernel_rfl) (by kernel_rfl) (by kernel_rfl) (by kernel_rfl) (fun _ _ _ h => h) (Or.inl ⟨by rfl, ?_⟩) hS0 ?_
        rotate_left
        · (intro w hSw; (try dsimp only at hSw); go_simp; try with_reducible rfl)
        try simp only [Act.put, List.setIfInBounds_toArray, List.set_cons_zero, List.set_cons_succ]
        refine anyE_take [12, 13, 14, 15, 16, 17, 18, 20] (i := 11) (v := ?_) rfl (by kernel_rfl) (by kernel_rfl) (by kernel_rfl) (by kernel_rfl) (fun _ _ _ h => h) (Or.inl ⟨by rfl, ?_⟩) hS0 ?_
        rotate_left
        · (intro w hSw; (try dsimp only at hSw); go_simp; try with_reducible rfl)
        try simp only [Act.put, List.setIfInBounds_toArray, List.set_cons_zero, List.set_cons_succ]
        refine anyE_take [13, 14, 15, 16, 17, 18, 20] (i := 12) (v := ?_) rfl (by kernel_rfl) (by kernel_rfl) (by kernel_rfl) (by kernel_rfl) (fun _ _ _ h => h) (Or.inl ⟨by rfl, ?_⟩) hS0 ?_
        rotate_left
        · (intro w hSw; (try dsimp only at hSw); go_simp; try with_reducible rfl)
        try simp only [Act.put, List.setIfInBounds_toArray, List.set_cons_zero, List.set_cons_succ]
        refine anyE_take [14, 15, 16, 17, 18, 20] (i := 13) (v := ?_) rfl (by kernel_rfl) (by kernel_rfl) (by kernel_rfl) (by kernel_rfl) (fun _ _ _ h => h) (Or.inl ⟨by rfl, ?_⟩) hS0 ?_
        rotate_left
        · (intro w hSw; (try dsimp only at hSw); go_simp; try with_reducible rfl)
        try simp only [Act.put, List.setIfInBounds_toArray, List.set_cons_zero, List.set_cons_succ]
        refine anyE_take [15, 16, 17, 18, 20] (i := 14) (v := ?_) rfl (by kernel_rfl) (by kernel_rfl) (by kernel_rfl) (by kernel_rfl) (fun _ _ _ h => h) (Or.inl ⟨by rfl, ?_⟩) hS0 ?_
        rotate_left
        · (intro w hSw; (try dsimp only at hSw); go_simp; try with_reducible rfl)
        try simp only [Act.put, List.setIfInBounds_toArray, List.set_cons_zero, List.set_cons_succ]
        refine anyE_one (i := 8) (by kernel_rfl) rfl (fun K hK => ?_)
        go_simp
        refine (cc1.out _ (by repeat (first | exact Below.refl _ _ | assumption | refine Below.drew ?_ | refine balloc ?_ _))).mono ?_
        rintro e w5 ⟨A6, c6, rfl, hown6, hd6⟩
        have hb6 : Below wr.heap.size wr w5 := Below.trans (by repeat (first | exact Below.refl _ _ | assumption | refine Below.drew ?_ | refine balloc ?_ _)) (hd6.mono (Below.size (w := wr) (B := wr.heap.size) (by repeat (first | exact Below.refl _ _ | assumption | refine Below.drew ?_ | refine balloc ?_ _))))
        have ho6 := own_base hown6 (Below.size (w := wr) (B := wr.heap.size) (by repeat (first | exact Below.refl _ _ | assumption | refine Below.drew ?_ | refine balloc ?_ _)))
        clear hown6
        go_wp2_with fail
        refine hK.out _ _ (fun _ => Keep.out _ (Below.mono hb6 hle) (CellF.out _ hb6).2.2.2.1) ?_
        clear hK K
        try simp only [Act.put, List.setIfInBounds_toArray, List.set_cons_zero, List.set_cons_succ]
        refine anyE_one (i := 15) (by kernel_rfl) rfl (fun K hK => ?_)
        go_simp
        refine (cc2.out _ (by repeat (first | exact Below.refl _ _ | assumption | refine Below.drew ?_ | refine balloc ?_ _))).mono ?_
        rintro e w6 ⟨A7, c7, rfl, hown7, hd7⟩
        have hb7 : Below wr.heap.size wr w6 := Below.trans (by repeat (first | exact Below.refl _ _ | assumption | refine Below.drew ?_ | refine balloc ?_ _)) (hd7.mono (Below.size (w := wr) (B := wr.heap.size) (by repeat (first | exact Below.refl _ _ | assumption | refine Below.drew ?_ | refine balloc ?_ _))))
        have ho7 := own_base hown7 (Below.size (w := wr) (B := wr.heap.size) (by repeat (first | exact Below.refl _ _ | assumption | refine Below.drew ?_ | refine balloc ?_ _)))
        have ho6b := own_below (by repeat (first | exact ho6 | refine World.ownsRow.drew ?_)) hd7
        clear hown7 ho6
        go_wp2_with fail
        have hS2 := Keep.out _ (Below.mono hb7 hle) (CellF.out _ hb7).2.2.2.1
        refine hK.out _ _ (fun _ => hS2) ?_
        clear hK K
        try simp only [Act.put, List.setIfInBounds_toArray, List.set_cons_zero, List.set_cons_succ]
        refine anyE_take [17, 18, 20] (i := 16) (v := ?_) rfl (by kernel_rfl) (by kernel_rfl) (by kernel_rfl) (by kernel_rfl) (fun _ _ _ h => h) (Or.inl ⟨by rfl, ?_⟩) hS2 ?_
        rotate_left
        · (intro w hSw; (try dsimp only at hSw); go_simp; try with_reducible rfl)
        try simp only [Act.put, List.setIfInBounds_toArray, List.set_cons_zero, List.set_cons_succ]
        refine anyE_one (i := 17) (by kernel_rfl) rfl (fun K hK => ?_)
        go_simp
        refine hK.out _ _ (fun _ => Keep.out _ (Below.mono (by repeat (first | exact Below.refl _ _ | assumption | refine Below.drew ?_ | refine balloc ?_ _)) hle) (CellF.out _ (by repeat (first | exact Below.refl _ _ | assumption | refine Below.drew ?_ | refine balloc ?_ _))).2.2.2.1) ?_
        clear hK K
        try simp only [Act.put, List.setIfInBounds_toArray, List.set_cons_zero, List.set_cons_succ]
        refine anyE_one (i := 18) (by kernel_rfl) rfl (fun K hK => ?_)
        refine step_app2 _ (by rfl) (.tmp 19) (.tmp 35) 22 (by rfl) wc.heap.size 84 j0 _ 2 48 Tryd.underlying22 hj hy0 hy1 hy2 (by rfl) (by decide) (.slice AIx k cIx) k (flatV ps) (by rfl)
          (own_below HIt.out.2.1 (by repeat (first | exact Below.refl _ _ | assumption | refine Below.drew ?_ | refine balloc ?_ _)))
          ⟨_, 0, none⟩ 1 1 [.slice A6 n1 c6, .slice A7 n2 c7] (by rfl) (by rfl)
          (news_blk (t := 84) (cs := #[.slice A6 n1 c6, .slice A7 n2 c7]) (by repeat (first | with_reducible exact blk_new' (by simp) | with_reducible refine Blk.drew ?_ | with_reducible refine Blk.alloc ?_ _)) _ rfl)
          (by simp [Value.oneCell']) (by omega) (by decide) (Nat.le_trans hcr (Below.size (w := wr) (B := wr.heap.size) (by repeat (first | exact Below.refl _ _ | assumption | refine Below.drew ?_ | refine balloc ?_ _)))) (k + 1) (by omega) (flatV (ps ++ [(.slice A6 n1 c6, .slice A7 n2 c7)])) (flatV_snoc _ _ _).symm ?_
        intro A8 c8 w8 hown8 hg8 hlow8 hat8
        have HB8 := Blk.grown (HBl.out.below (by repeat (first | exact Below.refl _ _ | assumption | refine Below.drew ?_ | refine balloc ?_ _)) hGr) hg8 HNE.out
        have q8 := HB8.cell 1
        have q9 := HB8.frozen 1
        have hb8 : Below (w.heap.size + 1) wr w8 := (Below.mono (by repeat (first | exact Below.refl _ _ | assumption | refine Below.drew ?_ | refine balloc ?_ _)) hle).grown hg8 (Nat.le_trans hle (Below.size (w := wr) (B := wr.heap.size) (by repeat (first | exact Below.refl _ _ | assumption | refine Below.drew ?_ | refine balloc ?_ _)))) (fun j hj => Nat.le_trans hle2 (hlow8 j hj))
        have hbw : Below wc.heap.size wr w8 := (Below.mono (by repeat (first | exact Below.refl _ _ | assumption | refine Below.drew ?_ | refine balloc ?_ _)) hcr).grown hg8 (Nat.le_trans hcr (Below.size (w := wr) (B := wr.heap.size) (by repeat (first | exact Below.refl _ _ | assumption | refine Below.drew ?_ | refine balloc ?_ _)))) (fun j hj => hlow8 j hj)
        have hO8 : Only G wc w8 := ⟨hbw.os.trans HOn.out.os, hbw.tape.trans HOn.out.tape, hbw.output.trans HOn.out.output, Nat.le_trans HOn.out.size hbw.size, fun i hi hne => (hbw.block i hi).trans (HOn.out.block i hi hne)⟩
        have hI8 := Lib.hid (HSn.out n1 n2 c6 c7 _ w8 A6 A7 A8 c8 Hn1.out Hn2.out (by repeat (first | exact Below.refl _ _ | assumption | refine Below.drew ?_ | refine balloc ?_ _)) (by repeat (first | exact ho6b | refine World.ownsRow.drew ?_ | refine World.ownsRow.alloc ?_ _)) (by repeat (first | exact ho7 | refine World.ownsRow.drew ?_ | refine World.ownsRow.alloc ?_ _)) hown8 hg8 hat8)
        clear hown8
        have hS3 := Keep.out _ hb8 q8
        refine hK.out _ _ (fun _ => hS3) ?_
        clear hK K
        try simp only [Act.put, List.setIfInBounds_toArray, List.set_cons_zero, List.set_cons_succ]
        refine anyE_take [20] (i := 19) (v := ?_) rfl (by kernel_rfl) (by kernel_rfl) (by kernel_rfl) (by kernel_rfl) (fun _ _ _ h => h) (Or.inl ⟨by rfl, ?_⟩) hS3 ?_
        rotate_left
        · (intro w hSw; (try dsimp only at hSw); go_simp; try with_reducible rfl)
        try simp only [Act.put, List.setIfInBounds_toArray, List.set_cons_zero, List.set_cons_succ]
        refine anyE_one (i := 20) (by kernel_rfl) rfl (fun K hK => ?_)
        go_simp
        refine hK.out _ _ (fun h => absurd h (by decide)) ?_
        clear hK K
        refine anyE_done (by kernel_rfl) ?_ _
        try simp only [Act.put, List.setIfInBounds_toArray, List.set_cons_zero, List.set_cons_succ]
        have HI9 := Lib.hid (hI8.out.put hGc 1 (.slice A8 (k + 1) c8))
        have HO9 := Lib.hid (hO8.put 1 (.slice A8 (k + 1) c8))
        have HB9 := Lib.hid (HB8.put 1 (.slice A8 (k + 1) c8))
        go_wp2_with fail
        go_roundw
        case rel => exact ⟨k + 1, A8, c8, _, by omega, by go_num, HI9.out, HO9.out, HB9.out⟩
        case measure => simp [intOf]; omega
      · obtain rfl : k = b.its.length := by omega
        obtain ⟨y0, y1, y2, f0, f1, f2⟩ := blk3 HBl.out
        obtain ⟨x0, x1, x2⟩ := HCr.out
        have hn1 : w.heap.size + 1 < wc.heap.size := by omega
        have HR1 := Lib.hid (show Blk wr (w.heap.size + 1) 25 #[.int .i64 0, .slice none 0 0, .slice none 0 0] from ((HOn.out.block (w.heap.size + 1) hn1 (fun e => by injection e with e; omega))).trans (HB1.out.below Hbc.out HB1.out.lt))
        obtain ⟨t0, t1, t2, g0, g1, g2⟩ := blk3 HR1.out
        go_wp2_with fail
        have hn2 : w.heap.size + 1 < wr.heap.size := HR1.out.lt
        have HP := Lib.hid (fun u0 u1 u2 => (((Only.refl (w.heap.size + 1) wr).put 0 u0).put 1 u1).put 2 u2)
        have HI := Lib.hid (((HIt.out.put hn1 0 (.int .i64 b.p)).put hn1 1 (.slice AIx b.its.length cIx)).put hn1 2 (.slice A5 b.rus.length c5))
        have HR := Lib.hid (((HRN.out.1.keep (fun _ h => h.1) HOn.out).keep (fun _ h => by have := h.2; omega) (HP.out (.int .i64 b.p) (.slice AIx b.its.length cIx) (.slice A5 b.rus.length c5))).imp (N' := fun x => w.heap.size < x) (fun x h => by have := h.2; omega))
        have hlw : w.heap.size < wc.heap.size := by omega
        have HB2 := Lib.hid (((HR1.out.put 0 (.int .i64 b.p)).put 1 (.slice AIx b.its.length cIx)).put 2 (.slice A5 b.rus.length c5))
        have HD := Lib.hid (below_put' (below_put' (below_put' hlow (Nat.le_succ w.heap.size) 0 (.int .i64 b.p)) (Nat.le_succ w.heap.size) 1 (.slice AIx b.its.length cIx)) (Nat.le_succ w.heap.size) 2 (.slice A5 b.rus.length c5))
        refine bodyPost_ret (results_cell_row rfl _ _ (w.heap.size + 1) 25 _ (0, 0) _ rfl HB2.out Tryd.underlying25 rfl (by kernel_rfl)) rfl ⟨AIx, A5, cIx, c5, _, wc.heap.size, rfl, hlw, HI.out, ⟨HR.out, HRN.out.2⟩, HD.out⟩
end Go.Proofs.YtgoojcjfhghmgaaDoor


set_option linter.unusedSimpArgs false
set_option linter.unusedVariables false
namespace Go.Proofs.YtgoojcjfhghmgaaDoor
open Go Go.RowKit

/-- The values in the cells of rules. -/
def RuQ (N : Nat → Prop) (w : World) (qs : List (Value × Value)) (l : List Ru) : Prop := qs.length = l.length ∧ ∀ k (hk : k < l.length), ∃ A1 c1, qs[k]? = some (.slice A1 l[k].1.length c1, .int .i64 l[k].2) ∧ IntsN N w.heap.size w A1 l[k].1
theorem RusAt.toN {N : Nat → Prop} {B : Nat} {w : World} {A : Option Addr} {l : List Ru} (h : RusAt B w A l) (hB : B ≤ w.heap.size) (hN : ∀ b, b < B → N b) : RusN N w A l := fun k hk => by
  obtain ⟨b, off, A1, c1, e, h1, h2, h3, h4⟩ := h k hk
  refine ⟨b, off, A1, c1, e, hN b h1, by omega, h2, h3, fun j hj => ?_⟩
  obtain ⟨b', off', e', hb', hc⟩ := h4.at hj
  exact ⟨b', off', e', hN b' hb', by omega, hc⟩
theorem RusN.row {N : Nat → Prop} {w : World} {A : Option Addr} {l : List Ru} (h : RusN N w A l) : ∃ qs, RuQ N w qs l ∧ (∀ ad, A = some ad → ∀ j u, (flatV qs)[j]? = some u → w.cell? (ad.add j) = some u) ∧ (∀ u ∈ flatV qs, u.oneCell' = true) := by
  have key : ∀ k, ∃ q : Value × Value, ∀ (hk : k < l.length), ∃ b off A1 c1, A = some ⟨b, off, none⟩ ∧ q = (.slice A1 l[k].1.length c1, .int .i64 l[k].2) ∧ w.cell? ⟨b, off + k * 2, none⟩ = some q.1 ∧ w.cell? ⟨b, off + k * 2 + 1, none⟩ = some q.2 ∧ IntsN N w.heap.size w A1 l[k].1 := fun k => by
    by_cases hk : k < l.length
    · obtain ⟨b, off, A1, c1, e, _, _, h2, h3, h4⟩ := h k hk
      exact ⟨(.slice A1 l[k].1.length c1, .int .i64 l[k].2), fun _ => ⟨b, off, A1, c1, e, rfl, h2, h3, h4⟩⟩
    · exact ⟨(.int .i64 0, .int .i64 0), fun h => absurd h hk⟩
  obtain ⟨f, hf⟩ : ∃ f : Nat → Value × Value, ∀ k (hk : k < l.length), ∃ b off A1 c1, A = some ⟨b, off, none⟩ ∧ f k = (.slice A1 l[k].1.length c1, .int .i64 l[k].2) ∧ w.cell? ⟨b, off + k * 2, none⟩ = some (f k).1 ∧ w.cell? ⟨b, off + k * 2 + 1, none⟩ = some (f k).2 ∧ IntsN N w.heap.size w A1 l[k].1 := ⟨fun k => Classical.choose (key k), fun k hk => Classical.choose_spec (key k) hk⟩
  have hlen : ((List.range l.length).map f).length = l.length := by simp
  have hget : ∀ k, k < l.length → ((List.range l.length).map f)[k]? = some (f k) := fun k hk => by simp [hk]
  refine ⟨(List.range l.length).map f, ⟨hlen, fun k hk => ?_⟩, fun ad had j u hu => ?_, flatV_one fun q hq => ?_⟩
  · obtain ⟨b, off, A1, c1, _, e, _, _, h4⟩ := hf k hk
    exact ⟨A1, c1, by rw [hget k hk, e], h4⟩
  · have hj : j < l.length * 2 := by
      have := (List.getElem?_eq_some_iff.1 hu).1
      rw [flatV_length, hlen] at this
      exact this
    obtain ⟨b, off, A1, c1, e, _, h2, h3, _⟩ := hf (j / 2) (by omega)
    obtain ⟨e0, e1⟩ := flatV_get ((List.range l.length).map f) (j / 2) (by rw [hlen]; omega)
    rw [had] at e
    injection e with e
    subst e
    rw [Addr.add_lit]
    rcases Nat.mod_two_eq_zero_or_one j with hm | hm
    · rw [show j / 2 * 2 = j by omega] at h2 e0
      rw [h2, ← hu, e0]; simp
    · rw [show off + j / 2 * 2 + 1 = off + j by omega] at h3
      rw [show j / 2 * 2 + 1 = j by omega] at e1
      rw [h3, ← hu, e1]; simp
  · obtain ⟨k, hk, rfl⟩ := List.mem_map.1 hq
    obtain ⟨_, _, _, _, _, e, _⟩ := hf k (List.mem_range.1 hk)
    rw [e]; exact ⟨rfl, rfl⟩
theorem RuQ.erase {N : Nat → Prop} {w : World} {qs : List (Value × Value)} {l : List Ru} (h : RuQ N w qs l) (k : Nat) : RuQ N w (qs.eraseIdx k) (l.eraseIdx k) := by
  refine ⟨by simp [List.length_eraseIdx, h.1], fun i hi => ?_⟩
  have hl : (l.eraseIdx k)[i]? = some (l.eraseIdx k)[i] := List.getElem?_eq_getElem hi
  rw [List.getElem?_eraseIdx] at hl ⊢
  by_cases e : i < k
  · rw [if_pos e] at hl ⊢
    obtain ⟨h1, h2⟩ := List.getElem?_eq_some_iff.1 hl
    obtain ⟨A1, c1, q1, q2⟩ := h.2 i h1
    rw [h2] at q1 q2
    exact ⟨A1, c1, q1, q2⟩
  · rw [if_neg e] at hl ⊢
    obtain ⟨h1, h2⟩ := List.getElem?_eq_some_iff.1 hl
    obtain ⟨A1, c1, q1, q2⟩ := h.2 (i + 1) h1
    rw [h2] at q1 q2
    exact ⟨A1, c1, q1, q2⟩
theorem IntsN.below {N : Nat → Prop} {w w' : World} {A : Option Addr} {zs : List Int} (h : IntsN N w.heap.size w A zs) (hb : Below w.heap.size w w') : IntsN N w'.heap.size w' A zs := fun j hj => by
  obtain ⟨b, off, e, hn, hlt, hc⟩ := h j hj
  exact ⟨b, off, e, hn, Nat.lt_of_lt_of_le hlt hb.size, (hb.cell (p := ⟨b, off + j, none⟩) hlt).trans hc⟩
theorem IntsN.lt {N : Nat → Prop} {B : Nat} {w : World} {A : Option Addr} {zs : List Int} (h : IntsN N B w A zs) : IntsN (fun x => N x ∧ x < B) B w A zs := fun j hj => by
  obtain ⟨b, off, e, hn, hb, hc⟩ := h j hj
  exact ⟨b, off, e, ⟨hn, hb⟩, hb, hc⟩
theorem RusN.lt {N : Nat → Prop} {w : World} {A : Option Addr} {l : List Ru} (h : RusN N w A l) : RusN (fun x => N x ∧ x < w.heap.size) w A l := fun k hk => by
  obtain ⟨b, off, A1, c1, e, hn, h1, h2, h3, h4⟩ := h k hk
  exact ⟨b, off, A1, c1, e, ⟨hn, h1⟩, h1, h2, h3, h4.lt⟩
theorem ItC.below {lo k : Nat} {out : Value} {w w' : World} {ps : List (Value × Value)} {l : List It} (h : ItC lo out w ps l k) (hb : Below w.heap.size w w') : ItC lo out w' ps l k := by
  obtain ⟨h1, h2, h3, h4, h5, h6⟩ := h
  exact ⟨h1, own_below h2 hb, h3.below hb, h4.below hb, h5, h6⟩
theorem RusN.below {N : Nat → Prop} {w w' : World} {A : Option Addr} {l : List Ru} (h : RusN N w A l) (hb : Below w.heap.size w w') : RusN N w' A l := fun k hk => by
  obtain ⟨b, off, A1, c1, e, hn, h1, h2, h3, h4⟩ := h k hk
  exact ⟨b, off, A1, c1, e, hn, Nat.lt_of_lt_of_le h1 hb.size, (hb.cell (p := ⟨b, off + k * 2, none⟩) h1).trans h2, (hb.cell (p := ⟨b, off + k * 2 + 1, none⟩) h1).trans h3, h4.below hb⟩
/-- Rules in a new row. -/
theorem RuQ.rus {N : Nat → Prop} {w w' : World} {qs : List (Value × Value)} {l : List Ru} {base n c : Nat} {A : Option Addr} (h : RuQ N w qs l) (hb : Below w.heap.size w w') (hown : w'.ownsRow base 42 2 (.slice A n c) n (flatV qs)) (hn : l.length = n) (hN : ∀ b, base ≤ b → N b) : RusN N w' A l := fun k hk => by
  have hkp : k < qs.length := by rw [h.1]; exact hk
  obtain ⟨g, rfl, hg, q0, q1⟩ := own_cell2 hown (h.1.trans hn) hkp
  obtain ⟨A1, c1, e1, i1⟩ := h.2 k hk
  rw [List.getElem?_eq_getElem hkp] at e1
  injection e1 with e1
  have hgb := (hown.lt g rfl).1
  exact ⟨g, 0, A1, c1, rfl, hN g hgb, hg, by rw [Nat.zero_add, q0, e1], by rw [Nat.zero_add, q1, e1], i1.below hb⟩

set_option maxRecDepth 100000 in
set_option maxHeartbeats 4000000 in
theorem Reduce_ref (AI AR : Option Addr) (cI cR B : Nat) (b : Bk) (w : World) (hB : B ≤ w.heap.size) (h : ItsAt B w AI b.its) (h' : RusAt B w AR b.rus) (hs : Short b) (h0 : vlR b = 0) :
    Calls Tryd.prog 48 #[.agg #[.int .i64 b.p, .slice AI b.its.length cI, .slice AR b.rus.length cR]] w fun e w' => ∃ AI' AR' cI' cR' m, e = .returned (.tuple #[.agg #[.int .i64 b.p, .slice AI' b.its.length cI', .slice AR' (List.length m) cR'], .int .i64 0]) ∧
      ItsAt w'.heap.size w' AI' b.its ∧ RedR b.p.toNat b.rus.length b.rus m ∧ RusAt w'.heap.size w' AR' m ∧ Below w.heap.size w w' := by
  have hv := vl_zero h0
  have hT := h.below (Below.refl _ _) hB
  have hT' := h'.below (Below.refl _ _) hB
  have cv := Lib.hid (fun W (hW : Below w.heap.size w W) => Validate_ref AI AR cI cR w.heap.size b W hW.size (hT.below hW (Nat.le_refl _)) (hT'.below hW (Nat.le_refl _)) hs)
  have cc := Lib.hid (fun W (hW : Below w.heap.size w W) => Copy_own AI AR cI cR w.heap.size b W hW.size (hT.below hW (Nat.le_refl _)) (hT'.below hW (Nat.le_refl _)) hs)
  rw [h0] at cv
  obtain ⟨bp, its, rus⟩ := b
  simp only at hv cv cc ⊢
  obtain ⟨p, rfl⟩ := Int.eq_ofNat_of_zero_le hv.p0
  have hp10 : p ≤ 10 := by have := hv.p1; simp at this; omega
  have nr : rus.length ≤ 60 := hs.2.1
  have HRules := Lib.hid (show ∀ x ∈ rus, ruOk p x = true ∧ x.1.length ≤ 40 from fun x hx => ⟨hv.rules x hx, hs.2.2.2 x hx⟩)
  have HB0 := Lib.hid (show Below w.heap.size w ((w.alloc (.cells #[.int .i64 p, .slice AI its.length cI, .slice AR rus.length cR] 25)).alloc (.cells #[.int .i64 0, .slice none 0 0, .slice none 0 0] 25)) from balloc (balloc (Below.refl _ _) _) _)
  simp only [Int.toNat_natCast]
  clear h h' hs hT hT' hv h0 hB
  obtain ⟨i0, hi, hz0, hz1, hz2⟩ := info_parts info42
  go_enter Tryd.func48, Tryd.ntmps48
  go_wp2_with fail
  generalize hW0 : (w.alloc (.cells #[.int .i64 p, .slice AI its.length cI, .slice AR rus.length cR] 25)).alloc (.cells #[.int .i64 0, .slice none 0 0, .slice none 0 0] 25) = W0
  rw [hW0] at HB0
  have HK0 := Lib.hid (show Blk W0 w.heap.size 25 #[.int .i64 p, .slice AI its.length cI, .slice AR rus.length cR] by rw [← hW0]; exact (Blk.new _ _ _).alloc _)
  have HK1 := Lib.hid (show Blk W0 (w.heap.size + 1) 25 #[.int .i64 0, .slice none 0 0, .slice none 0 0] by rw [← hW0]; exact blk_new' (by simp))
  have HS0 := Lib.hid (show w.heap.size + 1 < W0.heap.size from HK1.out.lt)
  clear hW0
  go_wp2_with (first
    | (go_at_call 21; refine (cv.out _ HB0.out).mono ?_; rintro e w1 ⟨rfl, hb1⟩; obtain ⟨x0, x1, x2, _⟩ := blk3 (HK0.out.below hb1 HK0.out.lt); have hB1 := HB0.out.trans (hb1.mono HB0.out.size))
    | (go_at_call 19; refine (cc.out _ hB1).mono ?_; rintro e w2 ⟨AI', AR', cI', cR', ps, lo, rfl, hlo, hit, ⟨hru, hcap⟩, hb2⟩))
  generalize hW3 : w2.alloc (.cells #[.int .i64 p, .slice AI' its.length cI', .slice AR' rus.length cR'] 25) = w3
  have hb23 : Below w2.heap.size w2 w3 := by rw [← hW3]; exact balloc (Below.refl _ _) _
  have HKG := Lib.hid (show Blk w3 w2.heap.size 25 #[.int .i64 p, .slice AI' its.length cI', .slice AR' rus.length cR'] by rw [← hW3]; exact Blk.new _ _ _)
  have hB2 := hb1.trans (hb2.mono hb1.size)
  have HIt := Lib.hid hit
  have HL1 := Lib.hid (show w.heap.size + 1 < lo by have := HS0.out; have := hb1.size; omega)
  obtain ⟨N, hN⟩ : ∃ N : Nat → Prop, N = fun x => x ≠ w2.heap.size ∧ w.heap.size + 1 < x := ⟨_, rfl⟩
  have HNg := Lib.hid (show (∀ x, N x → x ≠ w2.heap.size) ∧ (∀ x, N x → x ≠ w.heap.size + 1) ∧ ∀ x, w2.heap.size < x → N x from by
    rw [hN]
    refine ⟨fun x h => h.1, fun x h => by have := h.2; omega, fun x h => ⟨by omega, ?_⟩⟩
    have := HS0.out; have := hB2.size; omega)
  have HRu := Lib.hid (show RusN N w3 AR' rus from ((hru.lt.imp (N' := N) (fun x h => by
    rw [hN]
    have := HS0.out; have := hb1.size
    exact ⟨by have := h.2; omega, by have := h.1; omega⟩)).below hb23))
  have HK12 := Lib.hid (HK1.out.below hB2 HK1.out.lt)
  have HK02 := Lib.hid (HK0.out.below hB2 HK0.out.lt)
  have HB3 := Lib.hid (hB2.trans (hb23.mono hB2.size))
  have HBw := Lib.hid (HB0.out.trans (hB2.mono HB0.out.size))
  have H23 := Lib.hid hb23
  clear hW3 hit hru hlo hb23 hb1 hb2 hB1 hB2 x0 x1 x2 hN
  go_loopw [6] (fun s wr => ∃ (k : Nat) (cur : List Ru) (A : Option Addr) (c : Nat), k ≤ cur.length ∧ cur.length ≤ rus.length ∧ s = .int .i64 ((k : Int) - 1) ∧ cur.length ≤ c ∧ Aside (∀ m, RedR p k cur m → RedR p rus.length rus m) ∧ Aside (∀ x ∈ cur, x ∈ rus) ∧ Aside (RusN N wr A cur) ∧ Aside (Blk wr w2.heap.size 25 #[.int .i64 p, .slice AI' its.length cI', .slice A cur.length c]) ∧ Aside (Below w2.heap.size w2 wr)) (fun s _ => (intOf s + 1).toNat)
  case atStart => exact ⟨rus.length, rus, AR', cR', Nat.le_refl _, Nat.le_refl _, rfl, hcap, fun _ h => h, fun _ h => h, HRu.out, HKG.out, H23.out⟩
  case round =>
    clear HRu HKG hcap
    obtain ⟨k, cur, A, c, hk, hcl, rfl, hcc, hred, hsub, hru, hbl, hbr⟩ := hrel
    have HRed := Lib.hid hred.out
    have HSub := Lib.hid hsub.out
    have HRu := Lib.hid hru.out
    have HBl := Lib.hid hbl.out
    have HBr := Lib.hid hbr.out
    have hGr : w2.heap.size < wr.heap.size := hbl.out.lt
    obtain ⟨y0, y1, y2, f0, f1, f2⟩ := blk3 hbl.out
    clear hred hsub hru hbl hbr
    cases k with
    | zero =>
      have HR1 := Lib.hid (HK12.out.below HBr.out HK12.out.lt)
      obtain ⟨t0, t1, t2, g0, g1, g2⟩ := blk3 HR1.out
      have hlR : w.heap.size + 1 < wr.heap.size := HR1.out.lt
      have HM := Lib.hid (HRed.out cur rfl)
      clear hk
      go_wp2_with fail
      have HP := Lib.hid ((((Only.refl (w.heap.size + 1) wr).put 0 (.int .i64 p)).put 1 (.slice AI' its.length cI')).put 2 (.slice A cur.length c))
      have HB2 := Lib.hid (((HR1.out.put 0 (.int .i64 p)).put 1 (.slice AI' its.length cI')).put 2 (.slice A cur.length c))
      have hlow := HBw.out.trans (HBr.out.mono HBw.out.size)
      refine bodyPost_ret (results_cell_row2 rfl _ _ (w.heap.size + 1) 25 _ (0, 0) _ rfl HB2.out Tryd.underlying25 rfl (by kernel_rfl)) rfl ⟨AI', A, cI', c, cur, rfl, ?_, HM.out, ?_, ?_⟩
      · exact ((((HIt.out.below HBr.out).put HL1.out 0 (.int .i64 p)).put HL1.out 1 (.slice AI' its.length cI')).put HL1.out 2 (.slice A cur.length c)).at
      · exact (HRu.out.keep HNg.out.2.1 HP.out).at
      · exact hlow.trans (HP.out.below (Nat.le_succ _) hlow.size)
    | succ k =>
      have e : (((k + 1 : Nat) : Int) - 1) = (k : Int) := by omega
      rw [e]
      clear e
      have hkl : k < cur.length := by omega
      have hkb : k ≤ 1000 := by omega
      obtain ⟨g, off, A1, c1, rfl, hNg, hg, e0, e1, i1⟩ := HRu.out k hkl
      obtain ⟨hrok, h40⟩ := HRules.out _ (HSub.out _ (List.getElem_mem hkl))
      obtain ⟨hset, ht0, htp⟩ := ruOk_mem hrok
      obtain ⟨zn, hzn⟩ := Int.eq_ofNat_of_zero_le ht0
      rw [hzn] at e1 htp
      have hps := isS_mem hset
      have hin : intL (natL cur[k].1) = cur[k].1 := int_nat fun x hx => (hps x hx).1
      have hlp := natL_lt hps
      have hzp : zn < p := by omega
      have hzI : (zn : Int) < (p : Int) := by omega
      have hz0' : (0 : Int) ≤ (zn : Int) := by omega
      obtain ⟨n1, hn1⟩ : ∃ n1, n1 = cur[k].1.length := ⟨_, rfl⟩
      rw [← hn1] at e0
      obtain ⟨qs, hq, hqc, hq1⟩ := HRu.out.row
      have HQ := Lib.hid hq
      have HQ1 := Lib.hid hq1
      have HQc := Lib.hid hqc
      have hql : qs.length = cur.length := hq.1
      have htk : (flatV (qs.take k)).length = k * 2 := by rw [flatV_length]; simp; omega
      have hdk : (flatV (qs.drop (k + 1))).length = (cur.length - (k + 1)) * 2 := by rw [flatV_length]; simp; omega
      have hsp : flatV qs = flatV (qs.take k) ++ (flatV ((qs.drop k).take 1) ++ flatV (qs.drop (k + 1))) := by
        rw [← flatV_append, ← flatV_append, show qs.drop (k + 1) = (qs.drop k).drop 1 by simp, List.take_append_drop, List.take_append_drop]
      have h1k : (flatV ((qs.drop k).take 1)).length = 2 := by rw [flatV_length]; simp; omega
      have Hsrc1 := Lib.hid (show ∀ W, Below wr.heap.size wr W → ∀ ad, (some ⟨g, off, none⟩ : Option Addr) = some ad → ∀ j u, (flatV (qs.take k))[j]? = some u → W.cell? (ad.add j) = some u from fun W hW ad had j u hu => by
        injection had with had
        subst had
        have hj := (List.getElem?_eq_some_iff.1 hu).1
        have := hqc _ rfl j u (by rw [hsp, List.getElem?_append_left hj]; exact hu)
        rw [Addr.add_lit] at this ⊢
        exact (hW.cell (p := ⟨g, off + j, none⟩) hg).trans this)
      obtain ⟨Ad, hAd, hsrc2⟩ : ∃ Ad : Option Addr, (if c = k + 1 then (some ⟨g, off, none⟩ : Option Addr) else some ⟨g, off + (k + 1) * 2, none⟩) = Ad ∧ (Ad ≠ none ∧ ∀ W, Below wr.heap.size wr W → ∀ ad, Ad = some ad → ∀ j u, (flatV (qs.drop (k + 1)))[j]? = some u → W.cell? (ad.add j) = some u) := by
        refine ⟨_, rfl, by split <;> simp, fun W hW ad had j u hu => ?_⟩
        have hj := (List.getElem?_eq_some_iff.1 hu).1
        have hne : ¬ c = k + 1 := fun e => by omega
        rw [if_neg hne] at had
        injection had with had
        subst had
        have := hqc _ rfl ((k + 1) * 2 + j) u (by rw [hsp, List.getElem?_append_right (by omega), List.getElem?_append_right (by omega), ← hu]; congr 1; omega)
        rw [Addr.add_lit] at this ⊢
        rw [← Nat.add_assoc] at this
        exact (hW.cell (p := ⟨g, off + (k + 1) * 2 + j, none⟩) hg).trans this
      have Hsrc2 := Lib.hid hsrc2
      have Hlen1 := Lib.hid htk
      have Hlen2 := Lib.hid hdk
      have Hone1 := Lib.hid (show ∀ u ∈ flatV (qs.take k), u.oneCell' = true from fun u hu => hq1 u (by rw [hsp]; exact List.mem_append.2 (.inl hu)))
      have Hone2 := Lib.hid (show ∀ u ∈ flatV (qs.drop (k + 1)), u.oneCell' = true from fun u hu => hq1 u (by rw [hsp]; exact List.mem_append.2 (.inr (List.mem_append.2 (.inr hu)))))
      have Hex := Lib.hid (show flatV (qs.take k) ++ flatV (qs.drop (k + 1)) = flatV (qs.eraseIdx k) by rw [List.eraseIdx_eq_take_drop_succ, flatV_append])
      have HK0r := Lib.hid (HK02.out.below HBr.out HK02.out.lt)
      have hK0l : w.heap.size < wr.heap.size := HK0r.out.lt
      have x0 := HK0r.out.cell 0
      have Hn1 := Lib.hid hn1
      have HI1 := Lib.hid i1.at
      have HE := Lib.hid (And.intro e0 e1)
      have hle := List.length_eraseIdx_of_lt hkl
      have Hle := Lib.hid hle
      have hkc : k ≤ c := by omega
      have hkc1 : k + 1 ≤ c := by omega
      have hkI : (k : Int) + 1 ≤ (cur.length : Int) := by omega
      have hkI0 : (0 : Int) ≤ (k : Int) + 1 := by omega
      have HNil := Lib.hid (show wr.ownsRow wr.heap.size 42 2 (.slice none 0 0) 0 [] from World.ownsRow_nil _ _ _ _)
      have tok := Lib.hid (Nat.le_refl 0)
      have Hfin := Lib.hid (show ∀ (W w' : World) (A5 : Option Addr) (c5 : Nat), Below wr.heap.size wr w' → w'.ownsRow wr.heap.size 42 2 (.slice A5 (cur.length - 1) c5) (cur.length - 1) (flatV (qs.eraseIdx k)) → RusN N w' A5 (cur.eraseIdx k) from fun _ w' A5 c5 hb ho => (HQ.out.erase k).rus hb ho hle (fun x hx => HNg.out.2.2 x (by omega)))
      clear hq hqc hq1 hql htk hdk hsp h1k i1 e0 e1 hn1 hsrc2 hle hrok hset ht0 htp y0 y1 f0 f1 f2
      go_wp2_with (first
        | (at_builtin; have tk := tok; clear tok; refine wpList_app _ rfl _ _ 23 rfl wr.heap.size 42 i0 _ 2 32 Tryd.underlying23 hi hz0 hz1 hz2 rfl (by decide) (.slice none 0 0) 0 [] rfl HNil.out (some ⟨g, off, none⟩) k c (flatV (qs.take k)) rfl Hlen1.out (fun e => by cases e) (Hsrc1.out _ (Below.refl _ _)) Hone1.out (by omega) (by decide) (Nat.le_refl _) k (by omega) (flatV (qs.take k)) rfl ?_; intro A4 c4 w4 hown4 hg4 hlow4; have tok2 := tk; have HB4 := Lib.hid (show Below wr.heap.size wr w4 from (Below.refl _ _).grown hg4 (Nat.le_refl _) hlow4); have HO4 := Lib.hid hown4; have y2 := (HBl.out.below HB4.out hGr).cell 2)
        | (at_builtin; have tk := tok2; clear tok2; refine wpList_app _ rfl _ _ 23 rfl wr.heap.size 42 i0 _ 2 32 Tryd.underlying23 hi hz0 hz1 hz2 rfl (by decide) (.slice A4 k c4) k (flatV (qs.take k)) rfl HO4.out Ad (cur.length - (k + 1)) (c - (k + 1)) (flatV (qs.drop (k + 1))) rfl Hlen2.out (fun e => absurd e Hsrc2.out.1) (Hsrc2.out.2 _ HB4.out) Hone2.out (by omega) (by decide) HB4.out.size (cur.length - 1) (by omega) (flatV (qs.eraseIdx k)) Hex.out ?_; intro A5 c5 w5 hown5 hg5 hlow5; have HB5 := Lib.hid (show Below wr.heap.size wr w5 from HB4.out.grown hg5 HB4.out.size hlow5); have HO5 := Lib.hid hown5))
      have hbi : Below wr.heap.size wr w5.drew := HB5.out.drew
      have HRe := Lib.hid (Hfin.out wr w5.drew A5 c5 hbi HO5.out.drew)
      refine wp_region_E (S := fun W => W.cell? ⟨w2.heap.size, 2, none⟩ = some (.slice (some ⟨g, off, none⟩) cur.length c) ∧ W.cell? ⟨g, off + k * 2, none⟩ = some (.slice A1 n1 c1) ∧ W.cell? ⟨g, off + k * 2 + 1, none⟩ = some (.int .i64 (zn : Nat)) ∧ W.cell? ⟨w.heap.size, 0, none⟩ = some (.int .i64 (p : Nat))) (E := fun _ => false) (by kernel_rfl) ?_
      generalize w5.drew = wi0 at hbi HRe ⊢
      have HBi := Lib.hid (Below.refl wi0.heap.size wi0)
      have HBr0 := Lib.hid hbi
      have Keep := Lib.hid (show ∀ W, Below wi0.heap.size wi0 W → W.cell? ⟨w2.heap.size, 2, none⟩ = some (.slice (some ⟨g, off, none⟩) cur.length c) ∧ W.cell? ⟨g, off + k * 2, none⟩ = some (.slice A1 n1 c1) ∧ W.cell? ⟨g, off + k * 2 + 1, none⟩ = some (.int .i64 (zn : Nat)) ∧ W.cell? ⟨w.heap.size, 0, none⟩ = some (.int .i64 (p : Nat)) from fun W hW => by
        have hbb := hbi.trans (hW.mono hbi.size)
        exact ⟨(HBl.out.below hbb hGr).cell 2, (hbb.cell (p := ⟨g, off + k * 2, none⟩) hg).trans HE.out.1, (hbb.cell (p := ⟨g, off + k * 2 + 1, none⟩) hg).trans HE.out.2, (HK0r.out.below hbb hK0l).cell 0⟩)
      have hS := Keep.out _ HBi.out
      have cm0 := fun W (hW : Below wi0.heap.size wi0 W) => marks_ref A1 c1 W.heap.size (natL (cur[k]'hkl).1) p W (Nat.le_refl _) (by rw [hin]; exact (HI1.out.below hbi hbi.size).below hW hW.size) (by rw [natL_length]; omega) hlp (by omega)
      rw [natL_length, ← Hn1.out] at cm0
      have cm := Lib.hid cm0
      have cd := Lib.hid (fun (g0 : Nat) (W : World) (hW : Below wi0.heap.size wi0 W) (hbr : BR g0 p (mk (natL (cur[k]'hkl).1)) W) => show Calls Tryd.prog 73 #[.slice A5 (cur.length - 1) c5, .slice (some ⟨g0, 0, none⟩) p p] W fun e w' => ∃ g' k' x, e = .returned (.slice (some ⟨g', 0, none⟩) p k') ∧ Cl (cur.eraseIdx k) (mk (natL (cur[k]'hkl).1)) allW x ∧ x < 2 ^ p ∧ BB g' p x w' ∧ W.heap.size ≤ g' ∧ Below W.heap.size W w' from by
        have := closed_ref A5 c5 W.heap.size g0 p p (mk (natL (cur[k]'hkl).1)) (cur.eraseIdx k) W (Nat.le_refl _) (HRe.out.at.below hW hW.size) hbr (by rw [Hle.out]; omega) (fun x hx => (HRules.out x (HSub.out x (List.mem_of_mem_eraseIdx hx))).2) (fun x hx => (HRules.out x (HSub.out x (List.mem_of_mem_eraseIdx hx))).1) hp10 (mk_lt hlp)
        rw [Hle.out] at this
        exact this)
      have Hrf := Lib.hid (show ∀ x, Cl (cur.eraseIdx k) (mk (natL (cur[k]'hkl).1)) allW x → x < 2 ^ p → FlR (cur.eraseIdx k) p (cur[k]?.getD ([], 0)) (x.testBit zn) from fun x h1 h2 => by
        rw [show cur[k]?.getD ([], 0) = cur[k] by simp [hkl]]
        exact ⟨x, h1, h2, by rw [hzn]; rfl⟩)
      have hps' := hps
      clear cm0 hbi hps hps' hin hlp hzn x0 y2 hlow4 hlow5 hown4 hown5 hg4 hg5
      generalize mk (natL (cur[k]'hkl).1) = x0 at cm cd Hrf
      refine anyE_tk 0 37 (oi := ?oi1) (v := ?v1) ?hi1 ?hd1 (by kernel_rfl) (by kernel_rfl) (by kernel_rfl) ?hQ1 ?hy1 hS ?rest1
      case hi1 => simp only [List.getElem?_toArray, List.getElem?_cons_zero, List.getElem?_cons_succ]; rfl
      case hd1 => rfl
      case hQ1 => exact fun _ _ _ h => h
      case hy1 => (refine Or.inl ⟨by rfl, ?_⟩; intro w hSw; (try dsimp only at hSw); go_simp; try with_reducible rfl)
      simp only [List.setIfInBounds_toArray, List.set_cons_zero, List.set_cons_succ]
      refine anyE_tk 1 38 (oi := ?oi2) (v := ?v2) ?hi2 ?hd2 (by kernel_rfl) (by kernel_rfl) (by kernel_rfl) ?hQ2 ?hy2 hS ?rest2
      case hi2 => simp only [List.getElem?_toArray, List.getElem?_cons_zero, List.getElem?_cons_succ]; rfl
      case hd2 => rfl
      case hQ2 => exact fun _ _ _ h => h
      case hy2 => (refine Or.inl ⟨by rfl, ?_⟩; intro w hSw; (try dsimp only at hSw); go_simp; try with_reducible rfl)
      simp only [List.setIfInBounds_toArray, List.set_cons_zero, List.set_cons_succ]
      refine anyE_tk 2 39 (oi := ?oi3) (v := ?v3) ?hi3 ?hd3 (by kernel_rfl) (by kernel_rfl) (by kernel_rfl) ?hQ3 ?hy3 hS ?rest3
      case hi3 => simp only [List.getElem?_toArray, List.getElem?_cons_zero, List.getElem?_cons_succ]; rfl
      case hd3 => rfl
      case hQ3 => exact fun _ _ _ h => h
      case hy3 => (refine Or.inl ⟨by rfl, ?_⟩; intro w hSw; (try dsimp only at hSw); go_simp; try with_reducible rfl)
      simp only [List.setIfInBounds_toArray, List.set_cons_zero, List.set_cons_succ]
      refine anyE_tk 3 40 (oi := ?oi4) (v := ?v4) ?hi4 ?hd4 (by kernel_rfl) (by kernel_rfl) (by kernel_rfl) ?hQ4 ?hy4 hS ?rest4
      case hi4 => simp only [List.getElem?_toArray, List.getElem?_cons_zero, List.getElem?_cons_succ]; rfl
      case hd4 => rfl
      case hQ4 => exact fun _ _ _ h => h
      case hy4 => (refine Or.inl ⟨by rfl, ?_⟩; intro w hSw; (try dsimp only at hSw); go_simp; try with_reducible rfl)
      simp only [List.setIfInBounds_toArray, List.set_cons_zero, List.set_cons_succ]
      refine anyE_tk 4 41 (oi := ?oi5) (v := ?v5) ?hi5 ?hd5 (by kernel_rfl) (by kernel_rfl) (by kernel_rfl) ?hQ5 ?hy5 hS ?rest5
      case hi5 => simp only [List.getElem?_toArray, List.getElem?_cons_zero, List.getElem?_cons_succ]; rfl
      case hd5 => rfl
      case hQ5 => exact fun _ _ _ h => h
      case hy5 => (refine Or.inl ⟨by rfl, ?_⟩; intro w hSw; (try dsimp only at hSw); go_simp; try with_reducible rfl)
      simp only [List.setIfInBounds_toArray, List.set_cons_zero, List.set_cons_succ]
      refine anyE_tk 5 42 (oi := ?oi6) (v := ?v6) ?hi6 ?hd6 (by kernel_rfl) (by kernel_rfl) (by kernel_rfl) ?hQ6 ?hy6 hS ?rest6
      case hi6 => simp only [List.getElem?_toArray, List.getElem?_cons_zero, List.getElem?_cons_succ]; rfl
      case hd6 => rfl
      case hQ6 => exact fun _ _ _ h => h
      case hy6 => (refine Or.inl ⟨by rfl, ?_⟩; intro w hSw; (try dsimp only at hSw); go_simp; try with_reducible rfl)
      simp only [List.setIfInBounds_toArray, List.set_cons_zero, List.set_cons_succ]
      refine anyE_tk 6 43 (oi := ?oi7) (v := ?v7) ?hi7 ?hd7 (by kernel_rfl) (by kernel_rfl) (by kernel_rfl) ?hQ7 ?hy7 hS ?rest7
      case hi7 => simp only [List.getElem?_toArray, List.getElem?_cons_zero, List.getElem?_cons_succ]; rfl
      case hd7 => rfl
      case hQ7 => exact fun _ _ _ h => h
      case hy7 => (refine Or.inl ⟨by rfl, ?_⟩; intro w hSw; (try dsimp only at hSw); go_simp; try with_reducible rfl)
      simp only [List.setIfInBounds_toArray, List.set_cons_zero, List.set_cons_succ]
      refine anyE_tk 7 44 (oi := ?oi8) (v := ?v8) ?hi8 ?hd8 (by kernel_rfl) (by kernel_rfl) (by kernel_rfl) ?hQ8 ?hy8 hS ?rest8
      case hi8 => simp only [List.getElem?_toArray, List.getElem?_cons_zero, List.getElem?_cons_succ]; rfl
      case hd8 => rfl
      case hQ8 => exact fun _ _ _ h => h
      case hy8 => (refine Or.inl ⟨by rfl, ?_⟩; intro w hSw; (try dsimp only at hSw); go_simp; try with_reducible rfl)
      simp only [List.setIfInBounds_toArray, List.set_cons_zero, List.set_cons_succ]
      refine anyE_tk 8 45 (oi := ?oi9) (v := ?v9) ?hi9 ?hd9 (by kernel_rfl) (by kernel_rfl) (by kernel_rfl) ?hQ9 ?hy9 hS ?rest9
      case hi9 => simp only [List.getElem?_toArray, List.getElem?_cons_zero, List.getElem?_cons_succ]; rfl
      case hd9 => rfl
      case hQ9 => exact fun _ _ _ h => h
      case hy9 => (refine Or.inl ⟨by rfl, ?_⟩; intro w hSw; (try dsimp only at hSw); go_simp; try with_reducible rfl)
      simp only [List.setIfInBounds_toArray, List.set_cons_zero, List.set_cons_succ]
      refine anyE_tk 11 48 (oi := ?oi10) (v := ?v10) ?hi10 ?hd10 (by kernel_rfl) (by kernel_rfl) (by kernel_rfl) ?hQ10 ?hy10 hS ?rest10
      case hi10 => simp only [List.getElem?_toArray, List.getElem?_cons_zero, List.getElem?_cons_succ]; rfl
      case hd10 => rfl
      case hQ10 => exact fun _ _ _ h => h
      case hy10 => (refine Or.inl ⟨by rfl, ?_⟩; intro w hSw; (try dsimp only at hSw); go_simp; try with_reducible rfl)
      simp only [List.setIfInBounds_toArray, List.set_cons_zero, List.set_cons_succ]
      refine anyE_tk 12 49 (oi := ?oi11) (v := ?v11) ?hi11 ?hd11 (by kernel_rfl) (by kernel_rfl) (by kernel_rfl) ?hQ11 ?hy11 hS ?rest11
      case hi11 => simp only [List.getElem?_toArray, List.getElem?_cons_zero, List.getElem?_cons_succ]; rfl
      case hd11 => rfl
      case hQ11 => exact fun _ _ _ h => h
      case hy11 => (refine Or.inl ⟨by rfl, ?_⟩; intro w hSw; (try dsimp only at hSw); go_simp; try with_reducible rfl)
      simp only [List.setIfInBounds_toArray, List.set_cons_zero, List.set_cons_succ]
      refine anyE_tk 13 50 (oi := ?oi12) (v := ?v12) ?hi12 ?hd12 (by kernel_rfl) (by kernel_rfl) (by kernel_rfl) ?hQ12 ?hy12 hS ?rest12
      case hi12 => simp only [List.getElem?_toArray, List.getElem?_cons_zero, List.getElem?_cons_succ]; rfl
      case hd12 => rfl
      case hQ12 => exact fun _ _ _ h => h
      case hy12 => (refine Or.inl ⟨by rfl, ?_⟩; intro w hSw; (try dsimp only at hSw); go_simp; try with_reducible rfl)
      simp only [List.setIfInBounds_toArray, List.set_cons_zero, List.set_cons_succ]
      refine anyE_tk 14 51 (oi := ?oi13) (v := ?v13) ?hi13 ?hd13 (by kernel_rfl) (by kernel_rfl) (by kernel_rfl) ?hQ13 ?hy13 hS ?rest13
      case hi13 => simp only [List.getElem?_toArray, List.getElem?_cons_zero, List.getElem?_cons_succ]; rfl
      case hd13 => rfl
      case hQ13 => exact fun _ _ _ h => h
      case hy13 => (refine Or.inl ⟨by rfl, ?_⟩; intro w hSw; (try dsimp only at hSw); go_simp; try with_reducible rfl)
      simp only [List.setIfInBounds_toArray, List.set_cons_zero, List.set_cons_succ]
      refine anyE_tk 15 52 (oi := ?oi14) (v := ?v14) ?hi14 ?hd14 (by kernel_rfl) (by kernel_rfl) (by kernel_rfl) ?hQ14 ?hy14 hS ?rest14
      case hi14 => simp only [List.getElem?_toArray, List.getElem?_cons_zero, List.getElem?_cons_succ]; rfl
      case hd14 => rfl
      case hQ14 => exact fun _ _ _ h => h
      case hy14 => (refine Or.inl ⟨by rfl, ?_⟩; intro w hSw; (try dsimp only at hSw); go_simp; try with_reducible rfl)
      simp only [List.setIfInBounds_toArray, List.set_cons_zero, List.set_cons_succ]
      refine anyE_tk 16 53 (oi := ?oi15) (v := ?v15) ?hi15 ?hd15 (by kernel_rfl) (by kernel_rfl) (by kernel_rfl) ?hQ15 ?hy15 hS ?rest15
      case hi15 => simp only [List.getElem?_toArray, List.getElem?_cons_zero, List.getElem?_cons_succ]; rfl
      case hd15 => rfl
      case hQ15 => exact fun _ _ _ h => h
      case hy15 => (refine Or.inl ⟨by rfl, ?_⟩; intro w hSw; (try dsimp only at hSw); go_simp; try with_reducible rfl)
      simp only [List.setIfInBounds_toArray, List.set_cons_zero, List.set_cons_succ]
      refine anyE_one (i := 9) (o := ?oi16) (by kernel_rfl) ?hi16 (fun K hK => ?step16)
      case hi16 => simp only [List.getElem?_toArray, List.getElem?_cons_zero, List.getElem?_cons_succ]; rfl
      go_simp
      refine (cm.out _ HBi.out).mono ?_
      rintro e w6 ⟨rfl, hbb6, hd6⟩
      have HBB6 := Lib.hid hbb6
      have HB6 := Lib.hid (HBi.out.trans (hd6.mono HBi.out.size))
      clear hbb6 hd6
      go_wp2_with fail
      refine hK.out _ _ (fun _ => Keep.out _ HB6.out) ?_
      clear hK K
      try simp only [Act.put, List.setIfInBounds_toArray, List.set_cons_zero, List.set_cons_succ]
      refine anyE_one (i := 10) (o := ?oi17) (by kernel_rfl) ?hi17 (fun K hK => ?step17)
      case hi17 => simp only [List.getElem?_toArray, List.getElem?_cons_zero, List.getElem?_cons_succ]; rfl
      go_simp
      refine (cd.out _ _ HB6.out HBB6.out.br).mono ?_
      rintro e w7 ⟨g7, k7, x, rfl, hcl, hxl, hbb7, hg7, hd7⟩
      have HCl := Lib.hid (And.intro hcl hxl)
      have q7 := hbb7.cell hzp
      have hg7l := hbb7.lt
      have HB7 := Lib.hid (HB6.out.trans (hd7.mono HB6.out.size))
      clear hcl hxl hbb7 hd7 hg7
      go_wp2_with fail
      refine hK.out _ _ (fun _ => Keep.out _ HB7.out) ?_
      clear hK K
      try simp only [Act.put, List.setIfInBounds_toArray, List.set_cons_zero, List.set_cons_succ]
      refine anyE_one (i := 17) (o := ?oi18) (by kernel_rfl) ?hi18 (fun K hK => ?step18)
      case hi18 => simp only [List.getElem?_toArray, List.getElem?_cons_zero, List.getElem?_cons_succ]; rfl
      go_simp
      go_wp2_with fail
      refine hK.out _ _ (fun _ => Keep.out _ HB7.out) ?_
      clear hK K
      try simp only [Act.put, List.setIfInBounds_toArray, List.set_cons_zero, List.set_cons_succ]
      refine anyE_one (i := 18) (o := ?oi19) (by kernel_rfl) ?hi19 (fun K hK => ?step19)
      case hi19 => simp only [List.getElem?_toArray, List.getElem?_cons_zero, List.getElem?_cons_succ]; rfl
      go_simp
      go_wp2_with fail
      refine hK.out _ _ (fun _ => Keep.out _ HB7.out) ?_
      clear hK K
      try simp only [Act.put, List.setIfInBounds_toArray, List.set_cons_zero, List.set_cons_succ]
      refine anyE_done (by kernel_rfl) ?_ _
      have HB8 := Lib.hid (HBr0.out.trans (HB7.out.mono HBr0.out.size))
      have HFl := Lib.hid (Hrf.out x HCl.out.1 HCl.out.2)
      have HBl8 := Lib.hid (HBl.out.below HB8.out hGr)
      have HRe8 := Lib.hid (HRe.out.below HB7.out)
      have HRu8 := Lib.hid (HRu.out.below HB8.out)
      have HBr8 := Lib.hid (HBr.out.trans (HB8.out.mono HBr.out.size))
      have hk1 : k ≤ cur.length := by omega
      have hk2 : k ≤ cur.length - 1 := by omega
      have hk3 : cur.length - 1 ≤ rus.length := by omega
      have HC5 := Lib.hid (own_cap2 HO5.out)
      obtain ⟨y0, y1, y2, f0, f1, f2⟩ := blk3 HBl8.out
      generalize x.testBit zn = r at HFl q7 ⊢
      cases r with
      | false =>
        go_wp2_with fail
        go_roundw
        case rel => exact ⟨k, cur, some ⟨g, off, none⟩, c, hk1, hcl, by go_num, hcc, fun m hm => HRed.out m ⟨false, HFl.out, by simpa using hm⟩, HSub.out, HRu8.out, HBl8.out, HBr8.out⟩
        case measure => simp [intOf]
      | true =>
        go_wp2_with fail
        have HP := Lib.hid ((Only.refl w2.heap.size w7).put 2 (.slice A5 (cur.length - 1) c5))
        go_roundw
        case rel =>
          refine ⟨k, cur.eraseIdx k, A5, c5, by rw [Hle.out]; exact hk2, by rw [Hle.out]; exact hk3, by go_num, by rw [Hle.out]; exact HC5.out, fun m hm => HRed.out m ⟨true, HFl.out, by simpa using hm⟩, fun x hx => HSub.out x (List.mem_of_mem_eraseIdx hx), HRe8.out.keep HNg.out.1 HP.out, ?_, HBr8.out.trans (HP.out.below (Nat.le_refl _) HBr8.out.size)⟩
          rw [Hle.out]; exact HBl8.out.put 2 (.slice A5 (cur.length - 1) c5)
        case measure => simp [intOf]

set_option maxRecDepth 100000 in
set_option maxHeartbeats 4000000 in
theorem Reduce_ref_bad (AI AR : Option Addr) (cI cR B : Nat) (b : Bk) (w : World) (hB : B ≤ w.heap.size) (h : ItsAt B w AI b.its) (h' : RusAt B w AR b.rus) (hs : Short b) (h0 : vlR b ≠ 0) :
    Calls Tryd.prog 48 #[.agg #[.int .i64 b.p, .slice AI b.its.length cI, .slice AR b.rus.length cR]] w fun e w' => e = .returned (.tuple #[.agg #[.int .i64 0, .slice none 0 0, .slice none 0 0], .int .i64 (vlR b)]) ∧ Below w.heap.size w w' := by
  have hT := h.below (Below.refl _ _) hB
  have hT' := h'.below (Below.refl _ _) hB
  have cv := Lib.hid (fun W (hW : Below w.heap.size w W) => Validate_ref AI AR cI cR w.heap.size b W hW.size (hT.below hW (Nat.le_refl _)) (hT'.below hW (Nat.le_refl _)) hs)
  have hne : (vlR b != 0) = true := by simpa using h0
  generalize vlR b = e0 at cv hne ⊢
  have HB0 := Lib.hid (show Below w.heap.size w ((w.alloc (.cells #[.int .i64 b.p, .slice AI b.its.length cI, .slice AR b.rus.length cR] 25)).alloc (.cells #[.int .i64 0, .slice none 0 0, .slice none 0 0] 25)) from balloc (balloc (Below.refl _ _) _) _)
  clear h h' hs hT hT' h0 hB
  go_enter Tryd.func48, Tryd.ntmps48
  go_wp2_with fail
  generalize hW0 : (w.alloc (.cells #[.int .i64 b.p, .slice AI b.its.length cI, .slice AR b.rus.length cR] 25)).alloc (.cells #[.int .i64 0, .slice none 0 0, .slice none 0 0] 25) = W0
  rw [hW0] at HB0
  have HK1 := Lib.hid (show Blk W0 (w.heap.size + 1) 25 #[.int .i64 0, .slice none 0 0, .slice none 0 0] by rw [← hW0]; exact blk_new' (by simp))
  clear hW0
  go_wp2_with (go_at_call 21; refine (cv.out _ HB0.out).mono ?_; rintro e w1 ⟨rfl, hb1⟩; obtain ⟨t0, t1, t2, g0, g1, g2⟩ := blk3 (HK1.out.below hb1 HK1.out.lt); have hlR : w.heap.size + 1 < w1.heap.size := (HK1.out.below hb1 HK1.out.lt).lt)
  have HR1 := Lib.hid (HK1.out.below hb1 HK1.out.lt)
  have HP := Lib.hid ((((Only.refl (w.heap.size + 1) w1).put 0 (.int .i64 0)).put 1 (.slice none 0 0)).put 2 (.slice none 0 0))
  have HB2 := Lib.hid (((HR1.out.put 0 (.int .i64 0)).put 1 (.slice none 0 0)).put 2 (.slice none 0 0))
  have hlow := HB0.out.trans (hb1.mono HB0.out.size)
  refine bodyPost_ret (results_cell_row2 rfl _ _ (w.heap.size + 1) 25 _ (0, 0) _ rfl HB2.out Tryd.underlying25 rfl (by kernel_rfl)) rfl ⟨rfl, hlow.trans (HP.out.below (Nat.le_succ _) hlow.size)⟩
end Go.Proofs.YtgoojcjfhghmgaaDoor
