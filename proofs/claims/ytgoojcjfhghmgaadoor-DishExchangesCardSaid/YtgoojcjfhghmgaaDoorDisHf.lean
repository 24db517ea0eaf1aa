/- The reference's Reduce f48. Written by mkHf.py. -/
import Derived.Test.YtgoojcjfhghmgaaDoorDisHe
import Derived.Test.YtgoojcjfhghmgaaDoorDisHg
import Derived.Test.YtgoojcjfhghmgaaDoorDisFf
import Derived.Test.YtgoojcjfhghmgaaDoorDisEb
set_option linter.unusedSimpArgs false
set_option linter.unusedVariables false
namespace Go.Proofs.YtgoojcjfhghmgaaDoor
open Go Go.RowKit

/-- The values in the cells of rules. -/
def RuQ (N : Nat → Prop) (w : World) (qs : List (Value × Value)) (l : List Ru) : Prop := qs.length = l.length ∧ ∀ k (hk : k < l.length), ∃ A1 c1, qs[k]? = some (.slice A1 l[k].1.length c1, .int .i64 l[k].2) ∧ IntsN N w.heap.size w A1 l[k].1
theorem RusAt.toN {N : Nat → Prop} {B : Nat} {w : World} {A : Option Addr} {l : List Ru} (h : RusAt B w A l) (hB : B ≤ w.heap.size) (hN : ∀ b, b < B → N b) : RusN N w A l := fun k hk => by
  obtain ⟨b, off, A1, c1, e, h1, h2, h3, h4⟩ := h k hk
  refine ⟨b, off, A1, c1, e, hN b h1, by omega, h2, h3, fun j hj => ?_⟩
  obtain ⟨b', off', e', hb', hc⟩ := h4.at hj
  exact ⟨b', off', e', hN b' hb', by omega, hc⟩
theorem RusN.row {N : Nat → Prop} {w : World} {A : Option Addr} {l : List Ru} (h : RusN N w A l) : ∃ qs, RuQ N w qs l ∧ (∀ ad, A = some ad → ∀ j u, (flatV qs)[j]? = some u → w.cell? (ad.add j) = some u) ∧ (∀ u ∈ flatV qs, u.oneCell' = true) := by
  have key : ∀ k, ∃ q : Value × Value, ∀ (hk : k < l.length), ∃ b off A1 c1, A = some ⟨b, off, none⟩ ∧ q = (.slice A1 l[k].1.length c1, .int .i64 l[k].2) ∧ w.cell? ⟨b, off + k * 2, none⟩ = some q.1 ∧ w.cell? ⟨b, off + k * 2 + 1, none⟩ = some q.2 ∧ IntsN N w.heap.size w A1 l[k].1 := fun k => by
    by_cases hk : k < l.length
    · obtain ⟨b, off, A1, c1, e, _, _, h2, h3, h4⟩ := h k hk
      exact ⟨(.slice A1 l[k].1.length c1, .int .i64 l[k].2), fun _ => ⟨b, off, A1, c1, e, rfl, h2, h3, h4⟩⟩
    · exact ⟨(.int .i64 0, .int .i64 0), fun h => absurd h hk⟩
  obtain ⟨f, hf⟩ : ∃ f : Nat → Value × Value, ∀ k (hk : k < l.length), ∃ b off A1 c1, A = some ⟨b, off, none⟩ ∧ f k = (.slice A1 l[k].1.length c1, .int .i64 l[k].2) ∧ w.cell? ⟨b, off + k * 2, none⟩ = some (f k).1 ∧ w.cell? ⟨b, off + k * 2 + 1, none⟩ = some (f k).2 ∧ IntsN N w.heap.size w A1 l[k].1 := ⟨fun k => Classical.choose (key k), fun k hk => Classical.choose_spec (key k) hk⟩
  have hlen : ((List.range l.length).map f).length = l.length := by simp
  have hget : ∀ k, k < l.length → ((List.range l.length).map f)[k]? = some (f k) := fun k hk => by simp [hk]
  refine ⟨(List.range l.length).map f, ⟨hlen, fun k hk => ?_⟩, fun ad had j u hu => ?_, flatV_one fun q hq => ?_⟩
  · obtain ⟨b, off, A1, c1, _, e, _, _, h4⟩ := hf k hk
    exact ⟨A1, c1, by rw [hget k hk, e], h4⟩
  · have hj : j < l.length * 2 := by
      have := (List.getElem?_eq_some_iff.1 hu).1
      rw [flatV_length, hlen] at this
      exact this
    obtain ⟨b, off, A1, c1, e, _, h2, h3, _⟩ := hf (j / 2) (by omega)
    obtain ⟨e0, e1⟩ := flatV_get ((List.range l.length).map f) (j / 2) (by rw [hlen]; omega)
    rw [had] at e
    injection e with e
    subst e
    rw [Addr.add_lit]
    rcases Nat.mod_two_eq_zero_or_one j with hm | hm
    · rw [show j / 2 * 2 = j by omega] at h2 e0
      rw [h2, ← hu, e0]; simp
    · rw [show off + j / 2 * 2 + 1 = off + j by omega] at h3
      rw [show j / 2 * 2 + 1 = j by omega] at e1
      rw [h3, ← hu, e1]; simp
  · obtain ⟨k, hk, rfl⟩ := List.mem_map.1 hq
    obtain ⟨_, _, _, _, _, e, _⟩ := hf k (List.mem_range.1 hk)
    rw [e]; exact ⟨rfl, rfl⟩
theorem RuQ.erase {N : Nat → Prop} {w : World} {qs : List (Value × Value)} {l : List Ru} (h : RuQ N w qs l) (k : Nat) : RuQ N w (qs.eraseIdx k) (l.eraseIdx k) := by
  refine ⟨by simp [List.length_eraseIdx, h.1], fun i hi => ?_⟩
  have hl : (l.eraseIdx k)[i]? = some (l.eraseIdx k)[i] := List.getElem?_eq_getElem hi
  rw [List.getElem?_eraseIdx] at hl ⊢
  by_cases e : i < k
  · rw [if_pos e] at hl ⊢
    obtain ⟨h1, h2⟩ := List.getElem?_eq_some_iff.1 hl
    obtain ⟨A1, c1, q1, q2⟩ := h.2 i h1
    rw [h2] at q1 q2
    exact ⟨A1, c1, q1, q2⟩
  · rw [if_neg e] at hl ⊢
    obtain ⟨h1, h2⟩ := List.getElem?_eq_some_iff.1 hl
    obtain ⟨A1, c1, q1, q2⟩ := h.2 (i + 1) h1
    rw [h2] at q1 q2
    exact ⟨A1, c1, q1, q2⟩
theorem IntsN.below {N : Nat → Prop} {w w' : World} {A : Option Addr} {zs : List Int} (h : IntsN N w.heap.size w A zs) (hb : Below w.heap.size w w') : IntsN N w'.heap.size w' A zs := fun j hj => by
  obtain ⟨b, off, e, hn, hlt, hc⟩ := h j hj
  exact ⟨b, off, e, hn, Nat.lt_of_lt_of_le hlt hb.size, (hb.cell (p := ⟨b, off + j, none⟩) hlt).trans hc⟩
theorem IntsN.lt {N : Nat → Prop} {B : Nat} {w : World} {A : Option Addr} {zs : List Int} (h : IntsN N B w A zs) : IntsN (fun x => N x ∧ x < B) B w A zs := fun j hj => by
  obtain ⟨b, off, e, hn, hb, hc⟩ := h j hj
  exact ⟨b, off, e, ⟨hn, hb⟩, hb, hc⟩
theorem RusN.lt {N : Nat → Prop} {w : World} {A : Option Addr} {l : List Ru} (h : RusN N w A l) : RusN (fun x => N x ∧ x < w.heap.size) w A l := fun k hk => by
  obtain ⟨b, off, A1, c1, e, hn, h1, h2, h3, h4⟩ := h k hk
  exact ⟨b, off, A1, c1, e, ⟨hn, h1⟩, h1, h2, h3, h4.lt⟩
theorem ItC.below {lo k : Nat} {out : Value} {w w' : World} {ps : List (Value × Value)} {l : List It} (h : ItC lo out w ps l k) (hb : Below w.heap.size w w') : ItC lo out w' ps l k := by
  obtain ⟨h1, h2, h3, h4, h5, h6⟩ := h
  exact ⟨h1, own_below h2 hb, h3.below hb, h4.below hb, h5, h6⟩
theorem RusN.below {N : Nat → Prop} {w w' : World} {A : Option Addr} {l : List Ru} (h : RusN N w A l) (hb : Below w.heap.size w w') : RusN N w' A l := fun k hk => by
  obtain ⟨b, off, A1, c1, e, hn, h1, h2, h3, h4⟩ := h k hk
  exact ⟨b, off, A1, c1, e, hn, Nat.lt_of_lt_of_le h1 hb.size, (hb.cell (p := ⟨b, off + k * 2, none⟩) h1).trans h2, (hb.cell (p := ⟨b, off + k * 2 + 1, none⟩) h1).trans h3, h4.below hb⟩
/-- Rules in a new row. -/
theorem RuQ.rus {N : Nat → Prop} {w w' : World} {qs : List (Value × Value)} {l : List Ru} {base n c : Nat} {A : Option Addr} (h : RuQ N w qs l) (hb : Below w.heap.size w w') (hown : w'.ownsRow base 42 2 (.slice A n c) n (flatV qs)) (hn : l.length = n) (hN : ∀ b, base ≤ b → N b) : RusN N w' A l := fun k hk => by
  have hkp : k < qs.length := by rw [h.1]; exact hk
  obtain ⟨g, rfl, hg, q0, q1⟩ := own_cell2 hown (h.1.trans hn) hkp
  obtain ⟨A1, c1, e1, i1⟩ := h.2 k hk
  rw [List.getElem?_eq_getElem hkp] at e1
  injection e1 with e1
  have hgb := (hown.lt g rfl).1
  exact ⟨g, 0, A1, c1, rfl, hN g hgb, hg, by rw [Nat.zero_add, q0, e1], by rw [Nat.zero_add, q1, e1], i1.below hb⟩

set_option maxRecDepth 100000 in
set_option maxHeartbeats 4000000 in
theorem Reduce_ref (AI AR : Option Addr) (cI cR B : Nat) (b : Bk) (w : World) (hB : B ≤ w.heap.size) (h : ItsAt B w AI b.its) (h' : RusAt B w AR b.rus) (hs : Short b) (h0 : vlR b = 0) :
    Calls Tryd.prog 48 #[.agg #[.int .i64 b.p, .slice AI b.its.length cI, .slice AR b.rus.length cR]] w fun e w' => ∃ AI' AR' cI' cR' m, e = .returned (.tuple #[.agg #[.int .i64 b.p, .slice AI' b.its.length cI', .slice AR' (List.length m) cR'], .int .i64 0]) ∧
      ItsAt w'.heap.size w' AI' b.its ∧ RedR b.p.toNat b.rus.length b.rus m ∧ RusAt w'.heap.size w' AR' m ∧ Below w.heap.size w w' := by
  have hv := vl_zero h0
  have hT := h.below (Below.refl _ _) hB
  have hT' := h'.below (Below.refl _ _) hB
  have cv := Lib.hid (fun W (hW : Below w.heap.size w W) => Validate_ref AI AR cI cR w.heap.size b W hW.size (hT.below hW (Nat.le_refl _)) (hT'.below hW (Nat.le_refl _)) hs)
  have cc := Lib.hid (fun W (hW : Below w.heap.size w W) => Copy_own AI AR cI cR w.heap.size b W hW.size (hT.below hW (Nat.le_refl _)) (hT'.below hW (Nat.le_refl _)) hs)
  rw [h0] at cv
  obtain ⟨bp, its, rus⟩ := b
  simp only at hv cv cc ⊢
  obtain ⟨p, rfl⟩ := Int.eq_ofNat_of_zero_le hv.p0
  have hp10 : p ≤ 10 := by have := hv.p1; simp at this; omega
  have nr : rus.length ≤ 60 := hs.2.1
  have HRules := Lib.hid (show ∀ x ∈ rus, ruOk p x = true ∧ x.1.length ≤ 40 from fun x hx => ⟨hv.rules x hx, hs.2.2.2 x hx⟩)
  have HB0 := Lib.hid (show Below w.heap.size w ((w.alloc (.cells #[.int .i64 p, .slice AI its.length cI, .slice AR rus.length cR] 25)).alloc (.cells #[.int .i64 0, .slice none 0 0, .slice none 0 0] 25)) from balloc (balloc (Below.refl _ _) _) _)
  simp only [Int.toNat_natCast]
  clear h h' hs hT hT' hv h0 hB
  obtain ⟨i0, hi, hz0, hz1, hz2⟩ := info_parts info42
  go_enter Tryd.func48, Tryd.ntmps48
  go_wp2_with fail
  generalize hW0 : (w.alloc (.cells #[.int .i64 p, .slice AI its.length cI, .slice AR rus.length cR] 25)).alloc (.cells #[.int .i64 0, .slice none 0 0, .slice none 0 0] 25) = W0
  rw [hW0] at HB0
  have HK0 := Lib.hid (show Blk W0 w.heap.size 25 #[.int .i64 p, .slice AI its.length cI, .slice AR rus.length cR] by rw [← hW0]; exact (Blk.new _ _ _).alloc _)
  have HK1 := Lib.hid (show Blk W0 (w.heap.size + 1) 25 #[.int .i64 0, .slice none 0 0, .slice none 0 0] by rw [← hW0]; exact blk_new' (by simp))
  have HS0 := Lib.hid (show w.heap.size + 1 < W0.heap.size from HK1.out.lt)
  clear hW0
  go_wp2_with (first
    | (go_at_call 21; refine (cv.out _ HB0.out).mono ?_; rintro e w1 ⟨rfl, hb1⟩; obtain ⟨x0, x1, x2, _⟩ := blk3 (HK0.out.below hb1 HK0.out.lt); have hB1 := HB0.out.trans (hb1.mono HB0.out.size))
    | (go_at_call 19; refine (cc.out _ hB1).mono ?_; rintro e w2 ⟨AI', AR', cI', cR', ps, lo, rfl, hlo, hit, ⟨hru, hcap⟩, hb2⟩))
  generalize hW3 : w2.alloc (.cells #[.int .i64 p, .slice AI' its.length cI', .slice AR' rus.length cR'] 25) = w3
  have hb23 : Below w2.heap.size w2 w3 := by rw [← hW3]; exact balloc (Below.refl _ _) _
  have HKG := Lib.hid (show Blk w3 w2.heap.size 25 #[.int .i64 p, .slice AI' its.length cI', .slice AR' rus.length cR'] by rw [← hW3]; exact Blk.new _ _ _)
  have hB2 := hb1.trans (hb2.mono hb1.size)
  have HIt := Lib.hid hit
  have HL1 := Lib.hid (show w.heap.size + 1 < lo by have := HS0.out; have := hb1.size; omega)
  obtain ⟨N, hN⟩ : ∃ N : Nat → Prop, N = fun x => x ≠ w2.heap.size ∧ w.heap.size + 1 < x := ⟨_, rfl⟩
  have HNg := Lib.hid (show (∀ x, N x → x ≠ w2.heap.size) ∧ (∀ x, N x → x ≠ w.heap.size + 1) ∧ ∀ x, w2.heap.size < x → N x from by
    rw [hN]
    refine ⟨fun x h => h.1, fun x h => by have := h.2; omega, fun x h => ⟨by omega, ?_⟩⟩
    have := HS0.out; have := hB2.size; omega)
  have HRu := Lib.hid (show RusN N w3 AR' rus from ((hru.lt.imp (N' := N) (fun x h => by
    rw [hN]
    have := HS0.out; have := hb1.size
    exact ⟨by have := h.2; omega, by have := h.1; omega⟩)).below hb23))
  have HK12 := Lib.hid (HK1.out.below hB2 HK1.out.lt)
  have HK02 := Lib.hid (HK0.out.below hB2 HK0.out.lt)
  have HB3 := Lib.hid (hB2.trans (hb23.mono hB2.size))
  have HBw := Lib.hid (HB0.out.trans (hB2.mono HB0.out.size))
  have H23 := Lib.hid hb23
  clear hW3 hit hru hlo hb23 hb1 hb2 hB1 hB2 x0 x1 x2 hN
  go_loopw [6] (fun s wr => ∃ (k : Nat) (cur : List Ru) (A : Option Addr) (c : Nat), k ≤ cur.length ∧ cur.length ≤ rus.length ∧ s = .int .i64 ((k : Int) - 1) ∧ cur.length ≤ c ∧ Aside (∀ m, RedR p k cur m → RedR p rus.length rus m) ∧ Aside (∀ x ∈ cur, x ∈ rus) ∧ Aside (RusN N wr A cur) ∧ Aside (Blk wr w2.heap.size 25 #[.int .i64 p, .slice AI' its.length cI', .slice A cur.length c]) ∧ Aside (Below w2.heap.size w2 wr)) (fun s _ => (intOf s + 1).toNat)
  case atStart => exact ⟨rus.length, rus, AR', cR', Nat.le_refl _, Nat.le_refl _, rfl, hcap, fun _ h => h, fun _ h => h, HRu.out, HKG.out, H23.out⟩
  case round =>
    clear HRu HKG hcap
    obtain ⟨k, cur, A, c, hk, hcl, rfl, hcc, hred, hsub, hru, hbl, hbr⟩ := hrel
    have HRed := Lib.hid hred.out
    have HSub := Lib.hid hsub.out
    have HRu := Lib.hid hru.out
    have HBl := Lib.hid hbl.out
    have HBr := Lib.hid hbr.out
    have hGr : w2.heap.size < wr.heap.size := hbl.out.lt
    obtain ⟨y0, y1, y2, f0, f1, f2⟩ := blk3 hbl.out
    clear hred hsub hru hbl hbr
    cases k with
    | zero =>
      have HR1 := Lib.hid (HK12.out.below HBr.out HK12.out.lt)
      obtain ⟨t0, t1, t2, g0, g1, g2⟩ := blk3 HR1.out
      have hlR : w.heap.size + 1 < wr.heap.size := HR1.out.lt
      have HM := Lib.hid (HRed.out cur rfl)
      clear hk
      go_wp2_with fail
      have HP := Lib.hid ((((Only.refl (w.heap.size + 1) wr).put 0 (.int .i64 p)).put 1 (.slice AI' its.length cI')).put 2 (.slice A cur.length c))
      have HB2 := Lib.hid (((HR1.out.put 0 (.int .i64 p)).put 1 (.slice AI' its.length cI')).put 2 (.slice A cur.length c))
      have hlow := HBw.out.trans (HBr.out.mono HBw.out.size)
      refine bodyPost_ret (results_cell_row2 rfl _ _ (w.heap.size + 1) 25 _ (0, 0) _ rfl HB2.out Tryd.underlying25 rfl (by kernel_rfl)) rfl ⟨AI', A, cI', c, cur, rfl, ?_, HM.out, ?_, ?_⟩
      · exact ((((HIt.out.below HBr.out).put HL1.out 0 (.int .i64 p)).put HL1.out 1 (.slice AI' its.length cI')).put HL1.out 2 (.slice A cur.length c)).at
      · exact (HRu.out.keep HNg.out.2.1 HP.out).at
      · exact hlow.trans (HP.out.below (Nat.le_succ _) hlow.size)
    | succ k =>
      have e : (((k + 1 : Nat) : Int) - 1) = (k : Int) := by omega
      rw [e]
      clear e
      have hkl : k < cur.length := by omega
      have hkb : k ≤ 1000 := by omega
      obtain ⟨g, off, A1, c1, rfl, hNg, hg, e0, e1, i1⟩ := HRu.out k hkl
      obtain ⟨hrok, h40⟩ := HRules.out _ (HSub.out _ (List.getElem_mem hkl))
      obtain ⟨hset, ht0, htp⟩ := ruOk_mem hrok
      obtain ⟨zn, hzn⟩ := Int.eq_ofNat_of_zero_le ht0
      rw [hzn] at e1 htp
      have hps := isS_mem hset
      have hin : intL (natL cur[k].1) = cur[k].1 := int_nat fun x hx => (hps x hx).1
      have hlp := natL_lt hps
      have hzp : zn < p := by omega
      have hzI : (zn : Int) < (p : Int) := by omega
      have hz0' : (0 : Int) ≤ (zn : Int) := by omega
      obtain ⟨n1, hn1⟩ : ∃ n1, n1 = cur[k].1.length := ⟨_, rfl⟩
      rw [← hn1] at e0
      obtain ⟨qs, hq, hqc, hq1⟩ := HRu.out.row
      have HQ := Lib.hid hq
      have HQ1 := Lib.hid hq1
      have HQc := Lib.hid hqc
      have hql : qs.length = cur.length := hq.1
      have htk : (flatV (qs.take k)).length = k * 2 := by rw [flatV_length]; simp; omega
      have hdk : (flatV (qs.drop (k + 1))).length = (cur.length - (k + 1)) * 2 := by rw [flatV_length]; simp; omega
      have hsp : flatV qs = flatV (qs.take k) ++ (flatV ((qs.drop k).take 1) ++ flatV (qs.drop (k + 1))) := by
        rw [← flatV_append, ← flatV_append, show qs.drop (k + 1) = (qs.drop k).drop 1 by simp, List.take_append_drop, List.take_append_drop]
      have h1k : (flatV ((qs.drop k).take 1)).length = 2 := by rw [flatV_length]; simp; omega
      have Hsrc1 := Lib.hid (show ∀ W, Below wr.heap.size wr W → ∀ ad, (some ⟨g, off, none⟩ : Option Addr) = some ad → ∀ j u, (flatV (qs.take k))[j]? = some u → W.cell? (ad.add j) = some u from fun W hW ad had j u hu => by
        injection had with had
        subst had
        have hj := (List.getElem?_eq_some_iff.1 hu).1
        have := hqc _ rfl j u (by rw [hsp, List.getElem?_append_left hj]; exact hu)
        rw [Addr.add_lit] at this ⊢
        exact (hW.cell (p := ⟨g, off + j, none⟩) hg).trans this)
      obtain ⟨Ad, hAd, hsrc2⟩ : ∃ Ad : Option Addr, (if c = k + 1 then (some ⟨g, off, none⟩ : Option Addr) else some ⟨g, off + (k + 1) * 2, none⟩) = Ad ∧ (Ad ≠ none ∧ ∀ W, Below wr.heap.size wr W → ∀ ad, Ad = some ad → ∀ j u, (flatV (qs.drop (k + 1)))[j]? = some u → W.cell? (ad.add j) = some u) := by
        refine ⟨_, rfl, by split <;> simp, fun W hW ad had j u hu => ?_⟩
        have hj := (List.getElem?_eq_some_iff.1 hu).1
        have hne : ¬ c = k + 1 := fun e => by omega
        rw [if_neg hne] at had
        injection had with had
        subst had
        have := hqc _ rfl ((k + 1) * 2 + j) u (by rw [hsp, List.getElem?_append_right (by omega), List.getElem?_append_right (by omega), ← hu]; congr 1; omega)
        rw [Addr.add_lit] at this ⊢
        rw [← Nat.add_assoc] at this
        exact (hW.cell (p := ⟨g, off + (k + 1) * 2 + j, none⟩) hg).trans this
      have Hsrc2 := Lib.hid hsrc2
      have Hlen1 := Lib.hid htk
      have Hlen2 := Lib.hid hdk
      have Hone1 := Lib.hid (show ∀ u ∈ flatV (qs.take k), u.oneCell' = true from fun u hu => hq1 u (by rw [hsp]; exact List.mem_append.2 (.inl hu)))
      have Hone2 := Lib.hid (show ∀ u ∈ flatV (qs.drop (k + 1)), u.oneCell' = true from fun u hu => hq1 u (by rw [hsp]; exact List.mem_append.2 (.inr (List.mem_append.2 (.inr hu)))))
      have Hex := Lib.hid (show flatV (qs.take k) ++ flatV (qs.drop (k + 1)) = flatV (qs.eraseIdx k) by rw [List.eraseIdx_eq_take_drop_succ, flatV_append])
      have HK0r := Lib.hid (HK02.out.below HBr.out HK02.out.lt)
      have hK0l : w.heap.size < wr.heap.size := HK0r.out.lt
      have x0 := HK0r.out.cell 0
      have Hn1 := Lib.hid hn1
      have HI1 := Lib.hid i1.at
      have HE := Lib.hid (And.intro e0 e1)
      have hle := List.length_eraseIdx_of_lt hkl
      have Hle := Lib.hid hle
      have hkc : k ≤ c := by omega
      have hkc1 : k + 1 ≤ c := by omega
      have hkI : (k : Int) + 1 ≤ (cur.length : Int) := by omega
      have hkI0 : (0 : Int) ≤ (k : Int) + 1 := by omega
      have HNil := Lib.hid (show wr.ownsRow wr.heap.size 42 2 (.slice none 0 0) 0 [] from World.ownsRow_nil _ _ _ _)
      have tok := Lib.hid (Nat.le_refl 0)
      have Hfin := Lib.hid (show ∀ (W w' : World) (A5 : Option Addr) (c5 : Nat), Below wr.heap.size wr w' → w'.ownsRow wr.heap.size 42 2 (.slice A5 (cur.length - 1) c5) (cur.length - 1) (flatV (qs.eraseIdx k)) → RusN N w' A5 (cur.eraseIdx k) from fun _ w' A5 c5 hb ho => (HQ.out.erase k).rus hb ho hle (fun x hx => HNg.out.2.2 x (by omega)))
      clear hq hqc hq1 hql htk hdk hsp h1k i1 e0 e1 hn1 hsrc2 hle hrok hset ht0 htp y0 y1 f0 f1 f2
      go_wp2_with (first
        | (at_builtin; have tk := tok; clear tok; refine wpList_app _ rfl _ _ 23 rfl wr.heap.size 42 i0 _ 2 32 Tryd.underlying23 hi hz0 hz1 hz2 rfl (by decide) (.slice none 0 0) 0 [] rfl HNil.out (some ⟨g, off, none⟩) k c (flatV (qs.take k)) rfl Hlen1.out (fun e => by cases e) (Hsrc1.out _ (Below.refl _ _)) Hone1.out (by omega) (by decide) (Nat.le_refl _) k (by omega) (flatV (qs.take k)) rfl ?_; intro A4 c4 w4 hown4 hg4 hlow4; have tok2 := tk; have HB4 := Lib.hid (show Below wr.heap.size wr w4 from (Below.refl _ _).grown hg4 (Nat.le_refl _) hlow4); have HO4 := Lib.hid hown4; have y2 := (HBl.out.below HB4.out hGr).cell 2)
        | (at_builtin; have tk := tok2; clear tok2; refine wpList_app _ rfl _ _ 23 rfl wr.heap.size 42 i0 _ 2 32 Tryd.underlying23 hi hz0 hz1 hz2 rfl (by decide) (.slice A4 k c4) k (flatV (qs.take k)) rfl HO4.out Ad (cur.length - (k + 1)) (c - (k + 1)) (flatV (qs.drop (k + 1))) rfl Hlen2.out (fun e => absurd e Hsrc2.out.1) (Hsrc2.out.2 _ HB4.out) Hone2.out (by omega) (by decide) HB4.out.size (cur.length - 1) (by omega) (flatV (qs.eraseIdx k)) Hex.out ?_; intro A5 c5 w5 hown5 hg5 hlow5; have HB5 := Lib.hid (show Below wr.heap.size wr w5 from HB4.out.grown hg5 HB4.out.size hlow5); have HO5 := Lib.hid hown5))
      have hbi : Below wr.heap.size wr w5.drew := HB5.out.drew
      have HRe := Lib.hid (Hfin.out wr w5.drew A5 c5 hbi HO5.out.drew)
      refine wp_region_E (S := fun W => W.cell? ⟨w2.heap.size, 2, none⟩ = some (.slice (some ⟨g, off, none⟩) cur.length c) ∧ W.cell? ⟨g, off + k * 2, none⟩ = some (.slice A1 n1 c1) ∧ W.cell? ⟨g, off + k * 2 + 1, none⟩ = some (.int .i64 (zn : Nat)) ∧ W.cell? ⟨w.heap.size, 0, none⟩ = some (.int .i64 (p : Nat))) (E := fun _ => false) (by kernel_rfl) ?_
      generalize w5.drew = wi0 at hbi HRe ⊢
      have HBi := Lib.hid (Below.refl wi0.heap.size wi0)
      have HBr0 := Lib.hid hbi
      have Keep := Lib.hid (show ∀ W, Below wi0.heap.size wi0 W → W.cell? ⟨w2.heap.size, 2, none⟩ = some (.slice (some ⟨g, off, none⟩) cur.length c) ∧ W.cell? ⟨g, off + k * 2, none⟩ = some (.slice A1 n1 c1) ∧ W.cell? ⟨g, off + k * 2 + 1, none⟩ = some (.int .i64 (zn : Nat)) ∧ W.cell? ⟨w.heap.size, 0, none⟩ = some (.int .i64 (p : Nat)) from fun W hW => by
        have hbb := hbi.trans (hW.mono hbi.size)
        exact ⟨(HBl.out.below hbb hGr).cell 2, (hbb.cell (p := ⟨g, off + k * 2, none⟩) hg).trans HE.out.1, (hbb.cell (p := ⟨g, off + k * 2 + 1, none⟩) hg).trans HE.out.2, (HK0r.out.below hbb hK0l).cell 0⟩)
      have hS := Keep.out _ HBi.out
      have cm0 := fun W (hW : Below wi0.heap.size wi0 W) => marks_ref A1 c1 W.heap.size (natL (cur[k]'hkl).1) p W (Nat.le_refl _) (by rw [hin]; exact (HI1.out.below hbi hbi.size).below hW hW.size) (by rw [natL_length]; omega) hlp (by omega)
      rw [natL_length, ← Hn1.out] at cm0
      have cm := Lib.hid cm0
      have cd := Lib.hid (fun (g0 : Nat) (W : World) (hW : Below wi0.heap.size wi0 W) (hbr : BR g0 p (mk (natL (cur[k]'hkl).1)) W) => show Calls Tryd.prog 73 #[.slice A5 (cur.length - 1) c5, .slice (some ⟨g0, 0, none⟩) p p] W fun e w' => ∃ g' k' x, e = .returned (.slice (some ⟨g', 0, none⟩) p k') ∧ Cl (cur.eraseIdx k) (mk (natL (cur[k]'hkl).1)) allW x ∧ x < 2 ^ p ∧ BB g' p x w' ∧ W.heap.size ≤ g' ∧ Below W.heap.size W w' from by
        have := closed_ref A5 c5 W.heap.size g0 p p (mk (natL (cur[k]'hkl).1)) (cur.eraseIdx k) W (Nat.le_refl _) (HRe.out.at.below hW hW.size) hbr (by rw [Hle.out]; omega) (fun x hx => (HRules.out x (HSub.out x (List.mem_of_mem_eraseIdx hx))).2) (fun x hx => (HRules.out x (HSub.out x (List.mem_of_mem_eraseIdx hx))).1) hp10 (mk_lt hlp)
        rw [Hle.out] at this
        exact this)
      have Hrf := Lib.hid (show ∀ x, Cl (cur.eraseIdx k) (mk (natL (cur[k]'hkl).1)) allW x → x < 2 ^ p → FlR (cur.eraseIdx k) p (cur[k]?.getD ([], 0)) (x.testBit zn) from fun x h1 h2 => by
        rw [show cur[k]?.getD ([], 0) = cur[k] by simp [hkl]]
        exact ⟨x, h1, h2, by rw [hzn]; rfl⟩)
      have hps' := hps
      clear cm0 hbi hps hps' hin hlp hzn x0 y2 hlow4 hlow5 hown4 hown5 hg4 hg5
      generalize mk (natL (cur[k]'hkl).1) = x0 at cm cd Hrf
      refine anyE_tk 0 37 (oi := ?oi1) (v := ?v1) ?hi1 ?hd1 (by kernel_rfl) (by kernel_rfl) (by kernel_rfl) ?hQ1 ?hy1 hS ?rest1
      case hi1 => simp only [List.getElem?_toArray, List.getElem?_cons_zero, List.getElem?_cons_succ]; rfl
      case hd1 => rfl
      case hQ1 => exact fun _ _ _ h => h
      case hy1 => (refine Or.inl ⟨by rfl, ?_⟩; intro w hSw; (try dsimp only at hSw); go_simp; try with_reducible rfl)
      simp only [List.setIfInBounds_toArray, List.set_cons_zero, List.set_cons_succ]
      refine anyE_tk 1 38 (oi := ?oi2) (v := ?v2) ?hi2 ?hd2 (by kernel_rfl) (by kernel_rfl) (by kernel_rfl) ?hQ2 ?hy2 hS ?rest2
      case hi2 => simp only [List.getElem?_toArray, List.getElem?_cons_zero, List.getElem?_cons_succ]; rfl
      case hd2 => rfl
      case hQ2 => exact fun _ _ _ h => h
      case hy2 => (refine Or.inl ⟨by rfl, ?_⟩; intro w hSw; (try dsimp only at hSw); go_simp; try with_reducible rfl)
      simp only [List.setIfInBounds_toArray, List.set_cons_zero, List.set_cons_succ]
      refine anyE_tk 2 39 (oi := ?oi3) (v := ?v3) ?hi3 ?hd3 (by kernel_rfl) (by kernel_rfl) (by kernel_rfl) ?hQ3 ?hy3 hS ?rest3
      case hi3 => simp only [List.getElem?_toArray, List.getElem?_cons_zero, List.getElem?_cons_succ]; rfl
      case hd3 => rfl
      case hQ3 => exact fun _ _ _ h => h
      case hy3 => (refine Or.inl ⟨by rfl, ?_⟩; intro w hSw; (try dsimp only at hSw); go_simp; try with_reducible rfl)
      simp only [List.setIfInBounds_toArray, List.set_cons_zero, List.set_cons_succ]
      refine anyE_tk 3 40 (oi := ?oi4) (v := ?v4) ?hi4 ?hd4 (by kernel_rfl) (by kernel_rfl) (by kernel_rfl) ?hQ4 ?hy4 hS ?rest4
      case hi4 => simp only [List.getElem?_toArray, List.getElem?_cons_zero, List.getElem?_cons_succ]; rfl
      case hd4 => rfl
      case hQ4 => exact fun _ _ _ h => h
      case hy4 => (refine Or.inl ⟨by rfl, ?_⟩; intro w hSw; (try dsimp only at hSw); go_simp; try with_reducible rfl)
      simp only [List.setIfInBounds_toArray, List.set_cons_zero, List.set_cons_succ]
      refine anyE_tk 4 41 (oi := ?oi5) (v := ?v5) ?hi5 ?hd5 (by kernel_rfl) (by kernel_rfl) (by kernel_rfl) ?hQ5 ?hy5 hS ?rest5
      case hi5 => simp only [List.getElem?_toArray, List.getElem?_cons_zero, List.getElem?_cons_succ]; rfl
      case hd5 => rfl
      case hQ5 => exact fun _ _ _ h => h
      case hy5 => (refine Or.inl ⟨by rfl, ?_⟩; intro w hSw; (try dsimp only at hSw); go_simp; try with_reducible rfl)
      simp only [List.setIfInBounds_toArray, List.set_cons_zero, List.set_cons_succ]
      refine anyE_tk 5 42 (oi := ?oi6) (v := ?v6) ?hi6 ?hd6 (by kernel_rfl) (by kernel_rfl) (by kernel_rfl) ?hQ6 ?hy6 hS ?rest6
      case hi6 => simp only [List.getElem?_toArray, List.getElem?_cons_zero, List.getElem?_cons_succ]; rfl
      case hd6 => rfl
      case hQ6 => exact fun _ _ _ h => h
      case hy6 => (refine Or.inl ⟨by rfl, ?_⟩; intro w hSw; (try dsimp only at hSw); go_simp; try with_reducible rfl)
      simp only [List.setIfInBounds_toArray, List.set_cons_zero, List.set_cons_succ]
      refine anyE_tk 6 43 (oi := ?oi7) (v := ?v7) ?hi7 ?hd7 (by kernel_rfl) (by kernel_rfl) (by kernel_rfl) ?hQ7 ?hy7 hS ?rest7
      case hi7 => simp only [List.getElem?_toArray, List.getElem?_cons_zero, List.getElem?_cons_succ]; rfl
      case hd7 => rfl
      case hQ7 => exact fun _ _ _ h => h
      case hy7 => (refine Or.inl ⟨by rfl, ?_⟩; intro w hSw; (try dsimp only at hSw); go_simp; try with_reducible rfl)
      simp only [List.setIfInBounds_toArray, List.set_cons_zero, List.set_cons_succ]
      refine anyE_tk 7 44 (oi := ?oi8) (v := ?v8) ?hi8 ?hd8 (by kernel_rfl) (by kernel_rfl) (by kernel_rfl) ?hQ8 ?hy8 hS ?rest8
      case hi8 => simp only [List.getElem?_toArray, List.getElem?_cons_zero, List.getElem?_cons_succ]; rfl
      case hd8 => rfl
      case hQ8 => exact fun _ _ _ h => h
      case hy8 => (refine Or.inl ⟨by rfl, ?_⟩; intro w hSw; (try dsimp only at hSw); go_simp; try with_reducible rfl)
      simp only [List.setIfInBounds_toArray, List.set_cons_zero, List.set_cons_succ]
      refine anyE_tk 8 45 (oi := ?oi9) (v := ?v9) ?hi9 ?hd9 (by kernel_rfl) (by kernel_rfl) (by kernel_rfl) ?hQ9 ?hy9 hS ?rest9
      case hi9 => simp only [List.getElem?_toArray, List.getElem?_cons_zero, List.getElem?_cons_succ]; rfl
      case hd9 => rfl
      case hQ9 => exact fun _ _ _ h => h
      case hy9 => (refine Or.inl ⟨by rfl, ?_⟩; intro w hSw; (try dsimp only at hSw); go_simp; try with_reducible rfl)
      simp only [List.setIfInBounds_toArray, List.set_cons_zero, List.set_cons_succ]
      refine anyE_tk 11 48 (oi := ?oi10) (v := ?v10) ?hi10 ?hd10 (by kernel_rfl) (by kernel_rfl) (by kernel_rfl) ?hQ10 ?hy10 hS ?rest10
      case hi10 => simp only [List.getElem?_toArray, List.getElem?_cons_zero, List.getElem?_cons_succ]; rfl
      case hd10 => rfl
      case hQ10 => exact fun _ _ _ h => h
      case hy10 => (refine Or.inl ⟨by rfl, ?_⟩; intro w hSw; (try dsimp only at hSw); go_simp; try with_reducible rfl)
      simp only [List.setIfInBounds_toArray, List.set_cons_zero, List.set_cons_succ]
      refine anyE_tk 12 49 (oi := ?oi11) (v := ?v11) ?hi11 ?hd11 (by kernel_rfl) (by kernel_rfl) (by kernel_rfl) ?hQ11 ?hy11 hS ?rest11
      case hi11 => simp only [List.getElem?_toArray, List.getElem?_cons_zero, List.getElem?_cons_succ]; rfl
      case hd11 => rfl
      case hQ11 => exact fun _ _ _ h => h
      case hy11 => (refine Or.inl ⟨by rfl, ?_⟩; intro w hSw; (try dsimp only at hSw); go_simp; try with_reducible rfl)
      simp only [List.setIfInBounds_toArray, List.set_cons_zero, List.set_cons_succ]
      refine anyE_tk 13 50 (oi := ?oi12) (v := ?v12) ?hi12 ?hd12 (by kernel_rfl) (by kernel_rfl) (by kernel_rfl) ?hQ12 ?hy12 hS ?rest12
      case hi12 => simp only [List.getElem?_toArray, List.getElem?_cons_zero, List.getElem?_cons_succ]; rfl
      case hd12 => rfl
      case hQ12 => exact fun _ _ _ h => h
      case hy12 => (refine Or.inl ⟨by rfl, ?_⟩; intro w hSw; (try dsimp only at hSw); go_simp; try with_reducible rfl)
      simp only [List.setIfInBounds_toArray, List.set_cons_zero, List.set_cons_succ]
      refine anyE_tk 14 51 (oi := ?oi13) (v := ?v13) ?hi13 ?hd13 (by kernel_rfl) (by kernel_rfl) (by kernel_rfl) ?hQ13 ?hy13 hS ?rest13
      case hi13 => simp only [List.getElem?_toArray, List.getElem?_cons_zero, List.getElem?_cons_succ]; rfl
      case hd13 => rfl
      case hQ13 => exact fun _ _ _ h => h
      case hy13 => (refine Or.inl ⟨by rfl, ?_⟩; intro w hSw; (try dsimp only at hSw); go_simp; try with_reducible rfl)
      simp only [List.setIfInBounds_toArray, List.set_cons_zero, List.set_cons_succ]
      refine anyE_tk 15 52 (oi := ?oi14) (v := ?v14) ?hi14 ?hd14 (by kernel_rfl) (by kernel_rfl) (by kernel_rfl) ?hQ14 ?hy14 hS ?rest14
      case hi14 => simp only [List.getElem?_toArray, List.getElem?_cons_zero, List.getElem?_cons_succ]; rfl
      case hd14 => rfl
      case hQ14 => exact fun _ _ _ h => h
      case hy14 => (refine Or.inl ⟨by rfl, ?_⟩; intro w hSw; (try dsimp only at hSw); go_simp; try with_reducible rfl)
      simp only [List.setIfInBounds_toArray, List.set_cons_zero, List.set_cons_succ]
      refine anyE_tk 16 53 (oi := ?oi15) (v := ?v15) ?hi15 ?hd15 (by kernel_rfl) (by kernel_rfl) (by kernel_rfl) ?hQ15 ?hy15 hS ?rest15
      case hi15 => simp only [List.getElem?_toArray, List.getElem?_cons_zero, List.getElem?_cons_succ]; rfl
      case hd15 => rfl
      case hQ15 => exact fun _ _ _ h => h
      case hy15 => (refine Or.inl ⟨by rfl, ?_⟩; intro w hSw; (try dsimp only at hSw); go_simp; try with_reducible rfl)
      simp only [List.setIfInBounds_toArray, List.set_cons_zero, List.set_cons_succ]
      refine anyE_one (i := 9) (o := ?oi16) (by kernel_rfl) ?hi16 (fun K hK => ?step16)
      case hi16 => simp only [List.getElem?_toArray, List.getElem?_cons_zero, List.getElem?_cons_succ]; rfl
      go_simp
      refine (cm.out _ HBi.out).mono ?_
      rintro e w6 ⟨rfl, hbb6, hd6⟩
      have HBB6 := Lib.hid hbb6
      have HB6 := Lib.hid (HBi.out.trans (hd6.mono HBi.out.size))
      clear hbb6 hd6
      go_wp2_with fail
      refine hK.out _ _ (fun _ => Keep.out _ HB6.out) ?_
      clear hK K
      try simp only [Act.put, List.setIfInBounds_toArray, List.set_cons_zero, List.set_cons_succ]
      refine anyE_one (i := 10) (o := ?oi17) (by kernel_rfl) ?hi17 (fun K hK => ?step17)
      case hi17 => simp only [List.getElem?_toArray, List.getElem?_cons_zero, List.getElem?_cons_succ]; rfl
      go_simp
      refine (cd.out _ _ HB6.out HBB6.out.br).mono ?_
      rintro e w7 ⟨g7, k7, x, rfl, hcl, hxl, hbb7, hg7, hd7⟩
      have HCl := Lib.hid (And.intro hcl hxl)
      have q7 := hbb7.cell hzp
      have hg7l := hbb7.lt
      have HB7 := Lib.hid (HB6.out.trans (hd7.mono HB6.out.size))
      clear hcl hxl hbb7 hd7 hg7
      go_wp2_with fail
      refine hK.out _ _ (fun _ => Keep.out _ HB7.out) ?_
      clear hK K
      try simp only [Act.put, List.setIfInBounds_toArray, List.set_cons_zero, List.set_cons_succ]
      refine anyE_one (i := 17) (o := ?oi18) (by kernel_rfl) ?hi18 (fun K hK => ?step18)
      case hi18 => simp only [List.getElem?_toArray, List.getElem?_cons_zero, List.getElem?_cons_succ]; rfl
      go_simp
      go_wp2_with fail
      refine hK.out _ _ (fun _ => Keep.out _ HB7.out) ?_
      clear hK K
      try simp only [Act.put, List.setIfInBounds_toArray, List.set_cons_zero, List.set_cons_succ]
      refine anyE_one (i := 18) (o := ?oi19) (by kernel_rfl) ?hi19 (fun K hK => ?step19)
      case hi19 => simp only [List.getElem?_toArray, List.getElem?_cons_zero, List.getElem?_cons_succ]; rfl
      go_simp
      go_wp2_with fail
      refine hK.out _ _ (fun _ => Keep.out _ HB7.out) ?_
      clear hK K
      try simp only [Act.put, List.setIfInBounds_toArray, List.set_cons_zero, List.set_cons_succ]
      refine anyE_done (by kernel_rfl) ?_ _
      have HB8 := Lib.hid (HBr0.out.trans (HB7.out.mono HBr0.out.size))
      have HFl := Lib.hid (Hrf.out x HCl.out.1 HCl.out.2)
      have HBl8 := Lib.hid (HBl.out.below HB8.out hGr)
      have HRe8 := Lib.hid (HRe.out.below HB7.out)
      have HRu8 := Lib.hid (HRu.out.below HB8.out)
      have HBr8 := Lib.hid (HBr.out.trans (HB8.out.mono HBr.out.size))
      have hk1 : k ≤ cur.length := by omega
      have hk2 : k ≤ cur.length - 1 := by omega
      have hk3 : cur.length - 1 ≤ rus.length := by omega
      have HC5 := Lib.hid (own_cap2 HO5.out)
      obtain ⟨y0, y1, y2, f0, f1, f2⟩ := blk3 HBl8.out
      generalize x.testBit zn = r at HFl q7 ⊢
      cases r with
      | false =>
        go_wp2_with fail
        go_roundw
        case rel => exact ⟨k, cur, some ⟨g, off, none⟩, c, hk1, hcl, by go_num, hcc, fun m hm => HRed.out m ⟨false, HFl.out, by simpa using hm⟩, HSub.out, HRu8.out, HBl8.out, HBr8.out⟩
        case measure => simp [intOf]
      | true =>
        go_wp2_with fail
        have HP := Lib.hid ((Only.refl w2.heap.size w7).put 2 (.slice A5 (cur.length - 1) c5))
        go_roundw
        case rel =>
          refine ⟨k, cur.eraseIdx k, A5, c5, by rw [Hle.out]; exact hk2, by rw [Hle.out]; exact hk3, by go_num, by rw [Hle.out]; exact HC5.out, fun m hm => HRed.out m ⟨true, HFl.out, by simpa using hm⟩, fun x hx => HSub.out x (List.mem_of_mem_eraseIdx hx), HRe8.out.keep HNg.out.1 HP.out, ?_, HBr8.out.trans (HP.out.below (Nat.le_refl _) HBr8.out.size)⟩
          rw [Hle.out]; exact HBl8.out.put 2 (.slice A5 (cur.length - 1) c5)
        case measure => simp [intOf]

set_option maxRecDepth 100000 in
set_option maxHeartbeats 4000000 in
theorem Reduce_ref_bad (AI AR : Option Addr) (cI cR B : Nat) (b : Bk) (w : World) (hB : B ≤ w.heap.size) (h : ItsAt B w AI b.its) (h' : RusAt B w AR b.rus) (hs : Short b) (h0 : vlR b ≠ 0) :
    Calls Tryd.prog 48 #[.agg #[.int .i64 b.p, .slice AI b.its.length cI, .slice AR b.rus.length cR]] w fun e w' => e = .returned (.tuple #[.agg #[.int .i64 0, .slice none 0 0, .slice none 0 0], .int .i64 (vlR b)]) ∧ Below w.heap.size w w' := by
  have hT := h.below (Below.refl _ _) hB
  have hT' := h'.below (Below.refl _ _) hB
  have cv := Lib.hid (fun W (hW : Below w.heap.size w W) => Validate_ref AI AR cI cR w.heap.size b W hW.size (hT.below hW (Nat.le_refl _)) (hT'.below hW (Nat.le_refl _)) hs)
  have hne : (vlR b != 0) = true := by simpa using h0
  generalize vlR b = e0 at cv hne ⊢
  have HB0 := Lib.hid (show Below w.heap.size w ((w.alloc (.cells #[.int .i64 b.p, .slice AI b.its.length cI, .slice AR b.rus.length cR] 25)).alloc (.cells #[.int .i64 0, .slice none 0 0, .slice none 0 0] 25)) from balloc (balloc (Below.refl _ _) _) _)
  clear h h' hs hT hT' h0 hB
  go_enter Tryd.func48, Tryd.ntmps48
  go_wp2_with fail
  generalize hW0 : (w.alloc (.cells #[.int .i64 b.p, .slice AI b.its.length cI, .slice AR b.rus.length cR] 25)).alloc (.cells #[.int .i64 0, .slice none 0 0, .slice none 0 0] 25) = W0
  rw [hW0] at HB0
  have HK1 := Lib.hid (show Blk W0 (w.heap.size + 1) 25 #[.int .i64 0, .slice none 0 0, .slice none 0 0] by rw [← hW0]; exact blk_new' (by simp))
  clear hW0
  go_wp2_with (go_at_call 21; refine (cv.out _ HB0.out).mono ?_; rintro e w1 ⟨rfl, hb1⟩; obtain ⟨t0, t1, t2, g0, g1, g2⟩ := blk3 (HK1.out.below hb1 HK1.out.lt); have hlR : w.heap.size + 1 < w1.heap.size := (HK1.out.below hb1 HK1.out.lt).lt)
  have HR1 := Lib.hid (HK1.out.below hb1 HK1.out.lt)
  have HP := Lib.hid ((((Only.refl (w.heap.size + 1) w1).put 0 (.int .i64 0)).put 1 (.slice none 0 0)).put 2 (.slice none 0 0))
  have HB2 := Lib.hid (((HR1.out.put 0 (.int .i64 0)).put 1 (.slice none 0 0)).put 2 (.slice none 0 0))
  have hlow := HB0.out.trans (hb1.mono HB0.out.size)
  refine bodyPost_ret (results_cell_row2 rfl _ _ (w.heap.size + 1) 25 _ (0, 0) _ rfl HB2.out Tryd.underlying25 rfl (by kernel_rfl)) rfl ⟨rfl, hlow.trans (HP.out.below (Nat.le_succ _) hlow.size)⟩
end Go.Proofs.YtgoojcjfhghmgaaDoor
