/- Reduce f47. -/
import Derived.Test.YtgoojcjfhghmgaaDoorDisHb
import Derived.Test.YtgoojcjfhghmgaaDoorDisHd
import Derived.Laws.ResultCell
set_option linter.unusedSimpArgs false
set_option linter.unusedVariables false
namespace Go.Proofs.YtgoojcjfhghmgaaDoor
open Go Go.RowKit

theorem results_cell_row2 {P : Program} {fn : Func} {p u : Tmp} {ty : TypeId} (h : fn.results = #[.cell p ty, .tmp u]) (tmps : Array Value) (w : World) (g : Nat) (t : TypeId) (cs : Array Value) (fr : Nat × Nat) (d : TypeDesc)
    (hp : tmps.getD p undef = .pointer (some ⟨g, 0, none⟩)) (hg : w.heap[g]? = some (.cells cs t fr))
    (hu : P.underlying ty = some d) (hd : (match d with | .struct _ | .array _ _ => true | _ => false) = true) (hi : (P.info? ty).map (·.size) = some cs.size) :
    (results fn tmps).run P w = .ok (.tuple #[.agg cs, tmps.getD u undef]) w := by
  rw [results_cell_tmp h, hp]
  simp only [asAddr, Sem.run_pure, Result.andThen_ok, run_loadVar_row w g t ty cs fr d hg hu hd hi]

set_option maxRecDepth 100000 in
set_option maxHeartbeats 4000000 in
theorem Reduce_any (AI AR : Option Addr) (cI cR B : Nat) (b : Bk) (w : World) (hB : B ≤ w.heap.size) (h : ItsAt B w AI b.its) (h' : RusAt B w AR b.rus) (hs : Short b) (h0 : vlR b = 0) :
    Calls Tryd.prog 47 #[.agg #[.int .i64 b.p, .slice AI b.its.length cI, .slice AR b.rus.length cR]] w fun e w' => ∃ AI' AR' cI' cR' qs m, e = .returned (.tuple #[.agg #[.int .i64 b.p, .slice AI' b.its.length cI', .slice AR' (List.length m) cR'], .int .i64 0]) ∧
      ItsAt w'.heap.size w' AI' b.its ∧ RedR b.p.toNat b.rus.length b.rus m ∧ RuP w.heap.size (.slice AR' m.length cR') w' qs m ∧ Below w.heap.size w w' := by
  have hv := vl_zero h0
  have hT := h.below (Below.refl _ _) hB
  have hT' := h'.below (Below.refl _ _) hB
  have cv := Lib.hid (fun W (hW : Below w.heap.size w W) => Validate_any AI AR cI cR w.heap.size b W hW.size (hT.below hW (Nat.le_refl _)) (hT'.below hW (Nat.le_refl _)) hs)
  have cc := Lib.hid (fun W (hW : Below w.heap.size w W) => clone_bk AI AR cI cR w.heap.size b W hW.size (hT.below hW (Nat.le_refl _)) (hT'.below hW (Nat.le_refl _)) hs)
  rw [h0] at cv
  obtain ⟨p, hp⟩ := Int.eq_ofNat_of_zero_le hv.p0
  have hp10 : p ≤ 10 := by have := hv.p1; omega
  have hpn : b.p.toNat = p := by rw [hp]; rfl
  have cf := Lib.hid (fun (A A1 : Option Addr) (cA c1 : Nat) (l : List Ru) (x : Ru) (W : World) (hR : RusAt W.heap.size W A l) (hI : IntsAt W.heap.size W A1 x.1) (hl : ∀ y ∈ l, y ∈ b.rus) (hx : x ∈ b.rus) (hlen : l.length ≤ b.rus.length) => follows_any A1 A c1 cA W.heap.size p l x W (Nat.le_refl _) hR hI (by have := hs.2.1; omega) (fun y hy => hs.2.2.2 y (hl y hy)) (by have := hs.2.2.2 x hx; omega) (fun y hy => by have := hv.rules y (hl y hy); rwa [hp] at this) (by have := hv.rules x hx; rwa [hp] at this) hp10)
  have nr := hs.2.1
  have HB0 := Lib.hid (show Below w.heap.size w ((w.alloc (.cells #[.int .i64 b.p, .slice AI b.its.length cI, .slice AR b.rus.length cR] 25)).alloc (.cells #[.int .i64 0, .slice none 0 0, .slice none 0 0] 25)) from balloc (balloc (Below.refl _ _) _) _)
  rw [hpn]
  clear h h' hs hT hT' hv h0 hB hp hpn
  go_enter Tryd.func47, Tryd.ntmps47
  go_wp2_with fail
  generalize hW0 : (w.alloc (.cells #[.int .i64 b.p, .slice AI b.its.length cI, .slice AR b.rus.length cR] 25)).alloc (.cells #[.int .i64 0, .slice none 0 0, .slice none 0 0] 25) = W0
  rw [hW0] at HB0
  have HK0 := Lib.hid (show Blk W0 w.heap.size 25 #[.int .i64 b.p, .slice AI b.its.length cI, .slice AR b.rus.length cR] by rw [← hW0]; exact (Blk.new _ _ _).alloc _)
  have HK1 := Lib.hid (show Blk W0 (w.heap.size + 1) 25 #[.int .i64 0, .slice none 0 0, .slice none 0 0] by rw [← hW0]; exact blk_new' (by simp))
  have HS0 := Lib.hid (show w.heap.size + 1 < W0.heap.size from HK1.out.lt)
  clear hW0
  go_wp2_with (first
    | (go_at_call 20; refine (cv.out _ HB0.out).mono ?_; rintro e w1 ⟨rfl, hb1⟩; obtain ⟨x0, x1, x2, _⟩ := blk3 (HK0.out.below hb1 HK0.out.lt); have hB1 := HB0.out.trans (hb1.mono HB0.out.size))
    | (go_at_call 90; refine (cc.out _ hB1).mono ?_; rintro e w2 ⟨AI', AR', cI', cR', ps, qs, mid, rfl, hit, hup, hm1, hm2, hru, hb2⟩))
  generalize hW3 : w2.alloc (.cells #[.int .i64 b.p, .slice AI' b.its.length cI', .slice AR' b.rus.length cR'] 25) = w3
  have hb23 : Below w2.heap.size w2 w3 := by rw [← hW3]; exact balloc (Below.refl _ _) _
  have HKG := Lib.hid (show Blk w3 w2.heap.size 25 #[.int .i64 b.p, .slice AI' b.its.length cI', .slice AR' b.rus.length cR'] by rw [← hW3]; exact Blk.new _ _ _)
  have hB2 := hb1.trans (hb2.mono hb1.size)
  have HB3 := Lib.hid (hB2.trans (hb23.mono hB2.size))
  have HIt := Lib.hid hit
  have HL1 := Lib.hid (show w.heap.size + 1 < w1.heap.size from Nat.lt_of_lt_of_le HS0.out hb1.size)
  have HRu := Lib.hid ((hru.below hb23).base (Nat.le_trans (Nat.le_trans HB0.out.size hb1.size) hm1))
  have H23 := Lib.hid hb23
  have hGl : W0.heap.size ≤ w2.heap.size := hB2.size
  have HGl := Lib.hid (And.intro (show w.heap.size + 1 < w2.heap.size by have := HS0.out; omega) hb23.size)
  have HK12 := Lib.hid (HK1.out.below hB2 HK1.out.lt)
  have HBw := Lib.hid (HB0.out.trans (hB2.mono HB0.out.size))
  clear hW3 hit hup hm1 hm2 hru hb23 hb1 hb2 hB1 hB2 x0 x1 x2
  go_loopw [6] (fun s wr => ∃ (k : Nat) (cur : List Ru) (qs : List (Value × Value)) (A : Option Addr) (c : Nat), k ≤ cur.length ∧ cur.length ≤ b.rus.length ∧ s = .int .i64 ((k : Int) - 1) ∧ Aside (∀ m, RedR p k cur m → RedR p b.rus.length b.rus m) ∧ Aside (∀ x ∈ cur, x ∈ b.rus) ∧ Aside (RuP w.heap.size (.slice A cur.length c) wr qs cur) ∧ Aside (Blk wr w2.heap.size 25 #[.int .i64 b.p, .slice AI' b.its.length cI', .slice A cur.length c]) ∧ Aside (Below w2.heap.size w2 wr)) (fun s _ => (intOf s + 1).toNat)
  case atStart => exact ⟨b.rus.length, b.rus, qs, AR', cR', Nat.le_refl _, Nat.le_refl _, rfl, fun _ h => h, fun _ h => h, HRu.out, HKG.out, H23.out⟩
  case round =>
    clear HRu HKG
    obtain ⟨k, cur, qs, A, c, hk, hcl, rfl, hred, hsub, hru, hbl, hbr⟩ := hrel
    have HRed := Lib.hid hred.out
    have HSub := Lib.hid hsub.out
    have HRu := Lib.hid hru.out
    have HBl := Lib.hid hbl.out
    have HBr := Lib.hid hbr.out
    have hGr : w2.heap.size < wr.heap.size := hbl.out.lt
    obtain ⟨y0, y1, y2, f0, f1, f2⟩ := blk3 hbl.out
    clear hred hsub hru hbl hbr
    cases k with
    | zero =>
      have HR1 := Lib.hid (HK12.out.below HBr.out HK12.out.lt)
      obtain ⟨t0, t1, t2, g0, g1, g2⟩ := blk3 HR1.out
      have hlR : w.heap.size + 1 < wr.heap.size := HR1.out.lt
      have HM := Lib.hid (HRed.out cur rfl)
      clear hk
      go_wp2_with fail
      have HP := Lib.hid ((((Only.refl (w.heap.size + 1) wr).put 0 (.int .i64 b.p)).put 1 (.slice AI' b.its.length cI')).put 2 (.slice A cur.length c))
      have HB2 := Lib.hid (((HR1.out.put 0 (.int .i64 b.p)).put 1 (.slice AI' b.its.length cI')).put 2 (.slice A cur.length c))
      have hlow := HBw.out.trans (HBr.out.mono HBw.out.size)
      refine bodyPost_ret (results_cell_row2 rfl _ _ (w.heap.size + 1) 25 _ (0, 0) _ rfl HB2.out Tryd.underlying25 rfl (by kernel_rfl)) rfl ⟨AI', A, cI', c, qs, cur, rfl, ?_, HM.out, ?_, ?_⟩
      · exact ((HIt.out.below HBr.out).only HP.out HL1.out).at rfl
      · exact HRu.out.onlyG HP.out HR1.out
      · exact hlow.trans (HP.out.below (Nat.le_succ _) hlow.size)
    | succ k =>
      have e : (((k + 1 : Nat) : Int) - 1) = (k : Int) := by omega
      rw [e]
      clear e
      have hkl : k < cur.length := by omega
      have hkb : k ≤ 1000 := by omega
      obtain ⟨g, off, A1, c1, rfl, hg, e0, e1, i1⟩ := (HRu.out.at rfl) k hkl
      obtain ⟨n1, hn1⟩ : ∃ n1, n1 = cur[k].1.length := ⟨_, rfl⟩
      obtain ⟨z, hz⟩ : ∃ z, z = cur[k].2 := ⟨_, rfl⟩
      rw [← hn1] at e0
      rw [← hz] at e1
      have Hn1 := Lib.hid hn1
      have Hz := Lib.hid hz
      have HI1 := Lib.hid i1
      have HE := Lib.hid (And.intro e0 e1)
      have ckl := Lib.hid (cloneRu_any (some ⟨g, off, none⟩) cur.length c w.heap.size qs wr HRu.out.2.1 (by omega) (by omega) HRu.out.one)
      have cdl := Lib.hid (fun (A2 : Option Addr) (c2 : Nat) (W : World) (ho : W.ownsRow wr.heap.size 42 2 (.slice A2 cur.length c2) cur.length (flatV qs)) => deleteRu_any A2 cur.length c2 k wr.heap.size qs W ho hkl HRu.out.1 (by omega) HRu.out.one)
      have HBl2 := Lib.hid (fun W (hW : Below wr.heap.size wr W) => blk3 (HBl.out.below hW hGr))
      have HC2 := Lib.hid (fun W (hW : Below wr.heap.size wr W) => show W.cell? ⟨g, off + k * 2, none⟩ = some (.slice A1 n1 c1) ∧ W.cell? ⟨g, off + k * 2 + 1, none⟩ = some (.int .i64 z) from ⟨(hW.cell (p := ⟨g, off + k * 2, none⟩) hg).trans HE.out.1, (hW.cell (p := ⟨g, off + k * 2 + 1, none⟩) hg).trans HE.out.2⟩)
      clear hn1 hz i1 e0 e1
      go_wp2_with (first
        | (go_at_call 92; refine ckl.out.mono ?_; rintro e w4 ⟨A2, c2, rfl, ho4, hb4⟩; have HO4 := Lib.hid ho4; have HB4 := Lib.hid hb4; clear ho4 hb4)
        | (go_at_call 91; refine (cdl.out A2 c2 _ HO4.out).mono ?_; rintro e w5 ⟨A3, rfl, ho5, g5, hg5, hg5b, on5⟩; have HO5 := Lib.hid ho5; have hb5 : Below wr.heap.size wr w5 := HB4.out.trans (on5.below hg5b HB4.out.size); have HB5 := Lib.hid hb5; clear y0 y1 y2 f0 f1 f2; obtain ⟨y0, y1, y2, _⟩ := HBl2.out _ hb5; obtain ⟨d0, d1⟩ := HC2.out _ hb5; clear ho5 on5 hb5))
      have hwl : w.heap.size ≤ wr.heap.size := (HBw.out.trans (HBr.out.mono HBw.out.size)).size
      have hRe := RuP.erase (lo' := wr.heap.size) HRu.out rfl hkl hwl (Nat.le_refl _) HB5.out HO5.out
      have hle := List.length_eraseIdx_of_lt hkl
      have c78 := cf.out A3 (A1) c2 c1 (cur.eraseIdx k) (cur[k]'hkl) w5 (hRe.at hle.symm) (HI1.out.below HB5.out HB5.out.size) (fun y hy => HSub.out y (List.mem_of_mem_eraseIdx hy)) (HSub.out _ (List.getElem_mem hkl)) (by omega)
      rw [hle, ← Hn1.out, ← Hz.out] at c78
      have HRe := Lib.hid hRe
      have Hle := Lib.hid hle
      have C78 := Lib.hid c78
      have hk1 : k ≤ cur.length := by omega
      have hk2 : k ≤ cur.length - 1 := by omega
      have hk3 : cur.length - 1 ≤ b.rus.length := by omega
      clear hRe hle c78 hwl d0 d1
      go_at_call 78
      refine C78.out.mono ?_
      rintro e w6 ⟨v, rfl, ⟨r, rfl, hfl⟩, hb6⟩
      have HFl := Lib.hid (show FlR (cur.eraseIdx k) p (cur[k]?.getD ([], 0)) r from by
        rw [show cur[k]?.getD ([], 0) = cur[k] by simp [hkl]]; exact hfl)
      have hb56 := HB5.out.trans (hb6.mono HB5.out.size)
      have HB6 := Lib.hid hb56
      have HBl6 := Lib.hid (HBl.out.below hb56 hGr)
      have HRe6 := Lib.hid (HRe.out.below hb6)
      have HRu6 := Lib.hid (HRu.out.below hb56)
      have HBr6 := Lib.hid (HBr.out.trans (hb56.mono HBr.out.size))
      clear y0 y1 y2 hfl hb6 hb56
      obtain ⟨y0, y1, y2, f0, f1, f2⟩ := blk3 HBl6.out
      cases r with
      | false =>
        go_wp2_with fail
        go_roundw
        case rel => exact ⟨k, cur, qs, some ⟨g, off, none⟩, c, hk1, hcl, by go_num, fun m hm => HRed.out m ⟨false, HFl.out, by simpa using hm⟩, HSub.out, HRu6.out, HBl6.out, HBr6.out⟩
        case measure => simp [intOf]
      | true =>
        go_wp2_with fail
        have HP := Lib.hid ((Only.refl w2.heap.size w6).put 2 (.slice A3 (cur.length - 1) c2))
        go_roundw
        case rel =>
          refine ⟨k, cur.eraseIdx k, qs.eraseIdx k, A3, c2, by rw [Hle.out]; exact hk2, by rw [Hle.out]; exact hk3, by go_num, fun m hm => HRed.out m ⟨true, HFl.out, by simpa using hm⟩, fun x hx => HSub.out x (List.mem_of_mem_eraseIdx hx), ?_, ?_, HBr6.out.trans (HP.out.below (Nat.le_refl _) HBr6.out.size)⟩
          · rw [Hle.out]; exact HRe6.out.onlyG HP.out HBl6.out
          · rw [Hle.out]; exact HBl6.out.put 2 (.slice A3 (cur.length - 1) c2)
        case measure => simp [intOf]

set_option maxRecDepth 100000 in
set_option maxHeartbeats 4000000 in
theorem Reduce_bad (AI AR : Option Addr) (cI cR B : Nat) (b : Bk) (w : World) (hB : B ≤ w.heap.size) (h : ItsAt B w AI b.its) (h' : RusAt B w AR b.rus) (hs : Short b) (h0 : vlR b ≠ 0) :
    Calls Tryd.prog 47 #[.agg #[.int .i64 b.p, .slice AI b.its.length cI, .slice AR b.rus.length cR]] w fun e w' => e = .returned (.tuple #[.agg #[.int .i64 0, .slice none 0 0, .slice none 0 0], .int .i64 (vlR b)]) ∧ Below w.heap.size w w' := by
  have hT := h.below (Below.refl _ _) hB
  have hT' := h'.below (Below.refl _ _) hB
  have cv := Lib.hid (fun W (hW : Below w.heap.size w W) => Validate_any AI AR cI cR w.heap.size b W hW.size (hT.below hW (Nat.le_refl _)) (hT'.below hW (Nat.le_refl _)) hs)
  have hne : (vlR b != 0) = true := by simpa using h0
  generalize vlR b = e0 at cv hne ⊢
  have HB0 := Lib.hid (show Below w.heap.size w ((w.alloc (.cells #[.int .i64 b.p, .slice AI b.its.length cI, .slice AR b.rus.length cR] 25)).alloc (.cells #[.int .i64 0, .slice none 0 0, .slice none 0 0] 25)) from balloc (balloc (Below.refl _ _) _) _)
  clear h h' hs hT hT' h0 hB
  go_enter Tryd.func47, Tryd.ntmps47
  go_wp2_with fail
  generalize hW0 : (w.alloc (.cells #[.int .i64 b.p, .slice AI b.its.length cI, .slice AR b.rus.length cR] 25)).alloc (.cells #[.int .i64 0, .slice none 0 0, .slice none 0 0] 25) = W0
  rw [hW0] at HB0
  have HK1 := Lib.hid (show Blk W0 (w.heap.size + 1) 25 #[.int .i64 0, .slice none 0 0, .slice none 0 0] by rw [← hW0]; exact blk_new' (by simp))
  clear hW0
  go_wp2_with (go_at_call 20; refine (cv.out _ HB0.out).mono ?_; rintro e w1 ⟨rfl, hb1⟩; obtain ⟨t0, t1, t2, g0, g1, g2⟩ := blk3 (HK1.out.below hb1 HK1.out.lt); have hlR : w.heap.size + 1 < w1.heap.size := (HK1.out.below hb1 HK1.out.lt).lt)
  have HR1 := Lib.hid (HK1.out.below hb1 HK1.out.lt)
  have HP := Lib.hid ((((Only.refl (w.heap.size + 1) w1).put 0 (.int .i64 0)).put 1 (.slice none 0 0)).put 2 (.slice none 0 0))
  have HB2 := Lib.hid (((HR1.out.put 0 (.int .i64 0)).put 1 (.slice none 0 0)).put 2 (.slice none 0 0))
  have hlow := HB0.out.trans (hb1.mono HB0.out.size)
  refine bodyPost_ret (results_cell_row2 rfl _ _ (w.heap.size + 1) 25 _ (0, 0) _ rfl HB2.out Tryd.underlying25 rfl (by kernel_rfl)) rfl ⟨rfl, hlow.trans (HP.out.below (Nat.le_succ _) hlow.size)⟩
end Go.Proofs.YtgoojcjfhghmgaaDoor
