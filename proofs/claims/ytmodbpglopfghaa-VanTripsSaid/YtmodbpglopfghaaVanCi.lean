/- Trips f52: its table of plans. Written by mkCi.py. -/
import Derived.Test.YtmodbpglopfghaaVanCf
import Derived.Test.YtmodbpglopfghaaOrd2
import Derived.Deep.DeepCutAuto
import Derived.Lib.SliceRun
set_option linter.unusedSimpArgs false
set_option linter.unusedVariables false
namespace Go.Proofs.Ytmodbpglopfghaa
open Go Go.RowKit

/-- What is read at place 0 in the end. -/
theorem PlT.get0 {f : Nat → Nat → Int} {bx : Nat → Int} {cap : Int} {t : List Nat} {G : Nat} {w : World} (h : PlT f bx cap t G w 0) : ∃ p A c, BestP f bx cap t p ∧ w.cell? ⟨G, 0, none⟩ = some (.int .i64 p.1) ∧ w.cell? ⟨G, 1, none⟩ = some (.slice A p.2.length c) ∧ IntsN (fun x => x ≠ G) w A (intL p.2) := by
  obtain ⟨cs, h1, h2, _⟩ := h
  obtain ⟨u, v, p, q1, q2, ⟨rfl, A, c, rfl, q3⟩, q4⟩ := h2 0 (Nat.zero_le _) (Nat.le_refl _)
  exact ⟨p, A, c, by rwa [List.drop_zero] at q4, by rw [h1.cell, ← q1], by rw [h1.cell, ← q2], q3⟩
theorem sgC_at {bx : Nat → Int} {cap : Int} : ∀ (ss t : List Nat), Cut bx cap ss t → ∀ {i : Nat} (hi : i < ss.length), (sgC ss t)[i]'(by rw [sgC_length]; exact hi) = (t.drop (ss.take i).sum).take ss[i]
  | n :: ss, t, h, 0, hi => by simp [sgC]
  | n :: ss, t, h, i + 1, hi => by
    have := sgC_at ss (t.drop n) h.2.2.2 (i := i) (by simpa using hi)
    simp only [sgC, List.getElem_cons_succ, List.take_succ_cons, List.sum_cons]
    rw [this, List.drop_drop]
theorem take_sum_succ (ss : List Nat) {i : Nat} (hi : i < ss.length) : (ss.take (i + 1)).sum = (ss.take i).sum + ss[i] := by
  rw [List.take_succ_eq_append_getElem hi, List.sum_append]; simp
theorem take_sum_le (ss : List Nat) {i : Nat} (hi : i < ss.length) : (ss.take i).sum + ss[i] ≤ ss.sum := by
  rw [← take_sum_succ ss hi]
  conv => rhs; rw [← List.take_append_drop (i + 1) ss]
  rw [List.sum_append]
  exact Nat.le_add_right _ _
theorem RowsOwn.base {base base' : Nat} {gx : Option Nat} {w : World} {vs : List Value} {rows : List (List Int)} (h : RowsOwn base gx w vs rows) (hb : base' ≤ base) : RowsOwn base' gx w vs rows :=
  ⟨h.1, fun i hi => by
    obtain ⟨A, c, h1, h2, h3⟩ := h.2.1 i hi
    exact ⟨A, c, h1, own_base h2 hb, h3⟩, h.2.2⟩

section
variable (b off n c c1 c2 : Nat) (f g : Nat → Nat → Int) (A1 A2 : Option Addr) (l : List Nat) (bx : Int) (w : World)

set_option maxRecDepth 100000 in
set_option maxHeartbeats 16000000 in
theorem Trips_any (rows : List (List Int)) (A : Option Addr) (B : Nat) (t : List Int) (hB : B ≤ w.heap.size) (h : TblAt B w A rows) (hl : rows.length ≤ 30 ∧ ∀ r ∈ rows, r.length ≤ 30) (h1 : StAt B w A1 n g) (hn : n ≤ 1000) (h2 : IntsAt B w A2 t) (hm : t.length ≤ 1000) (hcap : t.length ≤ c2) (he : tpR rows n g t bx = 0) :
    Calls Try.prog 52 #[.slice A rows.length c, .slice A1 n c1, .slice A2 t.length c2, .int .i64 bx] w fun e w' => ∃ A3 c3 ss vs, e = .returned (.tuple #[.slice A3 (List.length ss) c3, .int .i64 (smC (wy rows) ss (toN t)), .int .i64 0]) ∧ BestP (wy rows) (fun x => g x 3) bx (toN t) (smC (wy rows) ss (toN t), ss) ∧
      w'.ownsRow w.heap.size 28 1 (.slice A3 ss.length c3) ss.length vs ∧ RowsOwn w.heap.size (Value.slice A3 ss.length c3).ownBlock w' vs ((sgC ss (toN t)).map intL) ∧ Below w.heap.size w w' := by
  obtain ⟨hts, ⟨hb0, hb1⟩, hfit⟩ := tp_zero he
  obtain ⟨⟨hv, hnr, hs⟩, htu⟩ := ts_zero hts
  have cv := Lib.hid (stopped_any A A1 A2 c c1 c2 B rows n g t w hB h hl h1 hn h2 hm hcap)
  rw [hts] at cv
  obtain ⟨l, rfl, -, -, -, hlt, -, hl10, hbx, -⟩ := tp_facts he
  rw [intL_toN] at hfit ⊢
  rw [intL_length] at cv hm hcap ⊢
  have H2 := Lib.hid (show IntsAt w.heap.size w A2 (intL l) from h2.below (Below.refl _ _) hB)
  have H1 := Lib.hid (show StAt w.heap.size w A1 n g from h1.below (Below.refl _ _) hB)
  obtain ⟨b, off, rfl, hwa⟩ := WaAt.of_tbl (h.below (Below.refl _ _) hB) hv
  have hn0 := hv.n0
  rw [← hnr] at cv hwa hn0 ⊢
  have hbd := hv.bd
  rw [← hnr] at hbd
  have H := Lib.hid hwa
  have Hlt := Lib.hid hlt
  have Hbx := Lib.hid hbx
  have Hg := Lib.hid hs
  have Hbd := Lib.hid hbd
  have Hld := Lib.hid (fun k m => ldS_bd (t := (l.drop k).take m) (bx := fun x => g x 3) fun x hx => ⟨(hs x (hlt x (List.mem_of_mem_drop (List.mem_of_mem_take hx)))).2.1, (hs x (hlt x (List.mem_of_mem_drop (List.mem_of_mem_take hx)))).2.2⟩)
  have Hmono := Lib.hid (fun k (a d : Nat) (had : a ≤ d) => ldS_take (t := l.drop k) (bx := fun x => g x 3) (fun x hx => (hs x (hlt x (List.mem_of_mem_drop hx))).2.1) had)
  have d0 : decide (bx < 0) = false := decide_eq_false (by omega)
  have d1 : decide (100 < bx) = false := decide_eq_false (by omega)
  obtain ⟨m1, hm1⟩ : ∃ m1, m1 = l.length + 1 := ⟨_, rfl⟩
  obtain ⟨cs, hcs, hmk⟩ := make_plans m1 (by omega)
  have HCs := Lib.hid (show ∀ j, j ≤ l.length → cs[j * 2]? = some (.int .i64 0) ∧ cs[j * 2 + 1]? = some (.slice none 0 0) from fun j hj => hcs j (by omega))
  have hw1 : IntKind.i64.wrap ((l.length : Int) + 1) = (m1 : Int) := by rw [IntWalk.i64_in _ (by omega)]; omega
  have hw2 : IntKind.i64.wrap ((l.length : Int) - 1) = (l.length : Int) - 1 := IntWalk.i64_in _ (by omega)
  have Hm1 := Lib.hid hm1
  have hm1b : m1 ≤ 11 := by omega
  obtain ⟨j0, hj, hy0, hy1, hy2⟩ := info_parts info3
  clear h h1 h2 hwa hs hv hts htu he hbx hlt hfit hbd hB hl hnr hm1 hcs
  generalize wy rows = f at *
  go_enter Try.func52, Try.ntmps52
  go_wp2_with (go_at_call 71; refine cv.out.mono ?_; rintro e w1 ⟨rfl, hb1⟩)
  have HB1 := Lib.hid hb1
  clear hb1
  go_loopw [38] (fun vi wr => ∃ i : Nat, i ≤ l.length ∧ vi = .int .i64 i ∧ Below w.heap.size w wr) (fun vi _ => l.length - (intOf vi).toNat)
  case atStart => exact ⟨0, Nat.zero_le _, rfl, HB1.out⟩
  case round =>
    clear HB1
    obtain ⟨i, hi, rfl, hbr⟩ := hrel
    have HBr := Lib.hid hbr
    clear hbr
    by_cases hlti : i < l.length
    · obtain ⟨b2, o2, rfl, hb2, y0⟩ := (H2.out.below HBr.out (Nat.le_refl _)).at (k := i) (by rw [intL_length]; exact hlti)
      rw [intL_get hlti] at y0
      have hsx := Hlt.out _ (List.getElem_mem hlti)
      have hfx := Hbx.out _ (List.getElem_mem hlti)
      obtain ⟨b3, o3, rfl, hb3, _, _, _, g3⟩ := (H1.out.below HBr.out (Nat.le_refl _)).at hsx
      generalize l[i] = x at *
      generalize g x 3 = y at *
      have hiI : (i : Int) < (l.length : Int) := by omega
      have hi0 : (0 : Int) ≤ (i : Int) := by omega
      have hx0 : (0 : Int) ≤ (x : Int) := by omega
      have hxn : (x : Int) < (n : Int) := by omega
      go_wp2_with fail
      go_roundw
      case rel => exact ⟨i + 1, by omega, by go_num, HBr.out⟩
      case measure => simp [intOf]; omega
    · obtain rfl : i = l.length := by omega
      clear hi hlti
      go_wp2_with fail
      have HB2 := Lib.hid (balloc (Below.refl wr.heap.size wr) (.cells cs 98))
      have HT2 := Lib.hid (show PlT f (fun x => g x 3) bx l wr.heap.size (wr.alloc (.cells cs 98)) l.length from PlT.start (Blk.new _ _ _) HCs.out)
      have hGw : w.heap.size ≤ wr.heap.size := HBr.out.size
      have HB3 := Lib.hid (HBr.out.trans (HB2.out.mono hGw))
      clear HB2 hmk HCs
      generalize hw3 : wr.alloc (.cells cs 98) = w3 at *
      clear hw3 HBr
      generalize wr.heap.size = G at *
      go_loopw [15] (fun vi wx => ∃ k : Nat, k ≤ l.length ∧ vi = .int .i64 ((k : Int) - 1) ∧ Aside (PlT f (fun x => g x 3) bx l G wx k) ∧ Below w.heap.size w wx) (fun vi _ => (intOf vi + 1).toNat)
      case atStart => exact ⟨l.length, Nat.le_refl _, rfl, HT2.out, HB3.out⟩
      case round =>
        clear HT2 HB3
        obtain ⟨k, hk, rfl, hT, hbx⟩ := hrel
        have HT := Lib.hid hT.out
        have HBx := Lib.hid hbx
        clear hT hbx
        cases k with
        | zero =>
          obtain ⟨p, Ap, cp, hbp, e0, e1, hip⟩ := HT.out.get0
          have hGl := HT.out.lt
          obtain ⟨z, ss⟩ := p
          simp only at e0 e1 hip
          have hz : z = smC f ss l := hbp.2.1
          have hcut := hbp.1
          have HBp := Lib.hid (show BestP f (fun x => g x 3) bx l (smC f ss l, ss) by rw [← hz]; exact hbp)
          have HZ := Lib.hid hz
          have hsl := Cut.len hcut
          have HCut := Lib.hid hcut
          have Hpos := Lib.hid (Cut.pos ss l hcut)
          have Hsum := Lib.hid (Cut.sum ss l hcut)
          obtain ⟨ns, hns⟩ : ∃ ns, ns = ss.length := ⟨_, rfl⟩
          rw [← hns] at e1 hsl
          have Hns := Lib.hid hns
          obtain ⟨i28, hi28, hz28, hs28, hb28⟩ := info_parts info28
          have hm1p : (0 : Int) < (m1 : Int) := by have := Hm1.out; omega
          clear HT hbp hz hcut hns
          go_wp2_with fail
          have HC := Lib.hid (fun (W : World) (hW : Below wr.heap.size wr W) => And.intro ((hW.cell (p := ⟨G, 0, none⟩) hGl).trans e0) ((hW.cell (p := ⟨G, 1, none⟩) hGl).trans e1))
          have HI := Lib.hid (fun (W : World) (hW : Below wr.heap.size wr W) => (hip.mv (Mv.below hW)).at)
          have HBw := Lib.hid HBx.out
          have HB0 := Lib.hid (Below.refl wr.heap.size wr)
          generalize hw5 : wr = w5 at *
          clear hw5 e0 e1 hip HBx
          go_loopw [19, 20, 132] (fun vo va vi wx => ∃ (i : Nat) (vs : List Value) (A : Option Addr) (cA : Nat), i ≤ ns ∧ vi = .int .i64 i ∧ va = .int .i64 ((ss.take i).sum : Nat) ∧ vo = .slice A i cA ∧ Aside (wx.ownsRow w5.heap.size 28 1 (.slice A i cA) i vs) ∧ Aside (RowsOwn w5.heap.size (Value.slice A i cA).ownBlock wx vs (((sgC ss l).map intL).take i)) ∧ Below w5.heap.size w5 wx) (fun _ _ vi _ => ns - (intOf vi).toNat)
          case atStart => exact ⟨0, [], none, 0, Nat.zero_le _, rfl, rfl, rfl, World.ownsRow_nil _ _ _ _, by rw [List.take_zero]; exact RowsOwn.nil _ _ _, HB0.out⟩
          case round =>
            clear HB0
            obtain ⟨i, vs, A, cA, hi, rfl, rfl, rfl, hown, hrow, hbr⟩ := hrel
            have HO := Lib.hid hown.out
            have HRw := Lib.hid hrow.out
            have Hbr := Lib.hid hbr
            clear hown hrow
            by_cases hlti : i < ns
            · obtain ⟨bp, op, rfl, hbp, y0⟩ := (HI.out _ hbr).at (k := i) (by rw [intL_length, ← Hns.out]; exact hlti)
              rw [intL_get (by rw [← Hns.out]; exact hlti)] at y0
              have hil : i < ss.length := by rw [← Hns.out]; exact hlti
              have hpx := Hpos.out _ (List.getElem_mem hil)
              have hsg := sgC_at ss l HCut.out hil
              have hat := take_sum_le ss hil
              rw [Hsum.out] at hat
              have Htk := Lib.hid (show ((sgC ss l).map intL).take i ++ [intL ((l.drop (ss.take i).sum).take ss[i])] = ((sgC ss l).map intL).take (i + 1) from by
                rw [List.take_succ_eq_append_getElem (by rw [List.length_map, sgC_length]; exact hil), List.getElem_map, hsg])
              have Hsu := Lib.hid (take_sum_succ ss hil)
              obtain ⟨x, hx⟩ : ∃ x, x = ss[i] := ⟨_, rfl⟩
              rw [← hx] at y0 hpx hat Htk Hsu
              generalize (ss.take i).sum = a at hat Htk Hsu ⊢
              obtain ⟨a2, ha2⟩ : ∃ a2, a2 = a + x := ⟨_, rfl⟩
              rw [← ha2] at hat Hsu
              have hwa : IntKind.i64.wrap ((a : Int) + (x : Int)) = (a2 : Int) := by rw [IntWalk.i64_in _ (by omega)]; omega
              have hiI : (i : Int) < (ns : Int) := by omega
              have ha0 : (0 : Int) ≤ (a : Int) := by omega
              have haa : (a : Int) ≤ (a2 : Int) := by omega
              have hac : (a2 : Int) ≤ (c2 : Int) := by omega
              have hax : a2 - a = x := by omega
              obtain ⟨b2, o2, rfl, -, -⟩ := H2.out.at (k := a) (by rw [intL_length]; omega)
              have HDr := Lib.hid (show IntsAt w.heap.size w (if c2 = a then some (⟨b2, o2, none⟩ : Addr) else some ⟨b2, o2 + a, none⟩) (intL ((l.drop a).take x)) from by
                have := (H2.out.dropD (c := c2) (a := a) (by rw [intL_length]; exact hcap)).take x
                have e : Option.map (fun y : Addr => y.add a) (some (⟨b2, o2, none⟩ : Addr)) = some ⟨b2, o2 + a, none⟩ := by rw [Option.map_some, Addr.add_lit]
                rw [e] at this
                unfold intL at this ⊢
                rwa [List.map_take, List.map_drop])
              have hlx : (intL ((l.drop a).take x)).length = x := by rw [intL_length, List.length_take, List.length_drop]; omega
              generalize hA3 : (if c2 = a then some (⟨b2, o2, none⟩ : Addr) else some ⟨b2, o2 + a, none⟩) = A3 at HDr
              have hBw := HBw.out.trans (hbr.mono HBw.out.size)
              have cc := clone_any A3 (c2 - a) wr.heap.size (intL ((l.drop a).take x)) wr (by rw [hlx]; omega) (HDr.out.below hBw hBw.size)
              rw [hlx] at cc
              have CC := Lib.hid cc
              have Hlx := Lib.hid hlx
              generalize intL ((l.drop a).take x) = o at *
              rw [← hax] at CC
              have Hax := Lib.hid hax
              clear hx ha2 cc hlx hax HDr hbr hBw hsg hil
              go_wp2_with (first
                | (go_at_call 61; refine CC.out.mono ?_; rintro e w6 ⟨v6, rfl, hown6, hb6⟩; obtain ⟨A6, c6, rfl⟩ := own_form hown6; have HO6 := Lib.hid hown6; have HB6 := Lib.hid hb6; clear hown6 hb6)
                | (at_builtin; refine wpList_app2' rfl _ _ 22 rfl w5.heap.size 28 i28 _ 1 24 Try.underlying22 hi28 hz28 hs28 hb28 rfl (by decide) _ i vs rfl (own_below HO.out (balloc HB6.out _)) w6.heap.size (.slice A6 (a2 - a) c6) rfl rfl (by exact cell_one_new _ _ _ 0 _ rfl) rfl (by omega) (by decide) (Nat.le_trans (Nat.le_trans Hbr.out.size HB6.out.size) (by simp)) ?_; intro A8 c8 w8 hown8 hg8 hlow8 hat8))
              have hb8 : Below w5.heap.size w5 w8 := (Hbr.out.trans ((balloc HB6.out (.cells #[.slice A6 (a2 - a) c6] 28)).mono Hbr.out.size)).grown hg8 (Nat.le_trans (Nat.le_trans Hbr.out.size HB6.out.size) (by simp)) hlow8
              have hR4 := (HRw.out.below (balloc HB6.out (.cells #[.slice A6 (a2 - a) c6] 28))).snoc (o := o) wr.heap.size Hbr.out.size (by rw [Hlx.out, Hax.out]) (HO6.out.alloc _) (fun k hk => (HO.out.lt k hk).2) (fun i' v' hv' b' hb' => HRw.out.lt hv' hb')
              have hR6 := hR4.grown hg8 hat8
              rw [Htk.out] at hR6
              go_roundw
              case rel => exact ⟨i + 1, _, A8, c8, by omega, by go_num, by rw [Hsu.out], rfl, hown8, hR6, hb8⟩
              case measure => simp [intOf]; omega
            · obtain rfl : i = ns := by omega
              obtain ⟨q0, q1⟩ := HC.out _ hbr
              have HF := Lib.hid (show ((sgC ss l).map intL).take i = (sgC ss l).map intL from List.take_of_length_le (by rw [List.length_map, sgC_length, ← Hns.out]; exact Nat.le_refl _))
              rw [HF.out] at HRw
              clear hbr
              go_wp2_with fail
              go_quiet (fail)
              go_wp2_with fail
              go_ret3
              refine ⟨A, cA, ss, vs, by rw [← Hns.out, ← HZ.out]; rfl, HBp.out, ?_, ?_, HBw.out.trans ((below_drewN Hbr.out _).mono HBw.out.size)⟩
              · rw [← Hns.out]; exact own_base (own_below HO.out (below_drewN (Below.refl _ _) _)) HBw.out.size
              · rw [← Hns.out]; exact (HRw.out.below (below_drewN (Below.refl _ _) _)).base HBw.out.size
        | succ k =>
          have e : (((k + 1 : Nat) : Int) - 1) = (k : Int) := by omega
          rw [e]
          clear e
          have hkI : (0 : Int) ≤ (k : Int) := by omega
          have hkw : IntKind.i64.wrap ((k : Int) - 1) = (k : Int) - 1 := IntWalk.i64_in _ (by omega)
          have HQ0 := Lib.hid HT.out.enter
          have hGlt := HT.out.lt
          have HLv := Lib.hid (fun (W : World) (m : Nat) (o : Option (Int × List Nat)) (hQ : PlK f (fun x => g x 3) bx l G W k m o) (hm : ∀ q, m < q → q ≤ (l.drop k).length → bx < ldS (fun x => g x 3) ((l.drop k).take q)) => hQ.leave (by omega) Hbx.out hm)
          clear HT
          go_wp2_with fail
          go_loopw [16, 17] (fun vl vj wx => ∃ (j : Nat) (o : Option (Int × List Nat)), k ≤ j ∧ j ≤ l.length ∧ vj = .int .i64 j ∧ vl = .int .i64 (ldS (fun x => g x 3) ((l.drop k).take (j - k))) ∧ Aside (PlK f (fun x => g x 3) bx l G wx k (j - k) o) ∧ Below w.heap.size w wx) (fun _ vj _ => l.length - (intOf vj).toNat)
          case atStart => exact ⟨k, none, Nat.le_refl _, by omega, rfl, by simp [ldS], by rw [Nat.sub_self]; exact HQ0.out, HBx.out⟩
          case round =>
            clear HQ0 HBx
            obtain ⟨j, o, hkj, hj2, rfl, rfl, hQ, hbx⟩ := hrel
            have HQ := Lib.hid hQ.out
            have HBx := Lib.hid hbx
            have hGl := hQ.out.lt
            clear hQ hbx
            by_cases hjl : j < l.length
            · obtain ⟨b2, o2, rfl, hb2, y0⟩ := (H2.out.below HBx.out (Nat.le_refl _)).at (k := j) (by rw [intL_length]; exact hjl)
              rw [intL_get hjl] at y0
              have hsx := Hlt.out _ (List.getElem_mem hjl)
              obtain ⟨b3, o3, rfl, hb3, _, _, _, g3⟩ := (H1.out.below HBx.out (Nat.le_refl _)).at hsx
              have hg3 : 0 ≤ g l[j] 3 ∧ g l[j] 3 ≤ 100 := (Hg.out _ hsx).2
              have hdl : j - k < (l.drop k).length := by rw [List.length_drop]; omega
              have hsu := ldS_succ (bx := fun x => g x 3) hdl
              rw [show (l.drop k)[j - k] = l[j] by simp only [List.getElem_drop, Nat.add_sub_cancel' hkj]] at hsu
              have hld0 := (Hld.out k (j - k)).1
              have hld1 := (Hld.out k (j - k)).2
              have hlen : ((l.drop k).take (j - k)).length ≤ 10 := by rw [List.length_take, List.length_drop]; omega
              obtain ⟨n1, hn1⟩ : ∃ n1, n1 = j - k + 1 := ⟨_, rfl⟩
              obtain ⟨j1, hj1⟩ : ∃ j1, j1 = j + 1 := ⟨_, rfl⟩
              rw [← hn1] at hsu
              have Hsu := Lib.hid hsu
              have Hn1 := Lib.hid hn1
              have Hj1 := Lib.hid hj1
              have hjI : (j : Int) < (l.length : Int) := by omega
              have hj0 : (0 : Int) ≤ (j : Int) := by omega
              have hx0 : (0 : Int) ≤ ((l[j] : Nat) : Int) := by omega
              have hxn : ((l[j] : Nat) : Int) < (n : Int) := by omega
              have hwj : IntKind.i64.wrap ((j : Int) + 1) = (j1 : Int) := by rw [IntWalk.i64_in _ (by omega)]; omega
              generalize l[j] = x at *
              generalize g x 3 = y at *
              generalize hl0 : ldS (fun x => g x 3) ((l.drop k).take (j - k)) = l0 at *
              have hwl : IntKind.i64.wrap (l0 + y) = l0 + y := IntWalk.i64_in _ (by omega)
              clear hsu hl0 hld0 hld1 hlen
              by_cases hbig : bx < l0 + y
              · have HT2 := Lib.hid (HLv.out _ _ _ HQ.out fun q hq1 hq2 => by
                  have := Hmono.out k n1 q (by rw [Hn1.out]; omega)
                  rw [Hsu.out] at this
                  omega)
                clear hn1 hj1
                go_wp2_with fail
                go_roundw
                case rel => exact ⟨k, by omega, by go_num, HT2.out, HBx.out⟩
                case measure => (simp [intOf]; try omega)
              · have hsm : l0 + y ≤ bx := by omega
                have HLd := Lib.hid (show ldS (fun x => g x 3) ((l.drop k).take n1) ≤ bx by rw [Hsu.out]; exact hsm)
                have HLe := Lib.hid (show ldS (fun x => g x 3) ((l.drop k).take n1) = l0 + y from Hsu.out)
                obtain ⟨p, Ap, cp, hbp, e0, e1, hip⟩ := HQ.out.get (j := j1) (by omega) (by omega)
                have hpb := hbp.bd Hbd.out hn0 (fun x hx => Hlt.out x (List.mem_of_mem_drop hx))
                rw [List.length_drop] at hpb
                have HBp := Lib.hid (show BestP f (fun x => g x 3) bx ((l.drop k).drop n1) p from by
                  rw [List.drop_drop, show k + n1 = j1 by omega]; exact hbp)
                have hlnb := lenF_bd (t := (l.drop k).take n1) Hbd.out (fun x hx => Hlt.out x (List.mem_of_mem_drop (List.mem_of_mem_take hx))) hn0
                rw [List.length_take, List.length_drop] at hlnb
                obtain ⟨p1, ps⟩ := p
                simp only at e0 e1 hip hpb
                obtain ⟨np, hnp⟩ : ∃ np, np = ps.length := ⟨_, rfl⟩
                rw [← hnp] at e1 hpb
                have Hnp := Lib.hid hnp.symm
                have HDr := Lib.hid (show IntsAt w.heap.size w (if c2 = k then some (⟨b2, o2, none⟩ : Addr) else some ⟨b2, o2 + k, none⟩) (intL ((l.drop k).take n1)) from by
                  have := (H2.out.dropD (c := c2) (a := k) (by rw [intL_length]; exact hcap)).take n1
                  have e : Option.map (fun x : Addr => x.add k) (some (⟨b2, o2, none⟩ : Addr)) = some ⟨b2, o2 + k, none⟩ := by rw [Option.map_some, Addr.add_lit]
                  rw [e] at this
                  unfold intL at this ⊢
                  rwa [List.map_take, List.map_drop])
                have cl00 := fun (A3 : Option Addr) (W : World) (hW : Below w.heap.size w W) (hI : IntsAt W.heap.size W A3 (intL ((l.drop k).take n1))) => length_any b off n c (c2 - k) W.heap.size f A3 ((l.drop k).take n1) W (H.out.below hW hW.size) Hbd.out hI (fun x hx => Hlt.out x (List.mem_of_mem_drop (List.mem_of_mem_take hx))) hn0 (by rw [List.length_take, List.length_drop]; omega)
                rw [show ((l.drop k).take n1).length = j1 - k by rw [List.length_take, List.length_drop]; omega] at cl00
                have cl0 := Lib.hid cl00
                clear cl00 hbp hnp
                have HNew := Lib.hid (show ∀ z, z = lenF f 0 ((l.drop k).take n1) + p1 → (o = none → BestK f (fun x => g x 3) bx (l.drop k) n1 (some (z, n1 :: ps))) ∧ ∀ q, o = some q → (ltP (z, n1 :: ps) q → BestK f (fun x => g x 3) bx (l.drop k) n1 (some (z, n1 :: ps))) ∧ (¬ ltP (z, n1 :: ps) q → BestK f (fun x => g x 3) bx (l.drop k) n1 (some q)) from fun z hz => by
                  have hk2 := HQ.out.best
                  have hl2 := HLd.out
                  have hp2 := HBp.out
                  subst hz
                  rw [Hn1.out] at hl2 hp2 ⊢
                  refine ⟨fun e => ?_, fun q e => ⟨fun hlt => ?_, fun hlt => ?_⟩⟩
                  · rw [e] at hk2; exact hk2.first hdl hl2 hp2
                  · rw [e] at hk2; exact hk2.take hdl hl2 hp2 hlt
                  · rw [e] at hk2; exact hk2.keep hp2 hlt)
                generalize lenF f 0 ((l.drop k).take n1) = ln at *
                obtain ⟨z, hz⟩ : ∃ z, z = ln + p1 := ⟨_, rfl⟩
                have hwz : IntKind.i64.wrap (ln + p1) = z := by rw [IntWalk.i64_in _ (by omega), hz]
                have HN2 := Lib.hid (HNew.out z hz)
                have hkw1 : IntKind.i64.wrap ((j1 : Int) - (k : Int)) = (n1 : Int) := by rw [IntWalk.i64_in _ (by omega)]; omega
                have hk1 : (k : Int) ≤ (j1 : Int) := by omega
                have hj1c : (j1 : Int) ≤ (c2 : Int) := by omega
                have hj1m : (j1 : Int) < (m1 : Int) := by have := Hm1.out; omega
                have hj10 : (0 : Int) ≤ (j1 : Int) := by omega
                have hkm : (k : Int) < (m1 : Int) := by have := Hm1.out; omega
                have hnp10 : np ≤ 10 := by omega
                have hjk1 : j1 - k = n1 := by omega
                have Hjk1 := Lib.hid hjk1
                generalize hA3 : (if c2 = k then some (⟨b2, o2, none⟩ : Addr) else some ⟨b2, o2 + k, none⟩) = A3 at HDr
                clear HNew hn1 hj1 hz hjk1 hlnb hpb
                go_upto_region 22 with fail
                go_cut [18] (fun v18 wx => ∃ (G2 : Nat) (A6 : Option Addr) (c6 : Nat), v18 = .pointer (some ⟨G2, 0, none⟩) ∧ Aside (Blk wx G2 98 #[.int .i64 z, .slice A6 (np + 1) c6]) ∧ Aside (IntsN (fun x => x ≠ G) wx A6 (intL (n1 :: ps))) ∧ Below wr.heap.size wr wx ∧ wr.heap.size ≤ G2)
                case first =>
                  refine wp_region_E (S := fun W => Below wr.heap.size wr W ∧ W.cell? ⟨G, j1 * 2, none⟩ = some (.int .i64 p1) ∧ W.cell? ⟨G, j1 * 2 + 1, none⟩ = some (.slice Ap np cp)) (E := fun _ => false) (by kernel_rfl) ?_
                  have hbi : Below wr.heap.size wr wr.drew := (Below.refl _ _).drew
                  have HBc := Lib.hid hbi
                  generalize wr.drew = wi0 at HBc ⊢
                  have Keep := Lib.hid (show ∀ W, Below wr.heap.size wr W → Below wr.heap.size wr W ∧ W.cell? ⟨G, j1 * 2, none⟩ = some (.int .i64 p1) ∧ W.cell? ⟨G, j1 * 2 + 1, none⟩ = some (.slice Ap np cp) from fun W hW =>
                    ⟨hW, (hW.cell (p := ⟨G, j1 * 2, none⟩) hGl).trans e0, (hW.cell (p := ⟨G, j1 * 2 + 1, none⟩) hGl).trans e1⟩)
                  have cl := Lib.hid (fun (W : World) (hW : Below wr.heap.size wr W) => cl0.out A3 W (HBx.out.trans (hW.mono HBx.out.size)) ((HDr.out.below (HBx.out.trans (hW.mono HBx.out.size)) (HBx.out.trans (hW.mono HBx.out.size)).size)))
                  have HpA := Lib.hid hip.at
                  have hS := Keep.out _ HBc.out
                  clear hbi e0 e1 hip HN2 HLd HLe HQ cl0 HDr
                  refine anyE_tk 0 81 (oi := ?oi1) (v := ?v1) ?hi1 ?hd1 (by kernel_rfl) (by kernel_rfl) (by kernel_rfl) ?hQ1 ?hy1 hS ?rest1
                  case hi1 => simp only [List.getElem?_toArray, List.getElem?_cons_zero, List.getElem?_cons_succ]; rfl
                  case hd1 => rfl
                  case hQ1 => exact fun _ _ _ h => h
                  case hy1 => (refine Or.inl ⟨by rfl, ?_⟩; intro w hSw; (try dsimp only at hSw); go_simp; try with_reducible rfl)
                  simp only [List.setIfInBounds_toArray, List.set_cons_zero, List.set_cons_succ]
                  refine anyE_tk 1 82 (oi := ?oi2) (v := ?v2) ?hi2 ?hd2 (by kernel_rfl) (by kernel_rfl) (by kernel_rfl) ?hQ2 ?hy2 hS ?rest2
                  case hi2 => simp only [List.getElem?_toArray, List.getElem?_cons_zero, List.getElem?_cons_succ]; rfl
                  case hd2 => rfl
                  case hQ2 => exact fun _ _ _ h => h
                  case hy2 => (refine Or.inl ⟨by rfl, ?_⟩; intro w hSw; (try dsimp only at hSw); go_simp; try with_reducible rfl)
                  simp only [List.setIfInBounds_toArray, List.set_cons_zero, List.set_cons_succ]
                  refine anyE_tk 2 83 (oi := ?oi3) (v := ?v3) ?hi3 ?hd3 (by kernel_rfl) (by kernel_rfl) (by kernel_rfl) ?hQ3 ?hy3 hS ?rest3
                  case hi3 => simp only [List.getElem?_toArray, List.getElem?_cons_zero, List.getElem?_cons_succ]; rfl
                  case hd3 => rfl
                  case hQ3 => exact fun _ _ _ h => h
                  case hy3 => (refine Or.inl ⟨by rfl, ?_⟩; intro w hSw; (try dsimp only at hSw); go_simp; try with_reducible rfl)
                  simp only [List.setIfInBounds_toArray, List.set_cons_zero, List.set_cons_succ]
                  refine anyE_tk 3 84 (oi := ?oi4) (v := ?v4) ?hi4 ?hd4 (by kernel_rfl) (by kernel_rfl) (by kernel_rfl) ?hQ4 ?hy4 hS ?rest4
                  case hi4 => simp only [List.getElem?_toArray, List.getElem?_cons_zero, List.getElem?_cons_succ]; rfl
                  case hd4 => rfl
                  case hQ4 => exact fun _ _ _ h => h
                  case hy4 => (refine Or.inl ⟨by rfl, ?_⟩; intro w hSw; (try dsimp only at hSw); go_simp; try with_reducible rfl)
                  simp only [List.setIfInBounds_toArray, List.set_cons_zero, List.set_cons_succ]
                  refine anyE_tk 4 85 (oi := ?oi5) (v := ?v5) ?hi5 ?hd5 (by kernel_rfl) (by kernel_rfl) (by kernel_rfl) ?hQ5 ?hy5 hS ?rest5
                  case hi5 => simp only [List.getElem?_toArray, List.getElem?_cons_zero, List.getElem?_cons_succ]; rfl
                  case hd5 => rfl
                  case hQ5 => exact fun _ _ _ h => h
                  case hy5 => (refine Or.inl ⟨by rfl, ?_⟩; intro w hSw; (try dsimp only at hSw); go_simp; try with_reducible rfl)
                  simp only [List.setIfInBounds_toArray, List.set_cons_zero, List.set_cons_succ]
                  refine anyE_tk 5 86 (oi := ?oi6) (v := ?v6) ?hi6 ?hd6 (by kernel_rfl) (by kernel_rfl) (by kernel_rfl) ?hQ6 ?hy6 hS ?rest6
                  case hi6 => simp only [List.getElem?_toArray, List.getElem?_cons_zero, List.getElem?_cons_succ]; rfl
                  case hd6 => rfl
                  case hQ6 => exact fun _ _ _ h => h
                  case hy6 => (refine Or.inl ⟨by rfl, ?_⟩; intro w hSw; (try dsimp only at hSw); go_simp; try with_reducible rfl)
                  simp only [List.setIfInBounds_toArray, List.set_cons_zero, List.set_cons_succ]
                  refine anyE_tkC 6 87 (oi := ?oi7) (v := .int .i64 ln) ?hi7 ?hd7 (by kernel_rfl) (by kernel_rfl) (by kernel_rfl) ?hQ7 ?hy7 hS ?rest7
                  case hi7 => simp only [List.getElem?_toArray, List.getElem?_cons_zero, List.getElem?_cons_succ]; rfl
                  case hd7 => rfl
                  case hQ7 => exact fun _ _ _ h => h
                  case hy7 => exact ⟨by rfl, fun W hSw => ⟨66, #[.slice (some ⟨b, off, none⟩) n c, .slice A3 (j1 - k) (c2 - k)], by (go_simp; try with_reducible rfl), cl.out W hSw.1⟩⟩
                  simp only [List.setIfInBounds_toArray, List.set_cons_zero, List.set_cons_succ]
                  refine anyE_tk 7 88 (oi := ?oi8) (v := ?v8) ?hi8 ?hd8 (by kernel_rfl) (by kernel_rfl) (by kernel_rfl) ?hQ8 ?hy8 hS ?rest8
                  case hi8 => simp only [List.getElem?_toArray, List.getElem?_cons_zero, List.getElem?_cons_succ]; rfl
                  case hd8 => rfl
                  case hQ8 => exact fun _ _ _ h => h
                  case hy8 => (refine Or.inl ⟨by rfl, ?_⟩; intro w hSw; (try dsimp only at hSw); go_simp; try with_reducible rfl)
                  simp only [List.setIfInBounds_toArray, List.set_cons_zero, List.set_cons_succ]
                  refine anyE_tk 8 89 (oi := ?oi9) (v := ?v9) ?hi9 ?hd9 (by kernel_rfl) (by kernel_rfl) (by kernel_rfl) ?hQ9 ?hy9 hS ?rest9
                  case hi9 => simp only [List.getElem?_toArray, List.getElem?_cons_zero, List.getElem?_cons_succ]; rfl
                  case hd9 => rfl
                  case hQ9 => exact fun _ _ _ h => h
                  case hy9 => (refine Or.inl ⟨by rfl, ?_⟩; intro w hSw; (try dsimp only at hSw); go_simp; try with_reducible rfl)
                  simp only [List.setIfInBounds_toArray, List.set_cons_zero, List.set_cons_succ]
                  refine anyE_tk 9 90 (oi := ?oi10) (v := ?v10) ?hi10 ?hd10 (by kernel_rfl) (by kernel_rfl) (by kernel_rfl) ?hQ10 ?hy10 hS ?rest10
                  case hi10 => simp only [List.getElem?_toArray, List.getElem?_cons_zero, List.getElem?_cons_succ]; rfl
                  case hd10 => rfl
                  case hQ10 => exact fun _ _ _ h => h
                  case hy10 => (refine Or.inl ⟨by rfl, ?_⟩; intro w hSw; (try dsimp only at hSw); go_simp; try with_reducible rfl)
                  simp only [List.setIfInBounds_toArray, List.set_cons_zero, List.set_cons_succ]
                  refine anyE_tk 10 91 (oi := ?oi11) (v := ?v11) ?hi11 ?hd11 (by kernel_rfl) (by kernel_rfl) (by kernel_rfl) ?hQ11 ?hy11 hS ?rest11
                  case hi11 => simp only [List.getElem?_toArray, List.getElem?_cons_zero, List.getElem?_cons_succ]; rfl
                  case hd11 => rfl
                  case hQ11 => exact fun _ _ _ h => h
                  case hy11 => (refine Or.inl ⟨by rfl, ?_⟩; intro w hSw; (try dsimp only at hSw); go_simp; try with_reducible rfl)
                  simp only [List.setIfInBounds_toArray, List.set_cons_zero, List.set_cons_succ]
                  refine anyE_tk 11 92 (oi := ?oi12) (v := ?v12) ?hi12 ?hd12 (by kernel_rfl) (by kernel_rfl) (by kernel_rfl) ?hQ12 ?hy12 hS ?rest12
                  case hi12 => simp only [List.getElem?_toArray, List.getElem?_cons_zero, List.getElem?_cons_succ]; rfl
                  case hd12 => rfl
                  case hQ12 => exact fun _ _ _ h => h
                  case hy12 => (refine Or.inl ⟨by rfl, ?_⟩; intro w hSw; (try dsimp only at hSw); go_simp; try with_reducible rfl)
                  simp only [List.setIfInBounds_toArray, List.set_cons_zero, List.set_cons_succ]
                  refine anyE_tk 12 93 (oi := ?oi13) (v := ?v13) ?hi13 ?hd13 (by kernel_rfl) (by kernel_rfl) (by kernel_rfl) ?hQ13 ?hy13 hS ?rest13
                  case hi13 => simp only [List.getElem?_toArray, List.getElem?_cons_zero, List.getElem?_cons_succ]; rfl
                  case hd13 => rfl
                  case hQ13 => exact fun _ _ _ h => h
                  case hy13 => (refine Or.inl ⟨by rfl, ?_⟩; intro w hSw; (try dsimp only at hSw); go_simp; try with_reducible rfl)
                  simp only [List.setIfInBounds_toArray, List.set_cons_zero, List.set_cons_succ]
                  refine anyE_tk 13 94 (oi := ?oi14) (v := ?v14) ?hi14 ?hd14 (by kernel_rfl) (by kernel_rfl) (by kernel_rfl) ?hQ14 ?hy14 hS ?rest14
                  case hi14 => simp only [List.getElem?_toArray, List.getElem?_cons_zero, List.getElem?_cons_succ]; rfl
                  case hd14 => rfl
                  case hQ14 => exact fun _ _ _ h => h
                  case hy14 => (refine Or.inl ⟨by rfl, ?_⟩; intro w hSw; (try dsimp only at hSw); go_simp; try with_reducible rfl)
                  simp only [List.setIfInBounds_toArray, List.set_cons_zero, List.set_cons_succ]
                  refine anyE_tk 14 95 (oi := ?oi15) (v := ?v15) ?hi15 ?hd15 (by kernel_rfl) (by kernel_rfl) (by kernel_rfl) ?hQ15 ?hy15 hS ?rest15
                  case hi15 => simp only [List.getElem?_toArray, List.getElem?_cons_zero, List.getElem?_cons_succ]; rfl
                  case hd15 => rfl
                  case hQ15 => exact fun _ _ _ h => h
                  case hy15 => (refine Or.inl ⟨by rfl, ?_⟩; intro w hSw; (try dsimp only at hSw); go_simp; try with_reducible rfl)
                  simp only [List.setIfInBounds_toArray, List.set_cons_zero, List.set_cons_succ]
                  refine anyE_tk 15 96 (oi := ?oi16) (v := ?v16) ?hi16 ?hd16 (by kernel_rfl) (by kernel_rfl) (by kernel_rfl) ?hQ16 ?hy16 hS ?rest16
                  case hi16 => simp only [List.getElem?_toArray, List.getElem?_cons_zero, List.getElem?_cons_succ]; rfl
                  case hd16 => rfl
                  case hQ16 => exact fun _ _ _ h => h
                  case hy16 => (refine Or.inl ⟨by rfl, ?_⟩; intro w hSw; (try dsimp only at hSw); go_simp; try with_reducible rfl)
                  simp only [List.setIfInBounds_toArray, List.set_cons_zero, List.set_cons_succ]
                  refine anyE_tk 16 97 (oi := ?oi17) (v := ?v17) ?hi17 ?hd17 (by kernel_rfl) (by kernel_rfl) (by kernel_rfl) ?hQ17 ?hy17 hS ?rest17
                  case hi17 => simp only [List.getElem?_toArray, List.getElem?_cons_zero, List.getElem?_cons_succ]; rfl
                  case hd17 => rfl
                  case hQ17 => exact fun _ _ _ h => h
                  case hy17 => (refine Or.inl ⟨by rfl, ?_⟩; intro w hSw; (try dsimp only at hSw); go_simp; try with_reducible rfl)
                  simp only [List.setIfInBounds_toArray, List.set_cons_zero, List.set_cons_succ]
                  refine anyE_tk 17 98 (oi := ?oi18) (v := ?v18) ?hi18 ?hd18 (by kernel_rfl) (by kernel_rfl) (by kernel_rfl) ?hQ18 ?hy18 hS ?rest18
                  case hi18 => simp only [List.getElem?_toArray, List.getElem?_cons_zero, List.getElem?_cons_succ]; rfl
                  case hd18 => rfl
                  case hQ18 => exact fun _ _ _ h => h
                  case hy18 => (refine Or.inl ⟨by rfl, ?_⟩; intro w hSw; (try dsimp only at hSw); go_simp; try with_reducible rfl)
                  simp only [List.setIfInBounds_toArray, List.set_cons_zero, List.set_cons_succ]
                  refine anyE_tk 19 100 (oi := ?oi19) (v := ?v19) ?hi19 ?hd19 (by kernel_rfl) (by kernel_rfl) (by kernel_rfl) ?hQ19 ?hy19 hS ?rest19
                  case hi19 => simp only [List.getElem?_toArray, List.getElem?_cons_zero, List.getElem?_cons_succ]; rfl
                  case hd19 => rfl
                  case hQ19 => exact fun _ _ _ h => h
                  case hy19 => (refine Or.inl ⟨by rfl, ?_⟩; intro w hSw; (try dsimp only at hSw); go_simp; try with_reducible rfl)
                  simp only [List.setIfInBounds_toArray, List.set_cons_zero, List.set_cons_succ]
                  refine anyE_tk 20 101 (oi := ?oi20) (v := ?v20) ?hi20 ?hd20 (by kernel_rfl) (by kernel_rfl) (by kernel_rfl) ?hQ20 ?hy20 hS ?rest20
                  case hi20 => simp only [List.getElem?_toArray, List.getElem?_cons_zero, List.getElem?_cons_succ]; rfl
                  case hd20 => rfl
                  case hQ20 => exact fun _ _ _ h => h
                  case hy20 => (refine Or.inl ⟨by rfl, ?_⟩; intro w hSw; (try dsimp only at hSw); go_simp; try with_reducible rfl)
                  simp only [List.setIfInBounds_toArray, List.set_cons_zero, List.set_cons_succ]
                  refine anyE_tk 21 102 (oi := ?oi21) (v := ?v21) ?hi21 ?hd21 (by kernel_rfl) (by kernel_rfl) (by kernel_rfl) ?hQ21 ?hy21 hS ?rest21
                  case hi21 => simp only [List.getElem?_toArray, List.getElem?_cons_zero, List.getElem?_cons_succ]; rfl
                  case hd21 => rfl
                  case hQ21 => exact fun _ _ _ h => h
                  case hy21 => (refine Or.inl ⟨by rfl, ?_⟩; intro w hSw; (try dsimp only at hSw); go_simp; try with_reducible rfl)
                  simp only [List.setIfInBounds_toArray, List.set_cons_zero, List.set_cons_succ]
                  refine anyE_tk 22 103 (oi := ?oi22) (v := ?v22) ?hi22 ?hd22 (by kernel_rfl) (by kernel_rfl) (by kernel_rfl) ?hQ22 ?hy22 hS ?rest22
                  case hi22 => simp only [List.getElem?_toArray, List.getElem?_cons_zero, List.getElem?_cons_succ]; rfl
                  case hd22 => rfl
                  case hQ22 => exact fun _ _ _ h => h
                  case hy22 => (refine Or.inl ⟨by rfl, ?_⟩; intro w hSw; (try dsimp only at hSw); go_simp; try with_reducible rfl)
                  simp only [List.setIfInBounds_toArray, List.set_cons_zero, List.set_cons_succ]
                  refine anyE_tk 23 104 (oi := ?oi23) (v := ?v23) ?hi23 ?hd23 (by kernel_rfl) (by kernel_rfl) (by kernel_rfl) ?hQ23 ?hy23 hS ?rest23
                  case hi23 => simp only [List.getElem?_toArray, List.getElem?_cons_zero, List.getElem?_cons_succ]; rfl
                  case hd23 => rfl
                  case hQ23 => exact fun _ _ _ h => h
                  case hy23 => (refine Or.inl ⟨by rfl, ?_⟩; intro w hSw; (try dsimp only at hSw); go_simp; try with_reducible rfl)
                  simp only [List.setIfInBounds_toArray, List.set_cons_zero, List.set_cons_succ]
                  refine anyE_tk 24 105 (oi := ?oi24) (v := ?v24) ?hi24 ?hd24 (by kernel_rfl) (by kernel_rfl) (by kernel_rfl) ?hQ24 ?hy24 hS ?rest24
                  case hi24 => simp only [List.getElem?_toArray, List.getElem?_cons_zero, List.getElem?_cons_succ]; rfl
                  case hd24 => rfl
                  case hQ24 => exact fun _ _ _ h => h
                  case hy24 => (refine Or.inl ⟨by rfl, ?_⟩; intro w hSw; (try dsimp only at hSw); go_simp; try with_reducible rfl)
                  simp only [List.setIfInBounds_toArray, List.set_cons_zero, List.set_cons_succ]
                  clear hS
                  refine anyE_two (i := 18) (j := 27) (oi := ?oi25) (oj := ?oj25) (by kernel_rfl) ?hi25 ?hj25 (fun K hK => ?step25) (fun K hK => ?step26)
                  case hi25 => simp only [List.getElem?_toArray, List.getElem?_cons_zero, List.getElem?_cons_succ]; rfl
                  case hj25 => simp only [List.getElem?_toArray, List.getElem?_cons_zero, List.getElem?_cons_succ]; rfl
                  case step25 =>
                    go_simp
                    have H18 := Lib.hid (show (World.alloc wi0 (.cells #[.int .i64 (n1 : Int)] 3)).ownsRow wr.heap.size 3 1 (.slice (some ⟨(World.heap wi0).size, 0, none⟩) 1 1) 1 [.int .i64 (n1 : Int)] from own_base (own_one _ (Nat.le_refl _)) HBc.out.size)
                    have HBc := Lib.hid (balloc HBc.out (.cells #[.int .i64 (n1 : Int)] 3))
                    generalize World.alloc wi0 (.cells #[.int .i64 (n1 : Int)] 3) = W18 at H18 HBc ⊢
                    generalize (World.heap wi0).size = x18 at H18 ⊢
                    refine hK.out _ _ (fun _ => Keep.out _ HBc.out) ?_
                    clear hK K
                    try simp only [Act.put, List.setIfInBounds_toArray, List.set_cons_zero, List.set_cons_succ]
                    refine anyE_two (i := 25) (j := 27) (oi := ?oi27) (oj := ?oj27) (by kernel_rfl) ?hi27 ?hj27 (fun K hK => ?step27) (fun K hK => ?step28)
                    case hi27 => simp only [List.getElem?_toArray, List.getElem?_cons_zero, List.getElem?_cons_succ]; rfl
                    case hj27 => simp only [List.getElem?_toArray, List.getElem?_cons_zero, List.getElem?_cons_succ]; rfl
                    case step27 =>
                      refine step_app' _ (by rfl) (.tmp 99) (.tmp 105) 28 (by rfl) wr.heap.size 3 j0 _ 1 8 Try.underlying28 hj hy0 hy1 hy2 (by rfl) (by decide) (.slice (some ⟨x18, 0, none⟩) 1 1) 1 [.int .i64 (n1 : Int)] (by rfl) H18.out Ap np cp ((intL ps).map (Value.int .i64)) (by rfl) (by rw [List.length_map, intL_length, Hnp.out, Nat.mul_one]) (fun e => by have := HpA.out.none_nil e; rw [intL_length, Hnp.out] at this; exact this) (IntsAt.news (HpA.out.below HBc.out HBc.out.size)) (ints_one _) (by omega) (by decide) HBc.out.size (np + 1) (Nat.add_comm _ _) ((intL (n1 :: ps)).map (Value.int .i64)) (by rfl) ?_
                      intro A6 c6 W25 hown4 hg4 hlow4
                      have H25 := Lib.hid hown4
                      have HBc := Lib.hid (HBc.out.grown hg4 HBc.out.size hlow4)
                      clear hown4 hg4 hlow4 H18
                      refine hK.out _ _ (fun _ => Keep.out _ HBc.out) ?_
                      clear hK K
                      try simp only [Act.put, List.setIfInBounds_toArray, List.set_cons_zero, List.set_cons_succ]
                      refine anyE_tk 26 107 (oi := ?oi29) (v := ?v29) ?hi29 ?hd29 (by kernel_rfl) (by kernel_rfl) (by kernel_rfl) ?hQ29 ?hy29 (Keep.out _ HBc.out) ?rest29
                      case hi29 => simp only [List.getElem?_toArray, List.getElem?_cons_zero, List.getElem?_cons_succ]; rfl
                      case hd29 => rfl
                      case hQ29 => exact fun _ _ _ h => h
                      case hy29 => (refine Or.inl ⟨by rfl, ?_⟩; intro w hSw; (try dsimp only at hSw); go_simp; try with_reducible rfl)
                      simp only [List.setIfInBounds_toArray, List.set_cons_zero, List.set_cons_succ]
                      refine anyE_one (i := 27) (o := ?oi30) (by kernel_rfl) ?hi30 (fun K hK => ?step30)
                      case hi30 => simp only [List.getElem?_toArray, List.getElem?_cons_zero, List.getElem?_cons_succ]; rfl
                      go_simp
                      have H27 := Lib.hid (Blk.new W25 98 #[.int .i64 0, .slice none 0 0])
                      have HX27 := Lib.hid (show wr.heap.size ≤ (World.heap W25).size from HBc.out.size)
                      have H25 := Lib.hid (H25.out.alloc (.cells #[.int .i64 0, .slice none 0 0] 98))
                      have HBc := Lib.hid (balloc HBc.out (.cells #[.int .i64 0, .slice none 0 0] 98))
                      generalize World.alloc W25 (.cells #[.int .i64 0, .slice none 0 0] 98) = W27 at H27 HBc H25 ⊢
                      generalize (World.heap W25).size = x27 at H27 HX27 ⊢
                      refine hK.out _ _ (fun _ => Keep.out _ HBc.out) ?_
                      clear hK K
                      try simp only [Act.put, List.setIfInBounds_toArray, List.set_cons_zero, List.set_cons_succ]
                      obtain ⟨g0, g1, f0, f1⟩ := blk2 H27.out
                      have HP := Lib.hid (((Only.refl x27 W27).put 0 (.int .i64 z)).put 1 (.slice A6 (np + 1) c6))
                      have HBd := Lib.hid (HBc.out.trans (HP.out.below HX27.out HBc.out.size))
                      have hx27l := H27.out.lt
                      refine anyE_one (i := 28) (o := ?oi31) (by kernel_rfl) ?hi31 (fun K hK => ?step31)
                      case hi31 => simp only [List.getElem?_toArray, List.getElem?_cons_zero, List.getElem?_cons_succ]; rfl
                      go_simp
                      go_wp2_with fail
                      refine hK.out _ _ (fun _ => Keep.out _ HBd.out) ?_
                      clear hK K
                      try simp only [Act.put, List.setIfInBounds_toArray, List.set_cons_zero, List.set_cons_succ]
                      refine anyE_done (by kernel_rfl) ?_ _
                      go_wp2_with fail
                      go_meet
                      have HO := Lib.hid (HP.out.own H25.out (Blk.ne_row H27.out H25.out (by decide)))
                      exact ⟨x27, A6, c6, rfl, (H27.out.put 0 _).put 1 _, IntsN.of_own (zs := intL (n1 :: ps)) HO.out (by rw [intL_length, List.length_cons, Hnp.out]) (fun b h1 _ => by omega), HBd.out, HX27.out⟩
                    case step28 =>
                      go_simp
                      have H27 := Lib.hid (Blk.new W18 98 #[.int .i64 0, .slice none 0 0])
                      have HX27 := Lib.hid (show wr.heap.size ≤ (World.heap W18).size from HBc.out.size)
                      have hx : (World.heap W18).size ≠ x18 := fun e => by have := (H18.out.lt x18 rfl).2; omega
                      have H18 := Lib.hid (H18.out.alloc (.cells #[.int .i64 0, .slice none 0 0] 98))
                      have HBc := Lib.hid (balloc HBc.out (.cells #[.int .i64 0, .slice none 0 0] 98))
                      generalize World.alloc W18 (.cells #[.int .i64 0, .slice none 0 0] 98) = W27 at H27 HBc H18 ⊢
                      generalize (World.heap W18).size = x27 at H27 HX27 hx ⊢
                      refine hK.out _ _ (fun _ => Keep.out _ HBc.out) ?_
                      clear hK K
                      try simp only [Act.put, List.setIfInBounds_toArray, List.set_cons_zero, List.set_cons_succ]
                      refine anyE_one (i := 25) (o := ?oi32) (by kernel_rfl) ?hi32 (fun K hK => ?step32)
                      case hi32 => simp only [List.getElem?_toArray, List.getElem?_cons_zero, List.getElem?_cons_succ]; rfl
                      refine step_app' _ (by rfl) (.tmp 99) (.tmp 105) 28 (by rfl) wr.heap.size 3 j0 _ 1 8 Try.underlying28 hj hy0 hy1 hy2 (by rfl) (by decide) (.slice (some ⟨x18, 0, none⟩) 1 1) 1 [.int .i64 (n1 : Int)] (by rfl) H18.out Ap np cp ((intL ps).map (Value.int .i64)) (by rfl) (by rw [List.length_map, intL_length, Hnp.out, Nat.mul_one]) (fun e => by have := HpA.out.none_nil e; rw [intL_length, Hnp.out] at this; exact this) (IntsAt.news (HpA.out.below HBc.out HBc.out.size)) (ints_one _) (by omega) (by decide) HBc.out.size (np + 1) (Nat.add_comm _ _) ((intL (n1 :: ps)).map (Value.int .i64)) (by rfl) ?_
                      intro A6 c6 W25 hown4 hg4 hlow4
                      have H25 := Lib.hid hown4
                      have H27 := Lib.hid (H27.out.grown hg4 (by simpa [Value.ownBlock] using hx))
                      have HBc := Lib.hid (HBc.out.grown hg4 HBc.out.size hlow4)
                      clear hown4 hg4 hlow4 H18
                      refine hK.out _ _ (fun _ => Keep.out _ HBc.out) ?_
                      clear hK K
                      try simp only [Act.put, List.setIfInBounds_toArray, List.set_cons_zero, List.set_cons_succ]
                      refine anyE_tk 26 107 (oi := ?oi33) (v := ?v33) ?hi33 ?hd33 (by kernel_rfl) (by kernel_rfl) (by kernel_rfl) ?hQ33 ?hy33 (Keep.out _ HBc.out) ?rest33
                      case hi33 => simp only [List.getElem?_toArray, List.getElem?_cons_zero, List.getElem?_cons_succ]; rfl
                      case hd33 => rfl
                      case hQ33 => exact fun _ _ _ h => h
                      case hy33 => (refine Or.inl ⟨by rfl, ?_⟩; intro w hSw; (try dsimp only at hSw); go_simp; try with_reducible rfl)
                      simp only [List.setIfInBounds_toArray, List.set_cons_zero, List.set_cons_succ]
                      obtain ⟨g0, g1, f0, f1⟩ := blk2 H27.out
                      have HP := Lib.hid (((Only.refl x27 W25).put 0 (.int .i64 z)).put 1 (.slice A6 (np + 1) c6))
                      have HBd := Lib.hid (HBc.out.trans (HP.out.below HX27.out HBc.out.size))
                      have hx27l := H27.out.lt
                      refine anyE_one (i := 28) (o := ?oi34) (by kernel_rfl) ?hi34 (fun K hK => ?step34)
                      case hi34 => simp only [List.getElem?_toArray, List.getElem?_cons_zero, List.getElem?_cons_succ]; rfl
                      go_simp
                      go_wp2_with fail
                      refine hK.out _ _ (fun _ => Keep.out _ HBd.out) ?_
                      clear hK K
                      try simp only [Act.put, List.setIfInBounds_toArray, List.set_cons_zero, List.set_cons_succ]
                      refine anyE_done (by kernel_rfl) ?_ _
                      go_wp2_with fail
                      go_meet
                      have HO := Lib.hid (HP.out.own H25.out (Blk.ne_row H27.out H25.out (by decide)))
                      exact ⟨x27, A6, c6, rfl, (H27.out.put 0 _).put 1 _, IntsN.of_own (zs := intL (n1 :: ps)) HO.out (by rw [intL_length, List.length_cons, Hnp.out]) (fun b h1 _ => by omega), HBd.out, HX27.out⟩
                  case step26 =>
                    go_simp
                    have H27 := Lib.hid (Blk.new wi0 98 #[.int .i64 0, .slice none 0 0])
                    have HX27 := Lib.hid (show wr.heap.size ≤ (World.heap wi0).size from HBc.out.size)
                    have HBc := Lib.hid (balloc HBc.out (.cells #[.int .i64 0, .slice none 0 0] 98))
                    generalize World.alloc wi0 (.cells #[.int .i64 0, .slice none 0 0] 98) = W27 at H27 HBc ⊢
                    generalize (World.heap wi0).size = x27 at H27 HX27 ⊢
                    refine hK.out _ _ (fun _ => Keep.out _ HBc.out) ?_
                    clear hK K
                    try simp only [Act.put, List.setIfInBounds_toArray, List.set_cons_zero, List.set_cons_succ]
                    refine anyE_one (i := 18) (o := ?oi35) (by kernel_rfl) ?hi35 (fun K hK => ?step35)
                    case hi35 => simp only [List.getElem?_toArray, List.getElem?_cons_zero, List.getElem?_cons_succ]; rfl
                    go_simp
                    have H18 := Lib.hid (show (World.alloc W27 (.cells #[.int .i64 (n1 : Int)] 3)).ownsRow wr.heap.size 3 1 (.slice (some ⟨(World.heap W27).size, 0, none⟩) 1 1) 1 [.int .i64 (n1 : Int)] from own_base (own_one _ (Nat.le_refl _)) HBc.out.size)
                    have hx : x27 ≠ (World.heap W27).size := Nat.ne_of_lt H27.out.lt
                    have H27 := Lib.hid (H27.out.alloc (.cells #[.int .i64 (n1 : Int)] 3))
                    have HBc := Lib.hid (balloc HBc.out (.cells #[.int .i64 (n1 : Int)] 3))
                    generalize World.alloc W27 (.cells #[.int .i64 (n1 : Int)] 3) = W18 at H18 HBc H27 ⊢
                    generalize (World.heap W27).size = x18 at H18 hx ⊢
                    refine hK.out _ _ (fun _ => Keep.out _ HBc.out) ?_
                    clear hK K
                    try simp only [Act.put, List.setIfInBounds_toArray, List.set_cons_zero, List.set_cons_succ]
                    refine anyE_one (i := 25) (o := ?oi36) (by kernel_rfl) ?hi36 (fun K hK => ?step36)
                    case hi36 => simp only [List.getElem?_toArray, List.getElem?_cons_zero, List.getElem?_cons_succ]; rfl
                    refine step_app' _ (by rfl) (.tmp 99) (.tmp 105) 28 (by rfl) wr.heap.size 3 j0 _ 1 8 Try.underlying28 hj hy0 hy1 hy2 (by rfl) (by decide) (.slice (some ⟨x18, 0, none⟩) 1 1) 1 [.int .i64 (n1 : Int)] (by rfl) H18.out Ap np cp ((intL ps).map (Value.int .i64)) (by rfl) (by rw [List.length_map, intL_length, Hnp.out, Nat.mul_one]) (fun e => by have := HpA.out.none_nil e; rw [intL_length, Hnp.out] at this; exact this) (IntsAt.news (HpA.out.below HBc.out HBc.out.size)) (ints_one _) (by omega) (by decide) HBc.out.size (np + 1) (Nat.add_comm _ _) ((intL (n1 :: ps)).map (Value.int .i64)) (by rfl) ?_
                    intro A6 c6 W25 hown4 hg4 hlow4
                    have H25 := Lib.hid hown4
                    have H27 := Lib.hid (H27.out.grown hg4 (by simpa [Value.ownBlock] using hx))
                    have HBc := Lib.hid (HBc.out.grown hg4 HBc.out.size hlow4)
                    clear hown4 hg4 hlow4 H18
                    refine hK.out _ _ (fun _ => Keep.out _ HBc.out) ?_
                    clear hK K
                    try simp only [Act.put, List.setIfInBounds_toArray, List.set_cons_zero, List.set_cons_succ]
                    refine anyE_tk 26 107 (oi := ?oi37) (v := ?v37) ?hi37 ?hd37 (by kernel_rfl) (by kernel_rfl) (by kernel_rfl) ?hQ37 ?hy37 (Keep.out _ HBc.out) ?rest37
                    case hi37 => simp only [List.getElem?_toArray, List.getElem?_cons_zero, List.getElem?_cons_succ]; rfl
                    case hd37 => rfl
                    case hQ37 => exact fun _ _ _ h => h
                    case hy37 => (refine Or.inl ⟨by rfl, ?_⟩; intro w hSw; (try dsimp only at hSw); go_simp; try with_reducible rfl)
                    simp only [List.setIfInBounds_toArray, List.set_cons_zero, List.set_cons_succ]
                    obtain ⟨g0, g1, f0, f1⟩ := blk2 H27.out
                    have HP := Lib.hid (((Only.refl x27 W25).put 0 (.int .i64 z)).put 1 (.slice A6 (np + 1) c6))
                    have HBd := Lib.hid (HBc.out.trans (HP.out.below HX27.out HBc.out.size))
                    have hx27l := H27.out.lt
                    refine anyE_one (i := 28) (o := ?oi38) (by kernel_rfl) ?hi38 (fun K hK => ?step38)
                    case hi38 => simp only [List.getElem?_toArray, List.getElem?_cons_zero, List.getElem?_cons_succ]; rfl
                    go_simp
                    go_wp2_with fail
                    refine hK.out _ _ (fun _ => Keep.out _ HBd.out) ?_
                    clear hK K
                    try simp only [Act.put, List.setIfInBounds_toArray, List.set_cons_zero, List.set_cons_succ]
                    refine anyE_done (by kernel_rfl) ?_ _
                    go_wp2_with fail
                    go_meet
                    have HO := Lib.hid (HP.out.own H25.out (Blk.ne_row H27.out H25.out (by decide)))
                    exact ⟨x27, A6, c6, rfl, (H27.out.put 0 _).put 1 _, IntsN.of_own (zs := intL (n1 :: ps)) HO.out (by rw [intL_length, List.length_cons, Hnp.out]) (fun b h1 _ => by omega), HBd.out, HX27.out⟩
                case rest =>
                  obtain ⟨G2, A6, c6, rfl, hbl, hin, hbw, hG2⟩ := hcut
                  have HBl := Lib.hid hbl.out
                  have HIn := Lib.hid hin.out
                  have HQ2 := Lib.hid (HQ.out.below hbw)
                  have HBx2 := Lib.hid (HBx.out.trans (hbw.mono HBx.out.size))
                  clear hbl hin HQ cl0 HDr e0 e1 hip HLd HBx hGl hbw HBp
                  cases o with
                  | none =>
                    have HB1 := Lib.hid (HN2.out.1 rfl)
                    obtain ⟨q0, q1, _, _⟩ := HQ2.out.own0
                    clear HN2
                    go_wp2_with fail
                    refine wp_region_E (S := fun W => W.cell? ⟨G, k * 2, none⟩ = some (.int .i64 0) ∧ W.cell? ⟨G, k * 2 + 1, none⟩ = some (.slice none 0 0)) (E := fun _ => false) (by kernel_rfl) ?_
                    have hbi : Below wc.heap.size wc wc.drew := (Below.refl _ _).drew
                    generalize wc.drew = wi0 at hbi ⊢
                    have HQ3 := Lib.hid (HQ2.out.below hbi)
                    have HIn3 := Lib.hid (HIn.out.mv (Mv.below hbi))
                    have HBx3 := Lib.hid (HBx2.out.trans (hbi.mono HBx2.out.size))
                    obtain ⟨v0, v1, _, _⟩ := blk2 (HBl.out.below hbi HBl.out.lt)
                    clear q0 q1
                    obtain ⟨q0, q1, f0, f1⟩ := HQ3.out.own0
                    have hGl3 := HQ3.out.lt
                    have hS := And.intro q0 q1
                    have heq : ∀ w : World, (binOp .eql 28 (.slice none 0 0) (.slice none 0 0)).run Try.prog w = .ok (.bool true) w := fun w => Lib.run_eql_slice_nil w 28 3 none 0 0 0 0 Try.underlying28
                    refine anyE_tk 0 108 (oi := ?oi39) (v := ?v39) ?hi39 ?hd39 (by kernel_rfl) (by kernel_rfl) (by kernel_rfl) ?hQ39 ?hy39 hS ?rest39
                    case hi39 => simp only [List.getElem?_toArray, List.getElem?_cons_zero, List.getElem?_cons_succ]; rfl
                    case hd39 => rfl
                    case hQ39 => exact fun _ _ _ h => h
                    case hy39 => (refine Or.inl ⟨by rfl, ?_⟩; intro w hSw; (try dsimp only at hSw); go_simp; try with_reducible rfl)
                    simp only [List.setIfInBounds_toArray, List.set_cons_zero, List.set_cons_succ]
                    refine anyE_tk 1 109 (oi := ?oi40) (v := ?v40) ?hi40 ?hd40 (by kernel_rfl) (by kernel_rfl) (by kernel_rfl) ?hQ40 ?hy40 hS ?rest40
                    case hi40 => simp only [List.getElem?_toArray, List.getElem?_cons_zero, List.getElem?_cons_succ]; rfl
                    case hd40 => rfl
                    case hQ40 => exact fun _ _ _ h => h
                    case hy40 => (refine Or.inl ⟨by rfl, ?_⟩; intro w hSw; (try dsimp only at hSw); go_simp; try with_reducible rfl)
                    simp only [List.setIfInBounds_toArray, List.set_cons_zero, List.set_cons_succ]
                    refine anyE_tk 2 110 (oi := ?oi41) (v := ?v41) ?hi41 ?hd41 (by kernel_rfl) (by kernel_rfl) (by kernel_rfl) ?hQ41 ?hy41 hS ?rest41
                    case hi41 => simp only [List.getElem?_toArray, List.getElem?_cons_zero, List.getElem?_cons_succ]; rfl
                    case hd41 => rfl
                    case hQ41 => exact fun _ _ _ h => h
                    case hy41 => (refine Or.inl ⟨by rfl, ?_⟩; intro w hSw; (try dsimp only at hSw); go_simp; try with_reducible rfl)
                    simp only [List.setIfInBounds_toArray, List.set_cons_zero, List.set_cons_succ]
                    refine anyE_tk 3 111 (oi := ?oi42) (v := ?v42) ?hi42 ?hd42 (by kernel_rfl) (by kernel_rfl) (by kernel_rfl) ?hQ42 ?hy42 hS ?rest42
                    case hi42 => simp only [List.getElem?_toArray, List.getElem?_cons_zero, List.getElem?_cons_succ]; rfl
                    case hd42 => rfl
                    case hQ42 => exact fun _ _ _ h => h
                    case hy42 => (refine Or.inl ⟨by rfl, ?_⟩; intro w hSw; (try dsimp only at hSw); go_simp; try with_reducible rfl)
                    simp only [List.setIfInBounds_toArray, List.set_cons_zero, List.set_cons_succ]
                    refine anyE_tk 4 112 (oi := ?oi43) (v := ?v43) ?hi43 ?hd43 (by kernel_rfl) (by kernel_rfl) (by kernel_rfl) ?hQ43 ?hy43 hS ?rest43
                    case hi43 => simp only [List.getElem?_toArray, List.getElem?_cons_zero, List.getElem?_cons_succ]; rfl
                    case hd43 => rfl
                    case hQ43 => exact fun _ _ _ h => h
                    case hy43 => (refine Or.inl ⟨by rfl, ?_⟩; intro w hSw; (try dsimp only at hSw); go_simp; try with_reducible rfl)
                    simp only [List.setIfInBounds_toArray, List.set_cons_zero, List.set_cons_succ]
                    refine anyE_tk 5 113 (oi := ?oi44) (v := ?v44) ?hi44 ?hd44 (by kernel_rfl) (by kernel_rfl) (by kernel_rfl) ?hQ44 ?hy44 hS ?rest44
                    case hi44 => simp only [List.getElem?_toArray, List.getElem?_cons_zero, List.getElem?_cons_succ]; rfl
                    case hd44 => rfl
                    case hQ44 => exact fun _ _ _ h => h
                    case hy44 => (refine Or.inl ⟨by rfl, ?_⟩; intro w hSw; (try dsimp only at hSw); go_simp; try with_reducible rfl)
                    simp only [List.setIfInBounds_toArray, List.set_cons_zero, List.set_cons_succ]
                    refine anyE_tk 6 114 (oi := ?oi45) (v := ?v45) ?hi45 ?hd45 (by kernel_rfl) (by kernel_rfl) (by kernel_rfl) ?hQ45 ?hy45 hS ?rest45
                    case hi45 => simp only [List.getElem?_toArray, List.getElem?_cons_zero, List.getElem?_cons_succ]; rfl
                    case hd45 => rfl
                    case hQ45 => exact fun _ _ _ h => h
                    case hy45 => (refine Or.inl ⟨by rfl, ?_⟩; intro w hSw; (try dsimp only at hSw); go_simp; try with_reducible rfl)
                    simp only [List.setIfInBounds_toArray, List.set_cons_zero, List.set_cons_succ]
                    refine anyE_tk 7 115 (oi := ?oi46) (v := undef) ?hi46 ?hd46 (by kernel_rfl) (by kernel_rfl) (by kernel_rfl) ?hQ46 ?hy46 hS ?rest46
                    case hi46 => simp only [List.getElem?_toArray, List.getElem?_cons_zero, List.getElem?_cons_succ]; rfl
                    case hd46 => rfl
                    case hQ46 => exact fun _ _ _ h => h
                    case hy46 => exact Or.inr ⟨by rfl, rfl⟩
                    simp only [List.setIfInBounds_toArray, List.set_cons_zero, List.set_cons_succ]
                    refine anyE_tk 8 116 (oi := ?oi47) (v := undef) ?hi47 ?hd47 (by kernel_rfl) (by kernel_rfl) (by kernel_rfl) ?hQ47 ?hy47 hS ?rest47
                    case hi47 => simp only [List.getElem?_toArray, List.getElem?_cons_zero, List.getElem?_cons_succ]; rfl
                    case hd47 => rfl
                    case hQ47 => exact fun _ _ _ h => h
                    case hy47 => exact Or.inr ⟨by rfl, rfl⟩
                    simp only [List.setIfInBounds_toArray, List.set_cons_zero, List.set_cons_succ]
                    refine anyE_tk 9 117 (oi := ?oi48) (v := undef) ?hi48 ?hd48 (by kernel_rfl) (by kernel_rfl) (by kernel_rfl) ?hQ48 ?hy48 hS ?rest48
                    case hi48 => simp only [List.getElem?_toArray, List.getElem?_cons_zero, List.getElem?_cons_succ]; rfl
                    case hd48 => rfl
                    case hQ48 => exact fun _ _ _ h => h
                    case hy48 => exact Or.inr ⟨by rfl, rfl⟩
                    simp only [List.setIfInBounds_toArray, List.set_cons_zero, List.set_cons_succ]
                    refine anyE_tk 10 118 (oi := ?oi49) (v := undef) ?hi49 ?hd49 (by kernel_rfl) (by kernel_rfl) (by kernel_rfl) ?hQ49 ?hy49 hS ?rest49
                    case hi49 => simp only [List.getElem?_toArray, List.getElem?_cons_zero, List.getElem?_cons_succ]; rfl
                    case hd49 => rfl
                    case hQ49 => exact fun _ _ _ h => h
                    case hy49 => exact Or.inr ⟨by rfl, rfl⟩
                    simp only [List.setIfInBounds_toArray, List.set_cons_zero, List.set_cons_succ]
                    refine anyE_tk 11 119 (oi := ?oi50) (v := undef) ?hi50 ?hd50 (by kernel_rfl) (by kernel_rfl) (by kernel_rfl) ?hQ50 ?hy50 hS ?rest50
                    case hi50 => simp only [List.getElem?_toArray, List.getElem?_cons_zero, List.getElem?_cons_succ]; rfl
                    case hd50 => rfl
                    case hQ50 => exact fun _ _ _ h => h
                    case hy50 => exact Or.inr ⟨by rfl, rfl⟩
                    simp only [List.setIfInBounds_toArray, List.set_cons_zero, List.set_cons_succ]
                    refine anyE_tk 12 120 (oi := ?oi51) (v := undef) ?hi51 ?hd51 (by kernel_rfl) (by kernel_rfl) (by kernel_rfl) ?hQ51 ?hy51 hS ?rest51
                    case hi51 => simp only [List.getElem?_toArray, List.getElem?_cons_zero, List.getElem?_cons_succ]; rfl
                    case hd51 => rfl
                    case hQ51 => exact fun _ _ _ h => h
                    case hy51 => exact Or.inr ⟨by rfl, rfl⟩
                    simp only [List.setIfInBounds_toArray, List.set_cons_zero, List.set_cons_succ]
                    refine anyE_tk 13 121 (oi := ?oi52) (v := undef) ?hi52 ?hd52 (by kernel_rfl) (by kernel_rfl) (by kernel_rfl) ?hQ52 ?hy52 hS ?rest52
                    case hi52 => simp only [List.getElem?_toArray, List.getElem?_cons_zero, List.getElem?_cons_succ]; rfl
                    case hd52 => rfl
                    case hQ52 => exact fun _ _ _ h => h
                    case hy52 => exact Or.inr ⟨by rfl, rfl⟩
                    simp only [List.setIfInBounds_toArray, List.set_cons_zero, List.set_cons_succ]
                    refine anyE_tk 14 122 (oi := ?oi53) (v := ?v53) ?hi53 ?hd53 (by kernel_rfl) (by kernel_rfl) (by kernel_rfl) ?hQ53 ?hy53 hS ?rest53
                    case hi53 => simp only [List.getElem?_toArray, List.getElem?_cons_zero, List.getElem?_cons_succ]; rfl
                    case hd53 => rfl
                    case hQ53 => exact fun _ _ _ h => h
                    case hy53 => (refine Or.inl ⟨by rfl, ?_⟩; intro w hSw; (try dsimp only at hSw); go_simp; try with_reducible rfl)
                    simp only [List.setIfInBounds_toArray, List.set_cons_zero, List.set_cons_succ]
                    clear hS
                    refine anyE_done (by kernel_rfl) ?_ _
                    have hset := HQ3.out.set (q := (z, n1 :: ps)) (by rw [← Hn1.out]; exact HB1.out) (A := A6) (c := c6) HIn3.out
                    simp only [List.length_cons, Hnp.out] at hset
                    have HSet := Lib.hid hset
                    have HP := Lib.hid (((Only.refl G wi0).put (k * 2) (.int .i64 z)).put (k * 2 + 1) (.slice A6 (np + 1) c6))
                    have HB4 := Lib.hid (HBx3.out.trans (HP.out.below hGw HBx3.out.size))
                    clear hset
                    go_wp2_with fail
                    go_roundw
                    case rel => exact ⟨j1, some (z, n1 :: ps), by have := Hj1.out; omega, by have := Hj1.out; omega, by go_num, by rw [Hjk1.out, HLe.out], by rw [Hjk1.out]; have h9 := HSet.out; rw [← Hn1.out] at h9; exact h9, HB4.out⟩
                    case measure => (have := Hj1.out; simp [intOf]; omega)
                  | some q =>
                    obtain ⟨bq, oq, cq, q0, q1, _, _, hiq⟩ := HQ2.out.own1
                    have hkb := HQ2.out.best.1
                    have HN3 := Lib.hid (HN2.out.2 q rfl)
                    obtain ⟨qv, qs⟩ := q
                    simp only at q0 q1 hiq hkb
                    have hql := Cut.len hkb
                    rw [List.length_drop] at hql
                    have hzz := or_lt z qv (n1 :: ps) qs
                    rw [List.length_cons, Hnp.out] at hzz
                    have cz00 := fun (W : World) (hW : Below wc.heap.size wc W) => compare_any A6 (some ⟨bq, oq, none⟩) c6 cq W.heap.size (np + 1) qs.length z qv (intL (n1 :: ps)) (intL qs) W (Nat.le_refl _) (HIn.out.mv (Mv.below hW)).at (hiq.mv (Mv.below hW)).at (by rw [intL_length, List.length_cons, Hnp.out]) (by rw [intL_length]) (by omega) (by omega)
                    have HQ4 := Lib.hid HQ2.out
                    obtain ⟨nqs, hnqs⟩ : ∃ nqs, nqs = qs.length := ⟨_, rfl⟩
                    rw [← hnqs] at hzz cz00 q1
                    generalize orL [Lib.compareInt z qv, Lib.compareInt ((np + 1 : Nat) : Int) (nqs : Int), cmpL (intL (n1 :: ps)) (intL qs)] = zc at hzz cz00
                    have cz0 := Lib.hid cz00
                    clear cz00 hkb hql hiq HN2 hnqs HQ2
                    have HZ := Lib.hid hzz
                    clear hzz
                    by_cases hltp : ltP (z, n1 :: ps) (qv, qs)
                    · have hdz : decide (zc < 0) = true := decide_eq_true (HZ.out.2 hltp)
                      have HB1 := Lib.hid (HN3.out.1 hltp)
                      clear HZ HN3 hltp
                      have hbi0 : Below wc.heap.size wc wc := Below.refl _ _
                      obtain ⟨v0, v1, _, _⟩ := blk2 HBl.out
                      go_wp2_with fail
                      refine wp_region_E (S := fun W => W.cell? ⟨G, k * 2, none⟩ = some (.int .i64 qv) ∧ W.cell? ⟨G, k * 2 + 1, none⟩ = some (.slice (some ⟨bq, oq, none⟩) nqs cq) ∧ W.cell? ⟨G2, 0, none⟩ = some (.int .i64 z) ∧ W.cell? ⟨G2, 1, none⟩ = some (.slice A6 (np + 1) c6)) (E := fun _ => false) (by kernel_rfl) ?_
                      have hbi : Below wc.heap.size wc wc.drew := (Below.refl _ _).drew
                      generalize wc.drew = wi0 at hbi ⊢
                      have HBi := Lib.hid (Below.refl wi0.heap.size wi0)
                      have hGl3 := HQ4.out.lt
                      have hGl4 := HBl.out.lt
                      have Keep := Lib.hid (show ∀ W, Below wi0.heap.size wi0 W → W.cell? ⟨G, k * 2, none⟩ = some (.int .i64 qv) ∧ W.cell? ⟨G, k * 2 + 1, none⟩ = some (.slice (some ⟨bq, oq, none⟩) nqs cq) ∧ W.cell? ⟨G2, 0, none⟩ = some (.int .i64 z) ∧ W.cell? ⟨G2, 1, none⟩ = some (.slice A6 (np + 1) c6) from fun W hW => by
                        have hbb := hbi.trans (hW.mono hbi.size)
                        exact ⟨(hbb.cell (p := ⟨G, k * 2, none⟩) hGl3).trans q0, (hbb.cell (p := ⟨G, k * 2 + 1, none⟩) hGl3).trans q1, (hbb.cell (p := ⟨G2, 0, none⟩) hGl4).trans v0, (hbb.cell (p := ⟨G2, 1, none⟩) hGl4).trans v1⟩)
                      have cz := Lib.hid (fun W (hW : Below wi0.heap.size wi0 W) => cz0.out W (hbi.trans (hW.mono hbi.size)))
                      have hS := Keep.out _ HBi.out
                      have heq : ∀ w : World, (binOp .eql 28 (.slice (some ⟨bq, oq, none⟩) nqs cq) (.slice none 0 0)).run Try.prog w = .ok (.bool false) w := fun w => Lib.run_eql_slice_nil w 28 3 (some ⟨bq, oq, none⟩) nqs cq 0 0 Try.underlying28
                      refine anyE_tk 0 108 (oi := ?oi54) (v := ?v54) ?hi54 ?hd54 (by kernel_rfl) (by kernel_rfl) (by kernel_rfl) ?hQ54 ?hy54 hS ?rest54
                      case hi54 => simp only [List.getElem?_toArray, List.getElem?_cons_zero, List.getElem?_cons_succ]; rfl
                      case hd54 => rfl
                      case hQ54 => exact fun _ _ _ h => h
                      case hy54 => (refine Or.inl ⟨by rfl, ?_⟩; intro w hSw; (try dsimp only at hSw); go_simp; try with_reducible rfl)
                      simp only [List.setIfInBounds_toArray, List.set_cons_zero, List.set_cons_succ]
                      refine anyE_tk 1 109 (oi := ?oi55) (v := ?v55) ?hi55 ?hd55 (by kernel_rfl) (by kernel_rfl) (by kernel_rfl) ?hQ55 ?hy55 hS ?rest55
                      case hi55 => simp only [List.getElem?_toArray, List.getElem?_cons_zero, List.getElem?_cons_succ]; rfl
                      case hd55 => rfl
                      case hQ55 => exact fun _ _ _ h => h
                      case hy55 => (refine Or.inl ⟨by rfl, ?_⟩; intro w hSw; (try dsimp only at hSw); go_simp; try with_reducible rfl)
                      simp only [List.setIfInBounds_toArray, List.set_cons_zero, List.set_cons_succ]
                      refine anyE_tk 2 110 (oi := ?oi56) (v := ?v56) ?hi56 ?hd56 (by kernel_rfl) (by kernel_rfl) (by kernel_rfl) ?hQ56 ?hy56 hS ?rest56
                      case hi56 => simp only [List.getElem?_toArray, List.getElem?_cons_zero, List.getElem?_cons_succ]; rfl
                      case hd56 => rfl
                      case hQ56 => exact fun _ _ _ h => h
                      case hy56 => (refine Or.inl ⟨by rfl, ?_⟩; intro w hSw; (try dsimp only at hSw); go_simp; try with_reducible rfl)
                      simp only [List.setIfInBounds_toArray, List.set_cons_zero, List.set_cons_succ]
                      refine anyE_tk 3 111 (oi := ?oi57) (v := ?v57) ?hi57 ?hd57 (by kernel_rfl) (by kernel_rfl) (by kernel_rfl) ?hQ57 ?hy57 hS ?rest57
                      case hi57 => simp only [List.getElem?_toArray, List.getElem?_cons_zero, List.getElem?_cons_succ]; rfl
                      case hd57 => rfl
                      case hQ57 => exact fun _ _ _ h => h
                      case hy57 => (refine Or.inl ⟨by rfl, ?_⟩; intro w hSw; (try dsimp only at hSw); go_simp; try with_reducible rfl)
                      simp only [List.setIfInBounds_toArray, List.set_cons_zero, List.set_cons_succ]
                      refine anyE_tk 4 112 (oi := ?oi58) (v := ?v58) ?hi58 ?hd58 (by kernel_rfl) (by kernel_rfl) (by kernel_rfl) ?hQ58 ?hy58 hS ?rest58
                      case hi58 => simp only [List.getElem?_toArray, List.getElem?_cons_zero, List.getElem?_cons_succ]; rfl
                      case hd58 => rfl
                      case hQ58 => exact fun _ _ _ h => h
                      case hy58 => (refine Or.inl ⟨by rfl, ?_⟩; intro w hSw; (try dsimp only at hSw); go_simp; try with_reducible rfl)
                      simp only [List.setIfInBounds_toArray, List.set_cons_zero, List.set_cons_succ]
                      refine anyE_tk 5 113 (oi := ?oi59) (v := ?v59) ?hi59 ?hd59 (by kernel_rfl) (by kernel_rfl) (by kernel_rfl) ?hQ59 ?hy59 hS ?rest59
                      case hi59 => simp only [List.getElem?_toArray, List.getElem?_cons_zero, List.getElem?_cons_succ]; rfl
                      case hd59 => rfl
                      case hQ59 => exact fun _ _ _ h => h
                      case hy59 => (refine Or.inl ⟨by rfl, ?_⟩; intro w hSw; (try dsimp only at hSw); go_simp; try with_reducible rfl)
                      simp only [List.setIfInBounds_toArray, List.set_cons_zero, List.set_cons_succ]
                      refine anyE_tk 6 114 (oi := ?oi60) (v := ?v60) ?hi60 ?hd60 (by kernel_rfl) (by kernel_rfl) (by kernel_rfl) ?hQ60 ?hy60 hS ?rest60
                      case hi60 => simp only [List.getElem?_toArray, List.getElem?_cons_zero, List.getElem?_cons_succ]; rfl
                      case hd60 => rfl
                      case hQ60 => exact fun _ _ _ h => h
                      case hy60 => (refine Or.inl ⟨by rfl, ?_⟩; intro w hSw; (try dsimp only at hSw); go_simp; try with_reducible rfl)
                      simp only [List.setIfInBounds_toArray, List.set_cons_zero, List.set_cons_succ]
                      refine anyE_tk 7 115 (oi := ?oi61) (v := ?v61) ?hi61 ?hd61 (by kernel_rfl) (by kernel_rfl) (by kernel_rfl) ?hQ61 ?hy61 hS ?rest61
                      case hi61 => simp only [List.getElem?_toArray, List.getElem?_cons_zero, List.getElem?_cons_succ]; rfl
                      case hd61 => rfl
                      case hQ61 => exact fun _ _ _ h => h
                      case hy61 => (refine Or.inl ⟨by rfl, ?_⟩; intro w hSw; (try dsimp only at hSw); go_simp; try with_reducible rfl)
                      simp only [List.setIfInBounds_toArray, List.set_cons_zero, List.set_cons_succ]
                      refine anyE_tk 8 116 (oi := ?oi62) (v := ?v62) ?hi62 ?hd62 (by kernel_rfl) (by kernel_rfl) (by kernel_rfl) ?hQ62 ?hy62 hS ?rest62
                      case hi62 => simp only [List.getElem?_toArray, List.getElem?_cons_zero, List.getElem?_cons_succ]; rfl
                      case hd62 => rfl
                      case hQ62 => exact fun _ _ _ h => h
                      case hy62 => (refine Or.inl ⟨by rfl, ?_⟩; intro w hSw; (try dsimp only at hSw); go_simp; try with_reducible rfl)
                      simp only [List.setIfInBounds_toArray, List.set_cons_zero, List.set_cons_succ]
                      refine anyE_tk 9 117 (oi := ?oi63) (v := ?v63) ?hi63 ?hd63 (by kernel_rfl) (by kernel_rfl) (by kernel_rfl) ?hQ63 ?hy63 hS ?rest63
                      case hi63 => simp only [List.getElem?_toArray, List.getElem?_cons_zero, List.getElem?_cons_succ]; rfl
                      case hd63 => rfl
                      case hQ63 => exact fun _ _ _ h => h
                      case hy63 => (refine Or.inl ⟨by rfl, ?_⟩; intro w hSw; (try dsimp only at hSw); go_simp; try with_reducible rfl)
                      simp only [List.setIfInBounds_toArray, List.set_cons_zero, List.set_cons_succ]
                      refine anyE_tk 10 118 (oi := ?oi64) (v := ?v64) ?hi64 ?hd64 (by kernel_rfl) (by kernel_rfl) (by kernel_rfl) ?hQ64 ?hy64 hS ?rest64
                      case hi64 => simp only [List.getElem?_toArray, List.getElem?_cons_zero, List.getElem?_cons_succ]; rfl
                      case hd64 => rfl
                      case hQ64 => exact fun _ _ _ h => h
                      case hy64 => (refine Or.inl ⟨by rfl, ?_⟩; intro w hSw; (try dsimp only at hSw); go_simp; try with_reducible rfl)
                      simp only [List.setIfInBounds_toArray, List.set_cons_zero, List.set_cons_succ]
                      refine anyE_tk 11 119 (oi := ?oi65) (v := ?v65) ?hi65 ?hd65 (by kernel_rfl) (by kernel_rfl) (by kernel_rfl) ?hQ65 ?hy65 hS ?rest65
                      case hi65 => simp only [List.getElem?_toArray, List.getElem?_cons_zero, List.getElem?_cons_succ]; rfl
                      case hd65 => rfl
                      case hQ65 => exact fun _ _ _ h => h
                      case hy65 => (refine Or.inl ⟨by rfl, ?_⟩; intro w hSw; (try dsimp only at hSw); go_simp; try with_reducible rfl)
                      simp only [List.setIfInBounds_toArray, List.set_cons_zero, List.set_cons_succ]
                      clear hS
                      refine anyE_one (i := 12) (o := ?oi66) (by kernel_rfl) ?hi66 (fun K hK => ?step66)
                      case hi66 => simp only [List.getElem?_toArray, List.getElem?_cons_zero, List.getElem?_cons_succ]; rfl
                      go_simp
                      refine (cz.out _ HBi.out).mono ?_
                      rintro e w7 ⟨rfl, hd7⟩
                      have HB7 := Lib.hid hd7
                      clear hd7
                      go_wp2_with fail
                      refine hK.out _ _ (fun _ => Keep.out _ HB7.out) ?_
                      clear hK K
                      try simp only [Act.put, List.setIfInBounds_toArray, List.set_cons_zero, List.set_cons_succ]
                      refine anyE_tk 13 121 (oi := ?oi67) (v := ?v67) ?hi67 ?hd67 (by kernel_rfl) (by kernel_rfl) (by kernel_rfl) ?hQ67 ?hy67 (Keep.out _ HB7.out) ?rest67
                      case hi67 => simp only [List.getElem?_toArray, List.getElem?_cons_zero, List.getElem?_cons_succ]; rfl
                      case hd67 => rfl
                      case hQ67 => exact fun _ _ _ h => h
                      case hy67 => (refine Or.inl ⟨by rfl, ?_⟩; intro w hSw; (try dsimp only at hSw); go_simp; try with_reducible rfl)
                      simp only [List.setIfInBounds_toArray, List.set_cons_zero, List.set_cons_succ]
                      refine anyE_tk 14 122 (oi := ?oi68) (v := ?v68) ?hi68 ?hd68 (by kernel_rfl) (by kernel_rfl) (by kernel_rfl) ?hQ68 ?hy68 (Keep.out _ HB7.out) ?rest68
                      case hi68 => simp only [List.getElem?_toArray, List.getElem?_cons_zero, List.getElem?_cons_succ]; rfl
                      case hd68 => rfl
                      case hQ68 => exact fun _ _ _ h => h
                      case hy68 => (refine Or.inl ⟨by rfl, ?_⟩; intro w hSw; (try dsimp only at hSw); go_simp; try with_reducible rfl)
                      simp only [List.setIfInBounds_toArray, List.set_cons_zero, List.set_cons_succ]
                      refine anyE_done (by kernel_rfl) ?_ _
                      have hbb := hbi.trans (HB7.out.mono hbi.size)
                      have HQ3 := Lib.hid (HQ4.out.below hbb)
                      have HIn3 := Lib.hid (HIn.out.mv (Mv.below hbb))
                      have HBx3 := Lib.hid (HBx2.out.trans (hbb.mono HBx2.out.size))
                      clear v0 v1 q0 q1 hGl3
                      obtain ⟨v0, v1, _, _⟩ := blk2 (HBl.out.below hbb HBl.out.lt)
                      obtain ⟨_, _, _, q0, q1, f0, f1, _⟩ := HQ3.out.own1
                      have hGl3 := HQ3.out.lt
                      have hset := HQ3.out.set (q := (z, n1 :: ps)) (by rw [← Hn1.out]; exact HB1.out) (A := A6) (c := c6) HIn3.out
                      simp only [List.length_cons, Hnp.out] at hset
                      have HSet := Lib.hid hset
                      have HP := Lib.hid (((Only.refl G w7).put (k * 2) (.int .i64 z)).put (k * 2 + 1) (.slice A6 (np + 1) c6))
                      have HB4 := Lib.hid (HBx3.out.trans (HP.out.below hGw HBx3.out.size))
                      clear hset
                      go_wp2_with fail
                      go_roundw
                      case rel => exact ⟨j1, some (z, n1 :: ps), by have := Hj1.out; omega, by have := Hj1.out; omega, by go_num, by rw [Hjk1.out, HLe.out], by rw [Hjk1.out]; have h9 := HSet.out; rw [← Hn1.out] at h9; exact h9, HB4.out⟩
                      case measure => (have := Hj1.out; simp [intOf]; omega)
                    · have hdz : decide (zc < 0) = false := decide_eq_false fun h => hltp (HZ.out.1 h)
                      have HB1 := Lib.hid (HN3.out.2 hltp)
                      clear HZ HN3 hltp
                      have hbi0 : Below wc.heap.size wc wc := Below.refl _ _
                      obtain ⟨v0, v1, _, _⟩ := blk2 HBl.out
                      go_wp2_with fail
                      refine wp_region_E (S := fun W => W.cell? ⟨G, k * 2, none⟩ = some (.int .i64 qv) ∧ W.cell? ⟨G, k * 2 + 1, none⟩ = some (.slice (some ⟨bq, oq, none⟩) nqs cq) ∧ W.cell? ⟨G2, 0, none⟩ = some (.int .i64 z) ∧ W.cell? ⟨G2, 1, none⟩ = some (.slice A6 (np + 1) c6)) (E := fun _ => false) (by kernel_rfl) ?_
                      have hbi : Below wc.heap.size wc wc.drew := (Below.refl _ _).drew
                      generalize wc.drew = wi0 at hbi ⊢
                      have HBi := Lib.hid (Below.refl wi0.heap.size wi0)
                      have hGl3 := HQ4.out.lt
                      have hGl4 := HBl.out.lt
                      have Keep := Lib.hid (show ∀ W, Below wi0.heap.size wi0 W → W.cell? ⟨G, k * 2, none⟩ = some (.int .i64 qv) ∧ W.cell? ⟨G, k * 2 + 1, none⟩ = some (.slice (some ⟨bq, oq, none⟩) nqs cq) ∧ W.cell? ⟨G2, 0, none⟩ = some (.int .i64 z) ∧ W.cell? ⟨G2, 1, none⟩ = some (.slice A6 (np + 1) c6) from fun W hW => by
                        have hbb := hbi.trans (hW.mono hbi.size)
                        exact ⟨(hbb.cell (p := ⟨G, k * 2, none⟩) hGl3).trans q0, (hbb.cell (p := ⟨G, k * 2 + 1, none⟩) hGl3).trans q1, (hbb.cell (p := ⟨G2, 0, none⟩) hGl4).trans v0, (hbb.cell (p := ⟨G2, 1, none⟩) hGl4).trans v1⟩)
                      have cz := Lib.hid (fun W (hW : Below wi0.heap.size wi0 W) => cz0.out W (hbi.trans (hW.mono hbi.size)))
                      have hS := Keep.out _ HBi.out
                      have heq : ∀ w : World, (binOp .eql 28 (.slice (some ⟨bq, oq, none⟩) nqs cq) (.slice none 0 0)).run Try.prog w = .ok (.bool false) w := fun w => Lib.run_eql_slice_nil w 28 3 (some ⟨bq, oq, none⟩) nqs cq 0 0 Try.underlying28
                      refine anyE_tk 0 108 (oi := ?oi69) (v := ?v69) ?hi69 ?hd69 (by kernel_rfl) (by kernel_rfl) (by kernel_rfl) ?hQ69 ?hy69 hS ?rest69
                      case hi69 => simp only [List.getElem?_toArray, List.getElem?_cons_zero, List.getElem?_cons_succ]; rfl
                      case hd69 => rfl
                      case hQ69 => exact fun _ _ _ h => h
                      case hy69 => (refine Or.inl ⟨by rfl, ?_⟩; intro w hSw; (try dsimp only at hSw); go_simp; try with_reducible rfl)
                      simp only [List.setIfInBounds_toArray, List.set_cons_zero, List.set_cons_succ]
                      refine anyE_tk 1 109 (oi := ?oi70) (v := ?v70) ?hi70 ?hd70 (by kernel_rfl) (by kernel_rfl) (by kernel_rfl) ?hQ70 ?hy70 hS ?rest70
                      case hi70 => simp only [List.getElem?_toArray, List.getElem?_cons_zero, List.getElem?_cons_succ]; rfl
                      case hd70 => rfl
                      case hQ70 => exact fun _ _ _ h => h
                      case hy70 => (refine Or.inl ⟨by rfl, ?_⟩; intro w hSw; (try dsimp only at hSw); go_simp; try with_reducible rfl)
                      simp only [List.setIfInBounds_toArray, List.set_cons_zero, List.set_cons_succ]
                      refine anyE_tk 2 110 (oi := ?oi71) (v := ?v71) ?hi71 ?hd71 (by kernel_rfl) (by kernel_rfl) (by kernel_rfl) ?hQ71 ?hy71 hS ?rest71
                      case hi71 => simp only [List.getElem?_toArray, List.getElem?_cons_zero, List.getElem?_cons_succ]; rfl
                      case hd71 => rfl
                      case hQ71 => exact fun _ _ _ h => h
                      case hy71 => (refine Or.inl ⟨by rfl, ?_⟩; intro w hSw; (try dsimp only at hSw); go_simp; try with_reducible rfl)
                      simp only [List.setIfInBounds_toArray, List.set_cons_zero, List.set_cons_succ]
                      refine anyE_tk 3 111 (oi := ?oi72) (v := ?v72) ?hi72 ?hd72 (by kernel_rfl) (by kernel_rfl) (by kernel_rfl) ?hQ72 ?hy72 hS ?rest72
                      case hi72 => simp only [List.getElem?_toArray, List.getElem?_cons_zero, List.getElem?_cons_succ]; rfl
                      case hd72 => rfl
                      case hQ72 => exact fun _ _ _ h => h
                      case hy72 => (refine Or.inl ⟨by rfl, ?_⟩; intro w hSw; (try dsimp only at hSw); go_simp; try with_reducible rfl)
                      simp only [List.setIfInBounds_toArray, List.set_cons_zero, List.set_cons_succ]
                      refine anyE_tk 4 112 (oi := ?oi73) (v := ?v73) ?hi73 ?hd73 (by kernel_rfl) (by kernel_rfl) (by kernel_rfl) ?hQ73 ?hy73 hS ?rest73
                      case hi73 => simp only [List.getElem?_toArray, List.getElem?_cons_zero, List.getElem?_cons_succ]; rfl
                      case hd73 => rfl
                      case hQ73 => exact fun _ _ _ h => h
                      case hy73 => (refine Or.inl ⟨by rfl, ?_⟩; intro w hSw; (try dsimp only at hSw); go_simp; try with_reducible rfl)
                      simp only [List.setIfInBounds_toArray, List.set_cons_zero, List.set_cons_succ]
                      refine anyE_tk 5 113 (oi := ?oi74) (v := ?v74) ?hi74 ?hd74 (by kernel_rfl) (by kernel_rfl) (by kernel_rfl) ?hQ74 ?hy74 hS ?rest74
                      case hi74 => simp only [List.getElem?_toArray, List.getElem?_cons_zero, List.getElem?_cons_succ]; rfl
                      case hd74 => rfl
                      case hQ74 => exact fun _ _ _ h => h
                      case hy74 => (refine Or.inl ⟨by rfl, ?_⟩; intro w hSw; (try dsimp only at hSw); go_simp; try with_reducible rfl)
                      simp only [List.setIfInBounds_toArray, List.set_cons_zero, List.set_cons_succ]
                      refine anyE_tk 6 114 (oi := ?oi75) (v := ?v75) ?hi75 ?hd75 (by kernel_rfl) (by kernel_rfl) (by kernel_rfl) ?hQ75 ?hy75 hS ?rest75
                      case hi75 => simp only [List.getElem?_toArray, List.getElem?_cons_zero, List.getElem?_cons_succ]; rfl
                      case hd75 => rfl
                      case hQ75 => exact fun _ _ _ h => h
                      case hy75 => (refine Or.inl ⟨by rfl, ?_⟩; intro w hSw; (try dsimp only at hSw); go_simp; try with_reducible rfl)
                      simp only [List.setIfInBounds_toArray, List.set_cons_zero, List.set_cons_succ]
                      refine anyE_tk 7 115 (oi := ?oi76) (v := ?v76) ?hi76 ?hd76 (by kernel_rfl) (by kernel_rfl) (by kernel_rfl) ?hQ76 ?hy76 hS ?rest76
                      case hi76 => simp only [List.getElem?_toArray, List.getElem?_cons_zero, List.getElem?_cons_succ]; rfl
                      case hd76 => rfl
                      case hQ76 => exact fun _ _ _ h => h
                      case hy76 => (refine Or.inl ⟨by rfl, ?_⟩; intro w hSw; (try dsimp only at hSw); go_simp; try with_reducible rfl)
                      simp only [List.setIfInBounds_toArray, List.set_cons_zero, List.set_cons_succ]
                      refine anyE_tk 8 116 (oi := ?oi77) (v := ?v77) ?hi77 ?hd77 (by kernel_rfl) (by kernel_rfl) (by kernel_rfl) ?hQ77 ?hy77 hS ?rest77
                      case hi77 => simp only [List.getElem?_toArray, List.getElem?_cons_zero, List.getElem?_cons_succ]; rfl
                      case hd77 => rfl
                      case hQ77 => exact fun _ _ _ h => h
                      case hy77 => (refine Or.inl ⟨by rfl, ?_⟩; intro w hSw; (try dsimp only at hSw); go_simp; try with_reducible rfl)
                      simp only [List.setIfInBounds_toArray, List.set_cons_zero, List.set_cons_succ]
                      refine anyE_tk 9 117 (oi := ?oi78) (v := ?v78) ?hi78 ?hd78 (by kernel_rfl) (by kernel_rfl) (by kernel_rfl) ?hQ78 ?hy78 hS ?rest78
                      case hi78 => simp only [List.getElem?_toArray, List.getElem?_cons_zero, List.getElem?_cons_succ]; rfl
                      case hd78 => rfl
                      case hQ78 => exact fun _ _ _ h => h
                      case hy78 => (refine Or.inl ⟨by rfl, ?_⟩; intro w hSw; (try dsimp only at hSw); go_simp; try with_reducible rfl)
                      simp only [List.setIfInBounds_toArray, List.set_cons_zero, List.set_cons_succ]
                      refine anyE_tk 10 118 (oi := ?oi79) (v := ?v79) ?hi79 ?hd79 (by kernel_rfl) (by kernel_rfl) (by kernel_rfl) ?hQ79 ?hy79 hS ?rest79
                      case hi79 => simp only [List.getElem?_toArray, List.getElem?_cons_zero, List.getElem?_cons_succ]; rfl
                      case hd79 => rfl
                      case hQ79 => exact fun _ _ _ h => h
                      case hy79 => (refine Or.inl ⟨by rfl, ?_⟩; intro w hSw; (try dsimp only at hSw); go_simp; try with_reducible rfl)
                      simp only [List.setIfInBounds_toArray, List.set_cons_zero, List.set_cons_succ]
                      refine anyE_tk 11 119 (oi := ?oi80) (v := ?v80) ?hi80 ?hd80 (by kernel_rfl) (by kernel_rfl) (by kernel_rfl) ?hQ80 ?hy80 hS ?rest80
                      case hi80 => simp only [List.getElem?_toArray, List.getElem?_cons_zero, List.getElem?_cons_succ]; rfl
                      case hd80 => rfl
                      case hQ80 => exact fun _ _ _ h => h
                      case hy80 => (refine Or.inl ⟨by rfl, ?_⟩; intro w hSw; (try dsimp only at hSw); go_simp; try with_reducible rfl)
                      simp only [List.setIfInBounds_toArray, List.set_cons_zero, List.set_cons_succ]
                      clear hS
                      refine anyE_one (i := 12) (o := ?oi81) (by kernel_rfl) ?hi81 (fun K hK => ?step81)
                      case hi81 => simp only [List.getElem?_toArray, List.getElem?_cons_zero, List.getElem?_cons_succ]; rfl
                      go_simp
                      refine (cz.out _ HBi.out).mono ?_
                      rintro e w7 ⟨rfl, hd7⟩
                      have HB7 := Lib.hid hd7
                      clear hd7
                      go_wp2_with fail
                      refine hK.out _ _ (fun _ => Keep.out _ HB7.out) ?_
                      clear hK K
                      try simp only [Act.put, List.setIfInBounds_toArray, List.set_cons_zero, List.set_cons_succ]
                      refine anyE_tk 13 121 (oi := ?oi82) (v := ?v82) ?hi82 ?hd82 (by kernel_rfl) (by kernel_rfl) (by kernel_rfl) ?hQ82 ?hy82 (Keep.out _ HB7.out) ?rest82
                      case hi82 => simp only [List.getElem?_toArray, List.getElem?_cons_zero, List.getElem?_cons_succ]; rfl
                      case hd82 => rfl
                      case hQ82 => exact fun _ _ _ h => h
                      case hy82 => (refine Or.inl ⟨by rfl, ?_⟩; intro w hSw; (try dsimp only at hSw); go_simp; try with_reducible rfl)
                      simp only [List.setIfInBounds_toArray, List.set_cons_zero, List.set_cons_succ]
                      refine anyE_tk 14 122 (oi := ?oi83) (v := ?v83) ?hi83 ?hd83 (by kernel_rfl) (by kernel_rfl) (by kernel_rfl) ?hQ83 ?hy83 (Keep.out _ HB7.out) ?rest83
                      case hi83 => simp only [List.getElem?_toArray, List.getElem?_cons_zero, List.getElem?_cons_succ]; rfl
                      case hd83 => rfl
                      case hQ83 => exact fun _ _ _ h => h
                      case hy83 => (refine Or.inl ⟨by rfl, ?_⟩; intro w hSw; (try dsimp only at hSw); go_simp; try with_reducible rfl)
                      simp only [List.setIfInBounds_toArray, List.set_cons_zero, List.set_cons_succ]
                      refine anyE_done (by kernel_rfl) ?_ _
                      have hbb := hbi.trans (HB7.out.mono hbi.size)
                      have HQ3 := Lib.hid (HQ4.out.below hbb)
                      have HIn3 := Lib.hid (HIn.out.mv (Mv.below hbb))
                      have HBx3 := Lib.hid (HBx2.out.trans (hbb.mono HBx2.out.size))
                      clear v0 v1 q0 q1 hGl3
                      obtain ⟨v0, v1, _, _⟩ := blk2 (HBl.out.below hbb HBl.out.lt)
                      have HK3 := Lib.hid (HQ3.out.keep (q := (qv, qs)) (by rw [← Hn1.out]; exact HB1.out))
                      go_wp2_with fail
                      go_roundw
                      case rel => exact ⟨j1, some (qv, qs), by have := Hj1.out; omega, by have := Hj1.out; omega, by go_num, by rw [Hjk1.out, HLe.out], by rw [Hjk1.out]; have h9 := HK3.out; rw [← Hn1.out] at h9; exact h9, HBx3.out⟩
                      case measure => (have := Hj1.out; simp [intOf]; omega)
            · obtain rfl : j = l.length := by omega
              have HT2 := Lib.hid (HLv.out _ _ _ HQ.out fun q hq1 hq2 => by rw [List.length_drop] at hq2; omega)
              go_wp2_with fail
              go_roundw
              case rel => exact ⟨k, by omega, by go_num, HT2.out, HBx.out⟩
              case measure => (simp [intOf]; try omega)
end
end Go.Proofs.Ytmodbpglopfghaa
