/- The reference's tour that goes on to the nearest stop. -/
import Derived.Test.YtmodbpglopfghaaVanAe
import Derived.Test.YtmodbpglopfghaaOrd2
set_option linter.unusedSimpArgs false
set_option linter.unusedVariables false
namespace Go.Proofs.Ytmodbpglopfghaa
open Go.RowKit

/-- What the reference holds for none. -/
def bsR (s : Nat) : Int := if s = 0 then -1 else (s : Int)
theorem tu_snoc {n : Nat} {t : List Nat} {s : Nat} (h : Stp n t) (h1 : 1 ≤ s) (h2 : s < n) : (s ∈ t → tuR n (intL (t ++ [s])) = 6) ∧ (s ∉ t → tuR n (intL (t ++ [s])) = 0) := by
  constructor
  · intro hs
    refine tu_twice (fun x hx => ?_) fun hn => ?_
    · unfold intL at hx
      obtain ⟨y, hy, rfl⟩ := List.mem_map.1 hx
      rcases List.mem_append.1 hy with hy | hy
      · have := h.2 y hy; omega
      · rw [List.mem_singleton] at hy; omega
    · have : (t ++ [s]).Nodup := by
        unfold intL List.Nodup at hn
        rw [List.pairwise_map] at hn
        exact hn.imp fun h e => h (by rw [e])
      exact (List.nodup_append.1 this).2.2 s hs s (by simp) rfl
  · intro hs
    exact stp_tu ⟨List.nodup_append.2 ⟨h.1, by simp, fun x hx y hy => by rw [List.mem_singleton] at hy; subst hy; exact fun e => hs (e ▸ hx)⟩, fun x hx => by
      rcases List.mem_append.1 hx with hx | hx
      · exact h.2 x hx
      · rw [List.mem_singleton] at hx; subst hx; exact ⟨h1, h2⟩⟩
theorem keep3 {W0 W : World} {p q r : Addr} {x y z : Value} (hp : p.block < W0.heap.size) (z0 : W0.cell? p = some x) (hq : q.block < W0.heap.size) (z1 : W0.cell? q = some y) (hr : r.block < W0.heap.size) (z2 : W0.cell? r = some z) (h : Below W0.heap.size W0 W) :
    W.cell? p = some x ∧ W.cell? q = some y ∧ W.cell? r = some z ∧ Below W0.heap.size W0 W := ⟨(h.cell hp).trans z0, (h.cell hq).trans z1, (h.cell hr).trans z2, h⟩

set_option maxRecDepth 100000 in
set_option maxHeartbeats 4000000 in
theorem Round_ref (b off c B first : Nat) (rows : List (List Int)) (w : World) (hB : B ≤ w.heap.size) (h : TblAt B w (some ⟨b, off, none⟩) rows) (hl : rows.length ≤ 30 ∧ ∀ r ∈ rows, r.length ≤ 30) (hv : VW rows) (h1 : 1 ≤ first) (h2 : first < rows.length) :
    Calls Try.prog 33 #[.slice (some ⟨b, off, none⟩) rows.length c, .int .i64 (first : Int)] w fun e w' => ∃ A' c', e = .returned (.tuple #[.slice A' (rows.length - 1) c', .int .i64 0]) ∧ IntsAt w'.heap.size w' A' (intL (rdT (wy rows) rows.length first (rows.length - 2))) ∧ rows.length - 1 ≤ c' ∧ Below w.heap.size w w' := by
  have cv := Lib.hid (Validate_ref (some ⟨b, off, none⟩) c B rows w hB h hl)
  rw [vw_ok hv] at cv
  obtain ⟨b', off', e', hwa⟩ := WaAt.of_tbl h hv
  obtain ⟨rfl, rfl⟩ : b = b' ∧ off = off' := by injection e' with e'; injection e' with q1 q2; exact ⟨q1, q2⟩
  have H := Lib.hid (show WaAt w.heap.size w b off rows.length (wy rows) from hwa.below (Below.refl _ _) hB)
  have hn7 := hv.n1
  have cw := within_ref (first : Int) 1 ((rows.length : Int) - 1)
  rw [show inI (first : Int) 1 ((rows.length : Int) - 1) = true by simp [inI]; omega] at cw
  have CW := Lib.hid cw
  have cit := Lib.hid (fun (A2 : Option Addr) (c2 : Nat) (t : List Int) (W : World) (hI : IntsAt W.heap.size W A2 t) (hm : t.length ≤ 1000) => isTour_ref (some ⟨b, off, none⟩) A2 rows.length c c2 W.heap.size t W (Nat.le_refl _) hI hm hv.n0 (by omega))
  have HS := Lib.hid (rdT_stp (wy rows) h1 h2)
  have HLn := Lib.hid (rdT_length (wy rows) rows.length first)
  obtain ⟨j0, hj, hy0, hy1, hy2⟩ := info_parts info3
  have hwn : IntKind.i64.wrap ((rows.length : Int) - 1) = (rows.length : Int) - 1 := IntWalk.i64_in _ (by omega)
  clear h hl hv hwa e' cw hB
  generalize wy rows = f at *
  generalize hn : rows.length = n at *
  clear hn
  go_enter Try.func33, Try.ntmps33
  go_wp2_with (first | (go_at_call 31; refine cv.out.mono ?_; rintro e w1 ⟨rfl, hb1⟩; have HB1 := Lib.hid hb1; clear hb1) | (go_at_call 60; refine (CW.out _).mono ?_; rintro e w2 ⟨rfl, hw2⟩; obtain rfl := hw2.symm; clear hw2))
  have HO0 := Lib.hid (own_base (World.ownsRow_lit (base := w1.heap.size) (size := 1) (e := 3) w1 #[.int .i64 (first : Int)] 1 (Nat.le_refl _) (by decide) rfl) HB1.out.size)
  have HB0 := Lib.hid (HB1.out.alloc HB1.out.size (.cells #[.int .i64 (first : Int)] 3))
  go_loopw [7] (fun vt wr => ∃ k : Nat, k + 1 ≤ n - 1 ∧ wr.ownsRow w.heap.size 3 1 vt (k + 1) ((intL (rdT f n first k)).map (Value.int .i64)) ∧ Below w.heap.size w wr) (fun vt _ => n - lenV vt)
  case atStart => exact ⟨0, by omega, HO0.out, HB0.out⟩
  case round =>
    clear HO0 HB0
    obtain ⟨k, hk, hown, hbr⟩ := hrel
    obtain ⟨A3, c3, rfl⟩ := own_form hown
    have HO := Lib.hid hown
    have HBr := Lib.hid hbr
    clear hown hbr
    by_cases hlt : k + 1 < n - 1
    · have hIt : IntsAt wr.heap.size wr A3 (intL (rdT f n first k)) := IntsAt.of_own (by rw [intL_length, HLn.out]; exact HO.out)
      have hlen := HLn.out k
      obtain ⟨bt, ot, rfl, hbt, y0⟩ := hIt.at (k := k) (by rw [intL_length, hlen]; omega)
      rw [intL_get (by omega)] at y0
      have hlast : (rdT f n first k).getLast?.getD 0 = (rdT f n first k)[k] := by
        simp only [List.getLast?_eq_getElem?, hlen, Nat.add_sub_cancel]
        rw [List.getElem?_eq_getElem (by omega)]; rfl
      have hat := (HS.out k (by omega)).2 _ (List.getElem_mem (show k < (rdT f n first k).length by omega))
      have hnx : rdT f n first (k + 1) = rdT f n first k ++ [scn f (rdT f n first k)[k] (rdT f n first k) (n - 1)] := by
        rw [rdT, hlast]
      have HNx := Lib.hid hnx
      have HIt := Lib.hid hIt
      have Hlen := Lib.hid hlen
      have Htk := Lib.hid (HS.out k (by omega))
      generalize (rdT f n first k)[k] = a at y0 hat HNx
      have hkI : ((k + 1 : Nat) : Int) < (n : Int) - 1 := by omega
      have hkI2 : (k : Int) < ((k + 1 : Nat) : Int) := by omega
      have hkd : decide ((k : Int) + 1 < (n : Int) - 1) = true := by simp; omega
      have hk0 : (0 : Int) ≤ (k : Int) := by omega
      have hkz : IntKind.i64.wrap (((k + 1 : Nat) : Int) - 1) = (k : Int) := by
        rw [IntWalk.i64_in _ (by omega)]; omega
      clear hIt hlen hlast hnx
      go_wp2_with fail
      go_quiet (fail)
      go_wp2_with fail
      have hnn : ((n - 1 : Nat) : Int) = (n : Int) - 1 := by omega
      have HScs := Lib.hid (show ∀ j, scn f a (rdT f n first k) (j + 1) = if (j + 1) ∈ rdT f n first k then scn f a (rdT f n first k) j else if scn f a (rdT f n first k) j = 0 ∨ f a (j + 1) < f a (scn f a (rdT f n first k) j) then j + 1 else scn f a (rdT f n first k) j from fun j => rfl)
      have HScl := Lib.hid (scn_le f a (rdT f n first k))
      have HTu := Lib.hid (fun (s : Nat) h1 h2 => tu_snoc (s := s) Htk.out h1 h2)
      generalize hS : scn f a (rdT f n first k) = S at HScs HScl HNx
      have HS0 := Lib.hid (show S 0 = 0 by rw [← hS]; rfl)
      clear hS
      obtain ⟨wo, rfl⟩ : ∃ wo : World, wo = wr := ⟨_, rfl⟩
      have HBe := Lib.hid (Below.refl wo.heap.size wo)
      go_loopw [8, 10] (fun vb vs wx => ∃ j : Nat, j ≤ n - 1 ∧ vs = .int .i64 ((j : Int) + 1) ∧ vb = .int .i64 (bsR (S j)) ∧ Below wo.heap.size wo wx) (fun _ vs _ => n - (intOf vs).toNat)
      case atStart => exact ⟨0, Nat.zero_le _, rfl, by rw [HS0.out]; rfl, below_drewN HBe.out _⟩
      case round =>
        clear HBe
        obtain ⟨j, hj2, rfl, rfl, hbx⟩ := hrel
        have HBx := Lib.hid hbx
        have HBw := Lib.hid (HBr.out.trans (hbx.mono HBr.out.size))
        clear hbx
        by_cases hjlt : j < n - 1
        · have hjI : (j : Int) + 1 < (n : Int) := by omega
          have hwj : IntKind.i64.wrap ((j : Int) + 1 + 1) = (j : Int) + 1 + 1 := IntWalk.i64_in _ (by omega)
          have HIt3 := Lib.hid (HIt.out.below HBx.out HBx.out.size)
          have hbtw : bt < wr.heap.size := Nat.lt_of_lt_of_le hbt HBx.out.size
          have HSn := Lib.hid (show (intL (rdT f n first k)).map (Value.int .i64) ++ [.int .i64 ((j : Int) + 1)] = (intL (rdT f n first k ++ [j + 1])).map (Value.int .i64) from intL_snoc _ _)
          have hsl := HScl.out j
          have hss := HScs.out j
          have hlj : (intL (rdT f n first k ++ [j + 1])).length = k + 2 := by rw [intL_length, List.length_append, Hlen.out]; rfl
          have cij := fun (A5 : Option Addr) (c5 : Nat) (W : World) (hI : IntsAt W.heap.size W A5 (intL (rdT f n first k ++ [j + 1]))) => cit.out A5 c5 _ W hI (by rw [hlj]; omega)
          rw [hlj] at cij
          have citj := Lib.hid cij
          have htu := HTu.out (j + 1) (by omega) (by omega)
          clear cij hlj
          by_cases hin : (j + 1) ∈ rdT f n first k
          · rw [if_pos hin] at hss
            have Hss := Lib.hid hss
            rw [htu.1 hin] at citj
            clear hin hss htu
            go_wp2_with fail
            have Keep := Lib.hid (show ∀ W, Below wr.heap.size wr W → (Below wr.heap.size wr W) from fun W h => h)
            have HBc := Lib.hid (Below.refl wr.heap.size wr).drew
            refine wp_region_E (S := fun W => Below wr.heap.size wr W) (E := fun _ => false) (by kernel_rfl) ?_
            generalize wr.drew = W0 at HBc ⊢
            have hS := Keep.out _ HBc.out
            refine anyE_tk 0 42 (oi := ?oi1) (v := ?v1) ?hi1 ?hd1 (by kernel_rfl) (by kernel_rfl) (by kernel_rfl) ?hQ1 ?hy1 hS ?rest1
            case hi1 => simp only [List.getElem?_toArray, List.getElem?_cons_zero, List.getElem?_cons_succ]; rfl
            case hd1 => rfl
            case hQ1 => exact fun _ _ _ h => h
            case hy1 => (refine Or.inl ⟨by rfl, ?_⟩; intro w hSw; (try dsimp only at hSw); go_simp; try with_reducible rfl)
            simp only [List.setIfInBounds_toArray, List.set_cons_zero, List.set_cons_succ]
            refine anyE_tk 2 44 (oi := ?oi2) (v := ?v2) ?hi2 ?hd2 (by kernel_rfl) (by kernel_rfl) (by kernel_rfl) ?hQ2 ?hy2 hS ?rest2
            case hi2 => simp only [List.getElem?_toArray, List.getElem?_cons_zero, List.getElem?_cons_succ]; rfl
            case hd2 => rfl
            case hQ2 => exact fun _ _ _ h => h
            case hy2 => (refine Or.inl ⟨by rfl, ?_⟩; intro w hSw; (try dsimp only at hSw); go_simp; try with_reducible rfl)
            simp only [List.setIfInBounds_toArray, List.set_cons_zero, List.set_cons_succ]
            refine anyE_tk 4 46 (oi := ?oi3) (v := ?v3) ?hi3 ?hd3 (by kernel_rfl) (by kernel_rfl) (by kernel_rfl) ?hQ3 ?hy3 hS ?rest3
            case hi3 => simp only [List.getElem?_toArray, List.getElem?_cons_zero, List.getElem?_cons_succ]; rfl
            case hd3 => rfl
            case hQ3 => exact fun _ _ _ h => h
            case hy3 => (refine Or.inl ⟨by rfl, ?_⟩; intro w hSw; (try dsimp only at hSw); go_simp; try with_reducible rfl)
            simp only [List.setIfInBounds_toArray, List.set_cons_zero, List.set_cons_succ]
            clear hS
            refine anyE_two (i := 1) (j := 5) (oi := ?oi4) (oj := ?oj4) (by kernel_rfl) ?hi4 ?hj4 (fun K hK => ?step4) (fun K hK => ?step5)
            case hi4 => simp only [List.getElem?_toArray, List.getElem?_cons_zero, List.getElem?_cons_succ]; rfl
            case hj4 => simp only [List.getElem?_toArray, List.getElem?_cons_zero, List.getElem?_cons_succ]; rfl
            case step4 =>
              go_simp
              have H43 := Lib.hid (show (World.alloc W0 (.cells #[] 3)).ownsRow wr.heap.size 3 1 (.slice (some ⟨(World.heap W0).size, 0, none⟩) 0 0) 0 [] from own_base (own_new 1 (Nat.le_refl _)) HBc.out.size)
              have HBc := Lib.hid (HBc.out.alloc HBc.out.size (.cells #[] 3))
              generalize World.alloc W0 (.cells #[] 3) = W43 at H43 HBc ⊢
              generalize (World.heap W0).size = x43 at H43 ⊢
              refine hK.out _ _ (fun _ => Keep.out _ HBc.out) ?_
              clear hK K
              try simp only [Act.put, List.setIfInBounds_toArray, List.set_cons_zero, List.set_cons_succ]
              refine anyE_two (i := 3) (j := 5) (oi := ?oi6) (oj := ?oj6) (by kernel_rfl) ?hi6 ?hj6 (fun K hK => ?step6) (fun K hK => ?step7)
              case hi6 => simp only [List.getElem?_toArray, List.getElem?_cons_zero, List.getElem?_cons_succ]; rfl
              case hj6 => simp only [List.getElem?_toArray, List.getElem?_cons_zero, List.getElem?_cons_succ]; rfl
              case step6 =>
                refine step_app' _ (by rfl) (.tmp 43) (.tmp 44) 28 (by rfl) wr.heap.size 3 j0 _ 1 8 Try.underlying28 hj hy0 hy1 hy2 (by rfl) (by decide) (.slice (some ⟨x43, 0, none⟩) 0 0) 0 [] (by rfl) H43.out (some ⟨bt, ot, none⟩) (k + 1) c3 ((intL (rdT f n first k)).map (Value.int .i64)) (by rfl) (by rw [List.length_map, intL_length, Hlen.out, Nat.mul_one]) (fun e => by cases e) (IntsAt.news (HIt3.out.below HBc.out HBc.out.size)) (ints_one _) (by omega) (by decide) HBc.out.size (k + 1) (by omega) ((intL (rdT f n first k)).map (Value.int .i64)) (by rfl) ?_
                intro A4 c4 W45 hown4 hg4 hlow4
                have H45 := Lib.hid hown4
                have HBc := Lib.hid (HBc.out.grown hg4 HBc.out.size hlow4)
                clear hown4 hg4 hlow4 H43
                refine hK.out _ _ (fun _ => Keep.out _ HBc.out) ?_
                clear hK K
                try simp only [Act.put, List.setIfInBounds_toArray, List.set_cons_zero, List.set_cons_succ]
                refine anyE_one (i := 5) (o := ?oi8) (by kernel_rfl) ?hi8 (fun K hK => ?step8)
                case hi8 => simp only [List.getElem?_toArray, List.getElem?_cons_zero, List.getElem?_cons_succ]; rfl
                go_simp
                have H47 := Lib.hid (Blk.new W45 3 #[.int .i64 ((j : Int) + 1)])
                have H45 := Lib.hid (H45.out.alloc (.cells #[.int .i64 ((j : Int) + 1)] 3))
                have HBc := Lib.hid (HBc.out.alloc HBc.out.size (.cells #[.int .i64 ((j : Int) + 1)] 3))
                generalize World.alloc W45 (.cells #[.int .i64 ((j : Int) + 1)] 3) = W47 at H47 HBc H45 ⊢
                generalize (World.heap W45).size = x47 at H47 ⊢
                refine hK.out _ _ (fun _ => Keep.out _ HBc.out) ?_
                clear hK K
                try simp only [Act.put, List.setIfInBounds_toArray, List.set_cons_zero, List.set_cons_succ]
                refine anyE_one (i := 6) (o := ?oi9) (by kernel_rfl) ?hi9 (fun K hK => ?step9)
                case hi9 => simp only [List.getElem?_toArray, List.getElem?_cons_zero, List.getElem?_cons_succ]; rfl
                refine step_app' _ (by rfl) (.tmp 45) (.tmp 47) 28 (by rfl) wr.heap.size 3 j0 _ 1 8 Try.underlying28 hj hy0 hy1 hy2 (by rfl) (by decide) (.slice A4 (k + 1) c4) (k + 1) ((intL (rdT f n first k)).map (Value.int .i64)) (by rfl) H45.out (some ⟨x47, 0, none⟩) 1 1 [.int .i64 ((j : Int) + 1)] (by rfl) (by rfl) (by simp) (news_blk (t := 3) (cs := #[.int .i64 ((j : Int) + 1)]) H47.out) (by simp [Value.oneCell']) (by omega) (by decide) HBc.out.size (k + 2) (by omega) ((intL (rdT f n first k ++ [j + 1])).map (Value.int .i64)) HSn.out ?_
                intro A5 c5 W48 hown5 hg5 hlow5
                have HI5 := Lib.hid (IntsAt.of_own (zs := intL (rdT f n first k ++ [j + 1])) (by rw [intL_length, List.length_append, Hlen.out]; exact hown5))
                have HBc := Lib.hid (HBc.out.grown hg5 HBc.out.size hlow5)
                clear hown5 hg5 hlow5 H45 H47
                refine hK.out _ _ (fun _ => Keep.out _ HBc.out) ?_
                clear hK K
                try simp only [Act.put, List.setIfInBounds_toArray, List.set_cons_zero, List.set_cons_succ]
                refine anyE_one (i := 7) (o := ?oi10) (by kernel_rfl) ?hi10 (fun K hK => ?step10)
                case hi10 => simp only [List.getElem?_toArray, List.getElem?_cons_zero, List.getElem?_cons_succ]; rfl
                go_simp
                refine (citj.out A5 c5 _ HI5.out).mono ?_
                rintro e W49 ⟨rfl, hd6⟩
                have HBc := Lib.hid (HBc.out.trans (hd6.mono HBc.out.size))
                clear hd6 HI5
                go_wp2_with fail
                refine hK.out _ _ (fun _ => Keep.out _ HBc.out) ?_
                clear hK K
                try simp only [Act.put, List.setIfInBounds_toArray, List.set_cons_zero, List.set_cons_succ]
                have hS := Keep.out _ HBc.out
                refine anyE_tk 8 50 (oi := ?oi11) (v := ?v11) ?hi11 ?hd11 (by kernel_rfl) (by kernel_rfl) (by kernel_rfl) ?hQ11 ?hy11 hS ?rest11
                case hi11 => simp only [List.getElem?_toArray, List.getElem?_cons_zero, List.getElem?_cons_succ]; rfl
                case hd11 => rfl
                case hQ11 => exact fun _ _ _ h => h
                case hy11 => (refine Or.inl ⟨by rfl, ?_⟩; intro w hSw; (try dsimp only at hSw); go_simp; try with_reducible rfl)
                simp only [List.setIfInBounds_toArray, List.set_cons_zero, List.set_cons_succ]
                refine anyE_tk 9 51 (oi := ?oi12) (v := ?v12) ?hi12 ?hd12 (by kernel_rfl) (by kernel_rfl) (by kernel_rfl) ?hQ12 ?hy12 hS ?rest12
                case hi12 => simp only [List.getElem?_toArray, List.getElem?_cons_zero, List.getElem?_cons_succ]; rfl
                case hd12 => rfl
                case hQ12 => exact fun _ _ _ h => h
                case hy12 => (refine Or.inl ⟨by rfl, ?_⟩; intro w hSw; (try dsimp only at hSw); go_simp; try with_reducible rfl)
                simp only [List.setIfInBounds_toArray, List.set_cons_zero, List.set_cons_succ]
                refine anyE_tk 10 52 (oi := ?oi13) (v := undef) ?hi13 ?hd13 (by kernel_rfl) (by kernel_rfl) (by kernel_rfl) ?hQ13 ?hy13 hS ?rest13
                case hi13 => simp only [List.getElem?_toArray, List.getElem?_cons_zero, List.getElem?_cons_succ]; rfl
                case hd13 => rfl
                case hQ13 => exact fun _ _ _ h => h
                case hy13 => exact Or.inr ⟨by rfl, rfl⟩
                simp only [List.setIfInBounds_toArray, List.set_cons_zero, List.set_cons_succ]
                refine anyE_tk 11 53 (oi := ?oi14) (v := undef) ?hi14 ?hd14 (by kernel_rfl) (by kernel_rfl) (by kernel_rfl) ?hQ14 ?hy14 hS ?rest14
                case hi14 => simp only [List.getElem?_toArray, List.getElem?_cons_zero, List.getElem?_cons_succ]; rfl
                case hd14 => rfl
                case hQ14 => exact fun _ _ _ h => h
                case hy14 => exact Or.inr ⟨by rfl, rfl⟩
                simp only [List.setIfInBounds_toArray, List.set_cons_zero, List.set_cons_succ]
                refine anyE_tk 12 54 (oi := ?oi15) (v := undef) ?hi15 ?hd15 (by kernel_rfl) (by kernel_rfl) (by kernel_rfl) ?hQ15 ?hy15 hS ?rest15
                case hi15 => simp only [List.getElem?_toArray, List.getElem?_cons_zero, List.getElem?_cons_succ]; rfl
                case hd15 => rfl
                case hQ15 => exact fun _ _ _ h => h
                case hy15 => exact Or.inr ⟨by rfl, rfl⟩
                simp only [List.setIfInBounds_toArray, List.set_cons_zero, List.set_cons_succ]
                refine anyE_tk 13 55 (oi := ?oi16) (v := undef) ?hi16 ?hd16 (by kernel_rfl) (by kernel_rfl) (by kernel_rfl) ?hQ16 ?hy16 hS ?rest16
                case hi16 => simp only [List.getElem?_toArray, List.getElem?_cons_zero, List.getElem?_cons_succ]; rfl
                case hd16 => rfl
                case hQ16 => exact fun _ _ _ h => h
                case hy16 => exact Or.inr ⟨by rfl, rfl⟩
                simp only [List.setIfInBounds_toArray, List.set_cons_zero, List.set_cons_succ]
                refine anyE_tk 14 56 (oi := ?oi17) (v := undef) ?hi17 ?hd17 (by kernel_rfl) (by kernel_rfl) (by kernel_rfl) ?hQ17 ?hy17 hS ?rest17
                case hi17 => simp only [List.getElem?_toArray, List.getElem?_cons_zero, List.getElem?_cons_succ]; rfl
                case hd17 => rfl
                case hQ17 => exact fun _ _ _ h => h
                case hy17 => exact Or.inr ⟨by rfl, rfl⟩
                simp only [List.setIfInBounds_toArray, List.set_cons_zero, List.set_cons_succ]
                refine anyE_tk 15 57 (oi := ?oi18) (v := undef) ?hi18 ?hd18 (by kernel_rfl) (by kernel_rfl) (by kernel_rfl) ?hQ18 ?hy18 hS ?rest18
                case hi18 => simp only [List.getElem?_toArray, List.getElem?_cons_zero, List.getElem?_cons_succ]; rfl
                case hd18 => rfl
                case hQ18 => exact fun _ _ _ h => h
                case hy18 => exact Or.inr ⟨by rfl, rfl⟩
                simp only [List.setIfInBounds_toArray, List.set_cons_zero, List.set_cons_succ]
                refine anyE_tk 16 58 (oi := ?oi19) (v := undef) ?hi19 ?hd19 (by kernel_rfl) (by kernel_rfl) (by kernel_rfl) ?hQ19 ?hy19 hS ?rest19
                case hi19 => simp only [List.getElem?_toArray, List.getElem?_cons_zero, List.getElem?_cons_succ]; rfl
                case hd19 => rfl
                case hQ19 => exact fun _ _ _ h => h
                case hy19 => exact Or.inr ⟨by rfl, rfl⟩
                simp only [List.setIfInBounds_toArray, List.set_cons_zero, List.set_cons_succ]
                refine anyE_tk 17 59 (oi := ?oi20) (v := undef) ?hi20 ?hd20 (by kernel_rfl) (by kernel_rfl) (by kernel_rfl) ?hQ20 ?hy20 hS ?rest20
                case hi20 => simp only [List.getElem?_toArray, List.getElem?_cons_zero, List.getElem?_cons_succ]; rfl
                case hd20 => rfl
                case hQ20 => exact fun _ _ _ h => h
                case hy20 => exact Or.inr ⟨by rfl, rfl⟩
                simp only [List.setIfInBounds_toArray, List.set_cons_zero, List.set_cons_succ]
                refine anyE_tk 18 60 (oi := ?oi21) (v := undef) ?hi21 ?hd21 (by kernel_rfl) (by kernel_rfl) (by kernel_rfl) ?hQ21 ?hy21 hS ?rest21
                case hi21 => simp only [List.getElem?_toArray, List.getElem?_cons_zero, List.getElem?_cons_succ]; rfl
                case hd21 => rfl
                case hQ21 => exact fun _ _ _ h => h
                case hy21 => exact Or.inr ⟨by rfl, rfl⟩
                simp only [List.setIfInBounds_toArray, List.set_cons_zero, List.set_cons_succ]
                refine anyE_tk 19 61 (oi := ?oi22) (v := undef) ?hi22 ?hd22 (by kernel_rfl) (by kernel_rfl) (by kernel_rfl) ?hQ22 ?hy22 hS ?rest22
                case hi22 => simp only [List.getElem?_toArray, List.getElem?_cons_zero, List.getElem?_cons_succ]; rfl
                case hd22 => rfl
                case hQ22 => exact fun _ _ _ h => h
                case hy22 => exact Or.inr ⟨by rfl, rfl⟩
                simp only [List.setIfInBounds_toArray, List.set_cons_zero, List.set_cons_succ]
                refine anyE_tk 20 62 (oi := ?oi23) (v := undef) ?hi23 ?hd23 (by kernel_rfl) (by kernel_rfl) (by kernel_rfl) ?hQ23 ?hy23 hS ?rest23
                case hi23 => simp only [List.getElem?_toArray, List.getElem?_cons_zero, List.getElem?_cons_succ]; rfl
                case hd23 => rfl
                case hQ23 => exact fun _ _ _ h => h
                case hy23 => exact Or.inr ⟨by rfl, rfl⟩
                simp only [List.setIfInBounds_toArray, List.set_cons_zero, List.set_cons_succ]
                refine anyE_tk 21 63 (oi := ?oi24) (v := undef) ?hi24 ?hd24 (by kernel_rfl) (by kernel_rfl) (by kernel_rfl) ?hQ24 ?hy24 hS ?rest24
                case hi24 => simp only [List.getElem?_toArray, List.getElem?_cons_zero, List.getElem?_cons_succ]; rfl
                case hd24 => rfl
                case hQ24 => exact fun _ _ _ h => h
                case hy24 => exact Or.inr ⟨by rfl, rfl⟩
                simp only [List.setIfInBounds_toArray, List.set_cons_zero, List.set_cons_succ]
                refine anyE_tk 22 64 (oi := ?oi25) (v := undef) ?hi25 ?hd25 (by kernel_rfl) (by kernel_rfl) (by kernel_rfl) ?hQ25 ?hy25 hS ?rest25
                case hi25 => simp only [List.getElem?_toArray, List.getElem?_cons_zero, List.getElem?_cons_succ]; rfl
                case hd25 => rfl
                case hQ25 => exact fun _ _ _ h => h
                case hy25 => exact Or.inr ⟨by rfl, rfl⟩
                simp only [List.setIfInBounds_toArray, List.set_cons_zero, List.set_cons_succ]
                refine anyE_tk 23 65 (oi := ?oi26) (v := undef) ?hi26 ?hd26 (by kernel_rfl) (by kernel_rfl) (by kernel_rfl) ?hQ26 ?hy26 hS ?rest26
                case hi26 => simp only [List.getElem?_toArray, List.getElem?_cons_zero, List.getElem?_cons_succ]; rfl
                case hd26 => rfl
                case hQ26 => exact fun _ _ _ h => h
                case hy26 => exact Or.inr ⟨by rfl, rfl⟩
                simp only [List.setIfInBounds_toArray, List.set_cons_zero, List.set_cons_succ]
                refine anyE_tk 24 66 (oi := ?oi27) (v := undef) ?hi27 ?hd27 (by kernel_rfl) (by kernel_rfl) (by kernel_rfl) ?hQ27 ?hy27 hS ?rest27
                case hi27 => simp only [List.getElem?_toArray, List.getElem?_cons_zero, List.getElem?_cons_succ]; rfl
                case hd27 => rfl
                case hQ27 => exact fun _ _ _ h => h
                case hy27 => exact Or.inr ⟨by rfl, rfl⟩
                simp only [List.setIfInBounds_toArray, List.set_cons_zero, List.set_cons_succ]
                refine anyE_tk 25 67 (oi := ?oi28) (v := undef) ?hi28 ?hd28 (by kernel_rfl) (by kernel_rfl) (by kernel_rfl) ?hQ28 ?hy28 hS ?rest28
                case hi28 => simp only [List.getElem?_toArray, List.getElem?_cons_zero, List.getElem?_cons_succ]; rfl
                case hd28 => rfl
                case hQ28 => exact fun _ _ _ h => h
                case hy28 => exact Or.inr ⟨by rfl, rfl⟩
                simp only [List.setIfInBounds_toArray, List.set_cons_zero, List.set_cons_succ]
                refine anyE_tk 26 68 (oi := ?oi29) (v := undef) ?hi29 ?hd29 (by kernel_rfl) (by kernel_rfl) (by kernel_rfl) ?hQ29 ?hy29 hS ?rest29
                case hi29 => simp only [List.getElem?_toArray, List.getElem?_cons_zero, List.getElem?_cons_succ]; rfl
                case hd29 => rfl
                case hQ29 => exact fun _ _ _ h => h
                case hy29 => exact Or.inr ⟨by rfl, rfl⟩
                simp only [List.setIfInBounds_toArray, List.set_cons_zero, List.set_cons_succ]
                refine anyE_tk 27 69 (oi := ?oi30) (v := undef) ?hi30 ?hd30 (by kernel_rfl) (by kernel_rfl) (by kernel_rfl) ?hQ30 ?hy30 hS ?rest30
                case hi30 => simp only [List.getElem?_toArray, List.getElem?_cons_zero, List.getElem?_cons_succ]; rfl
                case hd30 => rfl
                case hQ30 => exact fun _ _ _ h => h
                case hy30 => exact Or.inr ⟨by rfl, rfl⟩
                simp only [List.setIfInBounds_toArray, List.set_cons_zero, List.set_cons_succ]
                refine anyE_tk 28 70 (oi := ?oi31) (v := undef) ?hi31 ?hd31 (by kernel_rfl) (by kernel_rfl) (by kernel_rfl) ?hQ31 ?hy31 hS ?rest31
                case hi31 => simp only [List.getElem?_toArray, List.getElem?_cons_zero, List.getElem?_cons_succ]; rfl
                case hd31 => rfl
                case hQ31 => exact fun _ _ _ h => h
                case hy31 => exact Or.inr ⟨by rfl, rfl⟩
                simp only [List.setIfInBounds_toArray, List.set_cons_zero, List.set_cons_succ]
                refine anyE_tk 29 71 (oi := ?oi32) (v := ?v32) ?hi32 ?hd32 (by kernel_rfl) (by kernel_rfl) (by kernel_rfl) ?hQ32 ?hy32 hS ?rest32
                case hi32 => simp only [List.getElem?_toArray, List.getElem?_cons_zero, List.getElem?_cons_succ]; rfl
                case hd32 => rfl
                case hQ32 => exact fun _ _ _ h => h
                case hy32 => (refine Or.inl ⟨by rfl, ?_⟩; intro w hSw; (try dsimp only at hSw); go_simp; try with_reducible rfl)
                simp only [List.setIfInBounds_toArray, List.set_cons_zero, List.set_cons_succ]
                refine anyE_done (by kernel_rfl) ?_ _
                clear hS
                go_wp2_with fail
                go_roundw
                case rel => exact ⟨j + 1, by omega, by push_cast; rfl, by rw [Hss.out], HBx.out.trans (HBc.out.mono HBx.out.size)⟩
                case measure => simp [intOf]; omega
              case step7 =>
                go_simp
                have H47 := Lib.hid (Blk.new W43 3 #[.int .i64 ((j : Int) + 1)])
                have hx : (World.heap W43).size ≠ x43 := fun e => by have := (H43.out.lt x43 rfl).2; omega
                have H43 := Lib.hid (H43.out.alloc (.cells #[.int .i64 ((j : Int) + 1)] 3))
                have HBc := Lib.hid (HBc.out.alloc HBc.out.size (.cells #[.int .i64 ((j : Int) + 1)] 3))
                generalize World.alloc W43 (.cells #[.int .i64 ((j : Int) + 1)] 3) = W47 at H47 HBc H43 ⊢
                generalize (World.heap W43).size = x47 at H47 hx ⊢
                refine hK.out _ _ (fun _ => Keep.out _ HBc.out) ?_
                clear hK K
                try simp only [Act.put, List.setIfInBounds_toArray, List.set_cons_zero, List.set_cons_succ]
                refine anyE_one (i := 3) (o := ?oi33) (by kernel_rfl) ?hi33 (fun K hK => ?step33)
                case hi33 => simp only [List.getElem?_toArray, List.getElem?_cons_zero, List.getElem?_cons_succ]; rfl
                refine step_app' _ (by rfl) (.tmp 43) (.tmp 44) 28 (by rfl) wr.heap.size 3 j0 _ 1 8 Try.underlying28 hj hy0 hy1 hy2 (by rfl) (by decide) (.slice (some ⟨x43, 0, none⟩) 0 0) 0 [] (by rfl) H43.out (some ⟨bt, ot, none⟩) (k + 1) c3 ((intL (rdT f n first k)).map (Value.int .i64)) (by rfl) (by rw [List.length_map, intL_length, Hlen.out, Nat.mul_one]) (fun e => by cases e) (IntsAt.news (HIt3.out.below HBc.out HBc.out.size)) (ints_one _) (by omega) (by decide) HBc.out.size (k + 1) (by omega) ((intL (rdT f n first k)).map (Value.int .i64)) (by rfl) ?_
                intro A4 c4 W45 hown4 hg4 hlow4
                have H45 := Lib.hid hown4
                have H47 := Lib.hid (H47.out.grown hg4 (by simpa [Value.ownBlock] using hx))
                have HBc := Lib.hid (HBc.out.grown hg4 HBc.out.size hlow4)
                clear hown4 hg4 hlow4 H43
                refine hK.out _ _ (fun _ => Keep.out _ HBc.out) ?_
                clear hK K
                try simp only [Act.put, List.setIfInBounds_toArray, List.set_cons_zero, List.set_cons_succ]
                refine anyE_one (i := 6) (o := ?oi34) (by kernel_rfl) ?hi34 (fun K hK => ?step34)
                case hi34 => simp only [List.getElem?_toArray, List.getElem?_cons_zero, List.getElem?_cons_succ]; rfl
                refine step_app' _ (by rfl) (.tmp 45) (.tmp 47) 28 (by rfl) wr.heap.size 3 j0 _ 1 8 Try.underlying28 hj hy0 hy1 hy2 (by rfl) (by decide) (.slice A4 (k + 1) c4) (k + 1) ((intL (rdT f n first k)).map (Value.int .i64)) (by rfl) H45.out (some ⟨x47, 0, none⟩) 1 1 [.int .i64 ((j : Int) + 1)] (by rfl) (by rfl) (by simp) (news_blk (t := 3) (cs := #[.int .i64 ((j : Int) + 1)]) H47.out) (by simp [Value.oneCell']) (by omega) (by decide) HBc.out.size (k + 2) (by omega) ((intL (rdT f n first k ++ [j + 1])).map (Value.int .i64)) HSn.out ?_
                intro A5 c5 W48 hown5 hg5 hlow5
                have HI5 := Lib.hid (IntsAt.of_own (zs := intL (rdT f n first k ++ [j + 1])) (by rw [intL_length, List.length_append, Hlen.out]; exact hown5))
                have HBc := Lib.hid (HBc.out.grown hg5 HBc.out.size hlow5)
                clear hown5 hg5 hlow5 H45 H47
                refine hK.out _ _ (fun _ => Keep.out _ HBc.out) ?_
                clear hK K
                try simp only [Act.put, List.setIfInBounds_toArray, List.set_cons_zero, List.set_cons_succ]
                refine anyE_one (i := 7) (o := ?oi35) (by kernel_rfl) ?hi35 (fun K hK => ?step35)
                case hi35 => simp only [List.getElem?_toArray, List.getElem?_cons_zero, List.getElem?_cons_succ]; rfl
                go_simp
                refine (citj.out A5 c5 _ HI5.out).mono ?_
                rintro e W49 ⟨rfl, hd6⟩
                have HBc := Lib.hid (HBc.out.trans (hd6.mono HBc.out.size))
                clear hd6 HI5
                go_wp2_with fail
                refine hK.out _ _ (fun _ => Keep.out _ HBc.out) ?_
                clear hK K
                try simp only [Act.put, List.setIfInBounds_toArray, List.set_cons_zero, List.set_cons_succ]
                have hS := Keep.out _ HBc.out
                refine anyE_tk 8 50 (oi := ?oi36) (v := ?v36) ?hi36 ?hd36 (by kernel_rfl) (by kernel_rfl) (by kernel_rfl) ?hQ36 ?hy36 hS ?rest36
                case hi36 => simp only [List.getElem?_toArray, List.getElem?_cons_zero, List.getElem?_cons_succ]; rfl
                case hd36 => rfl
                case hQ36 => exact fun _ _ _ h => h
                case hy36 => (refine Or.inl ⟨by rfl, ?_⟩; intro w hSw; (try dsimp only at hSw); go_simp; try with_reducible rfl)
                simp only [List.setIfInBounds_toArray, List.set_cons_zero, List.set_cons_succ]
                refine anyE_tk 9 51 (oi := ?oi37) (v := ?v37) ?hi37 ?hd37 (by kernel_rfl) (by kernel_rfl) (by kernel_rfl) ?hQ37 ?hy37 hS ?rest37
                case hi37 => simp only [List.getElem?_toArray, List.getElem?_cons_zero, List.getElem?_cons_succ]; rfl
                case hd37 => rfl
                case hQ37 => exact fun _ _ _ h => h
                case hy37 => (refine Or.inl ⟨by rfl, ?_⟩; intro w hSw; (try dsimp only at hSw); go_simp; try with_reducible rfl)
                simp only [List.setIfInBounds_toArray, List.set_cons_zero, List.set_cons_succ]
                refine anyE_tk 10 52 (oi := ?oi38) (v := undef) ?hi38 ?hd38 (by kernel_rfl) (by kernel_rfl) (by kernel_rfl) ?hQ38 ?hy38 hS ?rest38
                case hi38 => simp only [List.getElem?_toArray, List.getElem?_cons_zero, List.getElem?_cons_succ]; rfl
                case hd38 => rfl
                case hQ38 => exact fun _ _ _ h => h
                case hy38 => exact Or.inr ⟨by rfl, rfl⟩
                simp only [List.setIfInBounds_toArray, List.set_cons_zero, List.set_cons_succ]
                refine anyE_tk 11 53 (oi := ?oi39) (v := undef) ?hi39 ?hd39 (by kernel_rfl) (by kernel_rfl) (by kernel_rfl) ?hQ39 ?hy39 hS ?rest39
                case hi39 => simp only [List.getElem?_toArray, List.getElem?_cons_zero, List.getElem?_cons_succ]; rfl
                case hd39 => rfl
                case hQ39 => exact fun _ _ _ h => h
                case hy39 => exact Or.inr ⟨by rfl, rfl⟩
                simp only [List.setIfInBounds_toArray, List.set_cons_zero, List.set_cons_succ]
                refine anyE_tk 12 54 (oi := ?oi40) (v := undef) ?hi40 ?hd40 (by kernel_rfl) (by kernel_rfl) (by kernel_rfl) ?hQ40 ?hy40 hS ?rest40
                case hi40 => simp only [List.getElem?_toArray, List.getElem?_cons_zero, List.getElem?_cons_succ]; rfl
                case hd40 => rfl
                case hQ40 => exact fun _ _ _ h => h
                case hy40 => exact Or.inr ⟨by rfl, rfl⟩
                simp only [List.setIfInBounds_toArray, List.set_cons_zero, List.set_cons_succ]
                refine anyE_tk 13 55 (oi := ?oi41) (v := undef) ?hi41 ?hd41 (by kernel_rfl) (by kernel_rfl) (by kernel_rfl) ?hQ41 ?hy41 hS ?rest41
                case hi41 => simp only [List.getElem?_toArray, List.getElem?_cons_zero, List.getElem?_cons_succ]; rfl
                case hd41 => rfl
                case hQ41 => exact fun _ _ _ h => h
                case hy41 => exact Or.inr ⟨by rfl, rfl⟩
                simp only [List.setIfInBounds_toArray, List.set_cons_zero, List.set_cons_succ]
                refine anyE_tk 14 56 (oi := ?oi42) (v := undef) ?hi42 ?hd42 (by kernel_rfl) (by kernel_rfl) (by kernel_rfl) ?hQ42 ?hy42 hS ?rest42
                case hi42 => simp only [List.getElem?_toArray, List.getElem?_cons_zero, List.getElem?_cons_succ]; rfl
                case hd42 => rfl
                case hQ42 => exact fun _ _ _ h => h
                case hy42 => exact Or.inr ⟨by rfl, rfl⟩
                simp only [List.setIfInBounds_toArray, List.set_cons_zero, List.set_cons_succ]
                refine anyE_tk 15 57 (oi := ?oi43) (v := undef) ?hi43 ?hd43 (by kernel_rfl) (by kernel_rfl) (by kernel_rfl) ?hQ43 ?hy43 hS ?rest43
                case hi43 => simp only [List.getElem?_toArray, List.getElem?_cons_zero, List.getElem?_cons_succ]; rfl
                case hd43 => rfl
                case hQ43 => exact fun _ _ _ h => h
                case hy43 => exact Or.inr ⟨by rfl, rfl⟩
                simp only [List.setIfInBounds_toArray, List.set_cons_zero, List.set_cons_succ]
                refine anyE_tk 16 58 (oi := ?oi44) (v := undef) ?hi44 ?hd44 (by kernel_rfl) (by kernel_rfl) (by kernel_rfl) ?hQ44 ?hy44 hS ?rest44
                case hi44 => simp only [List.getElem?_toArray, List.getElem?_cons_zero, List.getElem?_cons_succ]; rfl
                case hd44 => rfl
                case hQ44 => exact fun _ _ _ h => h
                case hy44 => exact Or.inr ⟨by rfl, rfl⟩
                simp only [List.setIfInBounds_toArray, List.set_cons_zero, List.set_cons_succ]
                refine anyE_tk 17 59 (oi := ?oi45) (v := undef) ?hi45 ?hd45 (by kernel_rfl) (by kernel_rfl) (by kernel_rfl) ?hQ45 ?hy45 hS ?rest45
                case hi45 => simp only [List.getElem?_toArray, List.getElem?_cons_zero, List.getElem?_cons_succ]; rfl
                case hd45 => rfl
                case hQ45 => exact fun _ _ _ h => h
                case hy45 => exact Or.inr ⟨by rfl, rfl⟩
                simp only [List.setIfInBounds_toArray, List.set_cons_zero, List.set_cons_succ]
                refine anyE_tk 18 60 (oi := ?oi46) (v := undef) ?hi46 ?hd46 (by kernel_rfl) (by kernel_rfl) (by kernel_rfl) ?hQ46 ?hy46 hS ?rest46
                case hi46 => simp only [List.getElem?_toArray, List.getElem?_cons_zero, List.getElem?_cons_succ]; rfl
                case hd46 => rfl
                case hQ46 => exact fun _ _ _ h => h
                case hy46 => exact Or.inr ⟨by rfl, rfl⟩
                simp only [List.setIfInBounds_toArray, List.set_cons_zero, List.set_cons_succ]
                refine anyE_tk 19 61 (oi := ?oi47) (v := undef) ?hi47 ?hd47 (by kernel_rfl) (by kernel_rfl) (by kernel_rfl) ?hQ47 ?hy47 hS ?rest47
                case hi47 => simp only [List.getElem?_toArray, List.getElem?_cons_zero, List.getElem?_cons_succ]; rfl
                case hd47 => rfl
                case hQ47 => exact fun _ _ _ h => h
                case hy47 => exact Or.inr ⟨by rfl, rfl⟩
                simp only [List.setIfInBounds_toArray, List.set_cons_zero, List.set_cons_succ]
                refine anyE_tk 20 62 (oi := ?oi48) (v := undef) ?hi48 ?hd48 (by kernel_rfl) (by kernel_rfl) (by kernel_rfl) ?hQ48 ?hy48 hS ?rest48
                case hi48 => simp only [List.getElem?_toArray, List.getElem?_cons_zero, List.getElem?_cons_succ]; rfl
                case hd48 => rfl
                case hQ48 => exact fun _ _ _ h => h
                case hy48 => exact Or.inr ⟨by rfl, rfl⟩
                simp only [List.setIfInBounds_toArray, List.set_cons_zero, List.set_cons_succ]
                refine anyE_tk 21 63 (oi := ?oi49) (v := undef) ?hi49 ?hd49 (by kernel_rfl) (by kernel_rfl) (by kernel_rfl) ?hQ49 ?hy49 hS ?rest49
                case hi49 => simp only [List.getElem?_toArray, List.getElem?_cons_zero, List.getElem?_cons_succ]; rfl
                case hd49 => rfl
                case hQ49 => exact fun _ _ _ h => h
                case hy49 => exact Or.inr ⟨by rfl, rfl⟩
                simp only [List.setIfInBounds_toArray, List.set_cons_zero, List.set_cons_succ]
                refine anyE_tk 22 64 (oi := ?oi50) (v := undef) ?hi50 ?hd50 (by kernel_rfl) (by kernel_rfl) (by kernel_rfl) ?hQ50 ?hy50 hS ?rest50
                case hi50 => simp only [List.getElem?_toArray, List.getElem?_cons_zero, List.getElem?_cons_succ]; rfl
                case hd50 => rfl
                case hQ50 => exact fun _ _ _ h => h
                case hy50 => exact Or.inr ⟨by rfl, rfl⟩
                simp only [List.setIfInBounds_toArray, List.set_cons_zero, List.set_cons_succ]
                refine anyE_tk 23 65 (oi := ?oi51) (v := undef) ?hi51 ?hd51 (by kernel_rfl) (by kernel_rfl) (by kernel_rfl) ?hQ51 ?hy51 hS ?rest51
                case hi51 => simp only [List.getElem?_toArray, List.getElem?_cons_zero, List.getElem?_cons_succ]; rfl
                case hd51 => rfl
                case hQ51 => exact fun _ _ _ h => h
                case hy51 => exact Or.inr ⟨by rfl, rfl⟩
                simp only [List.setIfInBounds_toArray, List.set_cons_zero, List.set_cons_succ]
                refine anyE_tk 24 66 (oi := ?oi52) (v := undef) ?hi52 ?hd52 (by kernel_rfl) (by kernel_rfl) (by kernel_rfl) ?hQ52 ?hy52 hS ?rest52
                case hi52 => simp only [List.getElem?_toArray, List.getElem?_cons_zero, List.getElem?_cons_succ]; rfl
                case hd52 => rfl
                case hQ52 => exact fun _ _ _ h => h
                case hy52 => exact Or.inr ⟨by rfl, rfl⟩
                simp only [List.setIfInBounds_toArray, List.set_cons_zero, List.set_cons_succ]
                refine anyE_tk 25 67 (oi := ?oi53) (v := undef) ?hi53 ?hd53 (by kernel_rfl) (by kernel_rfl) (by kernel_rfl) ?hQ53 ?hy53 hS ?rest53
                case hi53 => simp only [List.getElem?_toArray, List.getElem?_cons_zero, List.getElem?_cons_succ]; rfl
                case hd53 => rfl
                case hQ53 => exact fun _ _ _ h => h
                case hy53 => exact Or.inr ⟨by rfl, rfl⟩
                simp only [List.setIfInBounds_toArray, List.set_cons_zero, List.set_cons_succ]
                refine anyE_tk 26 68 (oi := ?oi54) (v := undef) ?hi54 ?hd54 (by kernel_rfl) (by kernel_rfl) (by kernel_rfl) ?hQ54 ?hy54 hS ?rest54
                case hi54 => simp only [List.getElem?_toArray, List.getElem?_cons_zero, List.getElem?_cons_succ]; rfl
                case hd54 => rfl
                case hQ54 => exact fun _ _ _ h => h
                case hy54 => exact Or.inr ⟨by rfl, rfl⟩
                simp only [List.setIfInBounds_toArray, List.set_cons_zero, List.set_cons_succ]
                refine anyE_tk 27 69 (oi := ?oi55) (v := undef) ?hi55 ?hd55 (by kernel_rfl) (by kernel_rfl) (by kernel_rfl) ?hQ55 ?hy55 hS ?rest55
                case hi55 => simp only [List.getElem?_toArray, List.getElem?_cons_zero, List.getElem?_cons_succ]; rfl
                case hd55 => rfl
                case hQ55 => exact fun _ _ _ h => h
                case hy55 => exact Or.inr ⟨by rfl, rfl⟩
                simp only [List.setIfInBounds_toArray, List.set_cons_zero, List.set_cons_succ]
                refine anyE_tk 28 70 (oi := ?oi56) (v := undef) ?hi56 ?hd56 (by kernel_rfl) (by kernel_rfl) (by kernel_rfl) ?hQ56 ?hy56 hS ?rest56
                case hi56 => simp only [List.getElem?_toArray, List.getElem?_cons_zero, List.getElem?_cons_succ]; rfl
                case hd56 => rfl
                case hQ56 => exact fun _ _ _ h => h
                case hy56 => exact Or.inr ⟨by rfl, rfl⟩
                simp only [List.setIfInBounds_toArray, List.set_cons_zero, List.set_cons_succ]
                refine anyE_tk 29 71 (oi := ?oi57) (v := ?v57) ?hi57 ?hd57 (by kernel_rfl) (by kernel_rfl) (by kernel_rfl) ?hQ57 ?hy57 hS ?rest57
                case hi57 => simp only [List.getElem?_toArray, List.getElem?_cons_zero, List.getElem?_cons_succ]; rfl
                case hd57 => rfl
                case hQ57 => exact fun _ _ _ h => h
                case hy57 => (refine Or.inl ⟨by rfl, ?_⟩; intro w hSw; (try dsimp only at hSw); go_simp; try with_reducible rfl)
                simp only [List.setIfInBounds_toArray, List.set_cons_zero, List.set_cons_succ]
                refine anyE_done (by kernel_rfl) ?_ _
                clear hS
                go_wp2_with fail
                go_roundw
                case rel => exact ⟨j + 1, by omega, by push_cast; rfl, by rw [Hss.out], HBx.out.trans (HBc.out.mono HBx.out.size)⟩
                case measure => simp [intOf]; omega
            case step5 =>
              go_simp
              have H47 := Lib.hid (Blk.new W0 3 #[.int .i64 ((j : Int) + 1)])
              have HBc := Lib.hid (HBc.out.alloc HBc.out.size (.cells #[.int .i64 ((j : Int) + 1)] 3))
              generalize World.alloc W0 (.cells #[.int .i64 ((j : Int) + 1)] 3) = W47 at H47 HBc ⊢
              generalize (World.heap W0).size = x47 at H47 ⊢
              refine hK.out _ _ (fun _ => Keep.out _ HBc.out) ?_
              clear hK K
              try simp only [Act.put, List.setIfInBounds_toArray, List.set_cons_zero, List.set_cons_succ]
              refine anyE_one (i := 1) (o := ?oi58) (by kernel_rfl) ?hi58 (fun K hK => ?step58)
              case hi58 => simp only [List.getElem?_toArray, List.getElem?_cons_zero, List.getElem?_cons_succ]; rfl
              go_simp
              have H43 := Lib.hid (show (World.alloc W47 (.cells #[] 3)).ownsRow wr.heap.size 3 1 (.slice (some ⟨(World.heap W47).size, 0, none⟩) 0 0) 0 [] from own_base (own_new 1 (Nat.le_refl _)) HBc.out.size)
              have hx : x47 ≠ (World.heap W47).size := Nat.ne_of_lt H47.out.lt
              have H47 := Lib.hid (H47.out.alloc (.cells #[] 3))
              have HBc := Lib.hid (HBc.out.alloc HBc.out.size (.cells #[] 3))
              generalize World.alloc W47 (.cells #[] 3) = W43 at H43 HBc H47 ⊢
              generalize (World.heap W47).size = x43 at H43 hx ⊢
              refine hK.out _ _ (fun _ => Keep.out _ HBc.out) ?_
              clear hK K
              try simp only [Act.put, List.setIfInBounds_toArray, List.set_cons_zero, List.set_cons_succ]
              refine anyE_one (i := 3) (o := ?oi59) (by kernel_rfl) ?hi59 (fun K hK => ?step59)
              case hi59 => simp only [List.getElem?_toArray, List.getElem?_cons_zero, List.getElem?_cons_succ]; rfl
              refine step_app' _ (by rfl) (.tmp 43) (.tmp 44) 28 (by rfl) wr.heap.size 3 j0 _ 1 8 Try.underlying28 hj hy0 hy1 hy2 (by rfl) (by decide) (.slice (some ⟨x43, 0, none⟩) 0 0) 0 [] (by rfl) H43.out (some ⟨bt, ot, none⟩) (k + 1) c3 ((intL (rdT f n first k)).map (Value.int .i64)) (by rfl) (by rw [List.length_map, intL_length, Hlen.out, Nat.mul_one]) (fun e => by cases e) (IntsAt.news (HIt3.out.below HBc.out HBc.out.size)) (ints_one _) (by omega) (by decide) HBc.out.size (k + 1) (by omega) ((intL (rdT f n first k)).map (Value.int .i64)) (by rfl) ?_
              intro A4 c4 W45 hown4 hg4 hlow4
              have H45 := Lib.hid hown4
              have H47 := Lib.hid (H47.out.grown hg4 (by simpa [Value.ownBlock] using hx))
              have HBc := Lib.hid (HBc.out.grown hg4 HBc.out.size hlow4)
              clear hown4 hg4 hlow4 H43
              refine hK.out _ _ (fun _ => Keep.out _ HBc.out) ?_
              clear hK K
              try simp only [Act.put, List.setIfInBounds_toArray, List.set_cons_zero, List.set_cons_succ]
              refine anyE_one (i := 6) (o := ?oi60) (by kernel_rfl) ?hi60 (fun K hK => ?step60)
              case hi60 => simp only [List.getElem?_toArray, List.getElem?_cons_zero, List.getElem?_cons_succ]; rfl
              refine step_app' _ (by rfl) (.tmp 45) (.tmp 47) 28 (by rfl) wr.heap.size 3 j0 _ 1 8 Try.underlying28 hj hy0 hy1 hy2 (by rfl) (by decide) (.slice A4 (k + 1) c4) (k + 1) ((intL (rdT f n first k)).map (Value.int .i64)) (by rfl) H45.out (some ⟨x47, 0, none⟩) 1 1 [.int .i64 ((j : Int) + 1)] (by rfl) (by rfl) (by simp) (news_blk (t := 3) (cs := #[.int .i64 ((j : Int) + 1)]) H47.out) (by simp [Value.oneCell']) (by omega) (by decide) HBc.out.size (k + 2) (by omega) ((intL (rdT f n first k ++ [j + 1])).map (Value.int .i64)) HSn.out ?_
              intro A5 c5 W48 hown5 hg5 hlow5
              have HI5 := Lib.hid (IntsAt.of_own (zs := intL (rdT f n first k ++ [j + 1])) (by rw [intL_length, List.length_append, Hlen.out]; exact hown5))
              have HBc := Lib.hid (HBc.out.grown hg5 HBc.out.size hlow5)
              clear hown5 hg5 hlow5 H45 H47
              refine hK.out _ _ (fun _ => Keep.out _ HBc.out) ?_
              clear hK K
              try simp only [Act.put, List.setIfInBounds_toArray, List.set_cons_zero, List.set_cons_succ]
              refine anyE_one (i := 7) (o := ?oi61) (by kernel_rfl) ?hi61 (fun K hK => ?step61)
              case hi61 => simp only [List.getElem?_toArray, List.getElem?_cons_zero, List.getElem?_cons_succ]; rfl
              go_simp
              refine (citj.out A5 c5 _ HI5.out).mono ?_
              rintro e W49 ⟨rfl, hd6⟩
              have HBc := Lib.hid (HBc.out.trans (hd6.mono HBc.out.size))
              clear hd6 HI5
              go_wp2_with fail
              refine hK.out _ _ (fun _ => Keep.out _ HBc.out) ?_
              clear hK K
              try simp only [Act.put, List.setIfInBounds_toArray, List.set_cons_zero, List.set_cons_succ]
              have hS := Keep.out _ HBc.out
              refine anyE_tk 8 50 (oi := ?oi62) (v := ?v62) ?hi62 ?hd62 (by kernel_rfl) (by kernel_rfl) (by kernel_rfl) ?hQ62 ?hy62 hS ?rest62
              case hi62 => simp only [List.getElem?_toArray, List.getElem?_cons_zero, List.getElem?_cons_succ]; rfl
              case hd62 => rfl
              case hQ62 => exact fun _ _ _ h => h
              case hy62 => (refine Or.inl ⟨by rfl, ?_⟩; intro w hSw; (try dsimp only at hSw); go_simp; try with_reducible rfl)
              simp only [List.setIfInBounds_toArray, List.set_cons_zero, List.set_cons_succ]
              refine anyE_tk 9 51 (oi := ?oi63) (v := ?v63) ?hi63 ?hd63 (by kernel_rfl) (by kernel_rfl) (by kernel_rfl) ?hQ63 ?hy63 hS ?rest63
              case hi63 => simp only [List.getElem?_toArray, List.getElem?_cons_zero, List.getElem?_cons_succ]; rfl
              case hd63 => rfl
              case hQ63 => exact fun _ _ _ h => h
              case hy63 => (refine Or.inl ⟨by rfl, ?_⟩; intro w hSw; (try dsimp only at hSw); go_simp; try with_reducible rfl)
              simp only [List.setIfInBounds_toArray, List.set_cons_zero, List.set_cons_succ]
              refine anyE_tk 10 52 (oi := ?oi64) (v := undef) ?hi64 ?hd64 (by kernel_rfl) (by kernel_rfl) (by kernel_rfl) ?hQ64 ?hy64 hS ?rest64
              case hi64 => simp only [List.getElem?_toArray, List.getElem?_cons_zero, List.getElem?_cons_succ]; rfl
              case hd64 => rfl
              case hQ64 => exact fun _ _ _ h => h
              case hy64 => exact Or.inr ⟨by rfl, rfl⟩
              simp only [List.setIfInBounds_toArray, List.set_cons_zero, List.set_cons_succ]
              refine anyE_tk 11 53 (oi := ?oi65) (v := undef) ?hi65 ?hd65 (by kernel_rfl) (by kernel_rfl) (by kernel_rfl) ?hQ65 ?hy65 hS ?rest65
              case hi65 => simp only [List.getElem?_toArray, List.getElem?_cons_zero, List.getElem?_cons_succ]; rfl
              case hd65 => rfl
              case hQ65 => exact fun _ _ _ h => h
              case hy65 => exact Or.inr ⟨by rfl, rfl⟩
              simp only [List.setIfInBounds_toArray, List.set_cons_zero, List.set_cons_succ]
              refine anyE_tk 12 54 (oi := ?oi66) (v := undef) ?hi66 ?hd66 (by kernel_rfl) (by kernel_rfl) (by kernel_rfl) ?hQ66 ?hy66 hS ?rest66
              case hi66 => simp only [List.getElem?_toArray, List.getElem?_cons_zero, List.getElem?_cons_succ]; rfl
              case hd66 => rfl
              case hQ66 => exact fun _ _ _ h => h
              case hy66 => exact Or.inr ⟨by rfl, rfl⟩
              simp only [List.setIfInBounds_toArray, List.set_cons_zero, List.set_cons_succ]
              refine anyE_tk 13 55 (oi := ?oi67) (v := undef) ?hi67 ?hd67 (by kernel_rfl) (by kernel_rfl) (by kernel_rfl) ?hQ67 ?hy67 hS ?rest67
              case hi67 => simp only [List.getElem?_toArray, List.getElem?_cons_zero, List.getElem?_cons_succ]; rfl
              case hd67 => rfl
              case hQ67 => exact fun _ _ _ h => h
              case hy67 => exact Or.inr ⟨by rfl, rfl⟩
              simp only [List.setIfInBounds_toArray, List.set_cons_zero, List.set_cons_succ]
              refine anyE_tk 14 56 (oi := ?oi68) (v := undef) ?hi68 ?hd68 (by kernel_rfl) (by kernel_rfl) (by kernel_rfl) ?hQ68 ?hy68 hS ?rest68
              case hi68 => simp only [List.getElem?_toArray, List.getElem?_cons_zero, List.getElem?_cons_succ]; rfl
              case hd68 => rfl
              case hQ68 => exact fun _ _ _ h => h
              case hy68 => exact Or.inr ⟨by rfl, rfl⟩
              simp only [List.setIfInBounds_toArray, List.set_cons_zero, List.set_cons_succ]
              refine anyE_tk 15 57 (oi := ?oi69) (v := undef) ?hi69 ?hd69 (by kernel_rfl) (by kernel_rfl) (by kernel_rfl) ?hQ69 ?hy69 hS ?rest69
              case hi69 => simp only [List.getElem?_toArray, List.getElem?_cons_zero, List.getElem?_cons_succ]; rfl
              case hd69 => rfl
              case hQ69 => exact fun _ _ _ h => h
              case hy69 => exact Or.inr ⟨by rfl, rfl⟩
              simp only [List.setIfInBounds_toArray, List.set_cons_zero, List.set_cons_succ]
              refine anyE_tk 16 58 (oi := ?oi70) (v := undef) ?hi70 ?hd70 (by kernel_rfl) (by kernel_rfl) (by kernel_rfl) ?hQ70 ?hy70 hS ?rest70
              case hi70 => simp only [List.getElem?_toArray, List.getElem?_cons_zero, List.getElem?_cons_succ]; rfl
              case hd70 => rfl
              case hQ70 => exact fun _ _ _ h => h
              case hy70 => exact Or.inr ⟨by rfl, rfl⟩
              simp only [List.setIfInBounds_toArray, List.set_cons_zero, List.set_cons_succ]
              refine anyE_tk 17 59 (oi := ?oi71) (v := undef) ?hi71 ?hd71 (by kernel_rfl) (by kernel_rfl) (by kernel_rfl) ?hQ71 ?hy71 hS ?rest71
              case hi71 => simp only [List.getElem?_toArray, List.getElem?_cons_zero, List.getElem?_cons_succ]; rfl
              case hd71 => rfl
              case hQ71 => exact fun _ _ _ h => h
              case hy71 => exact Or.inr ⟨by rfl, rfl⟩
              simp only [List.setIfInBounds_toArray, List.set_cons_zero, List.set_cons_succ]
              refine anyE_tk 18 60 (oi := ?oi72) (v := undef) ?hi72 ?hd72 (by kernel_rfl) (by kernel_rfl) (by kernel_rfl) ?hQ72 ?hy72 hS ?rest72
              case hi72 => simp only [List.getElem?_toArray, List.getElem?_cons_zero, List.getElem?_cons_succ]; rfl
              case hd72 => rfl
              case hQ72 => exact fun _ _ _ h => h
              case hy72 => exact Or.inr ⟨by rfl, rfl⟩
              simp only [List.setIfInBounds_toArray, List.set_cons_zero, List.set_cons_succ]
              refine anyE_tk 19 61 (oi := ?oi73) (v := undef) ?hi73 ?hd73 (by kernel_rfl) (by kernel_rfl) (by kernel_rfl) ?hQ73 ?hy73 hS ?rest73
              case hi73 => simp only [List.getElem?_toArray, List.getElem?_cons_zero, List.getElem?_cons_succ]; rfl
              case hd73 => rfl
              case hQ73 => exact fun _ _ _ h => h
              case hy73 => exact Or.inr ⟨by rfl, rfl⟩
              simp only [List.setIfInBounds_toArray, List.set_cons_zero, List.set_cons_succ]
              refine anyE_tk 20 62 (oi := ?oi74) (v := undef) ?hi74 ?hd74 (by kernel_rfl) (by kernel_rfl) (by kernel_rfl) ?hQ74 ?hy74 hS ?rest74
              case hi74 => simp only [List.getElem?_toArray, List.getElem?_cons_zero, List.getElem?_cons_succ]; rfl
              case hd74 => rfl
              case hQ74 => exact fun _ _ _ h => h
              case hy74 => exact Or.inr ⟨by rfl, rfl⟩
              simp only [List.setIfInBounds_toArray, List.set_cons_zero, List.set_cons_succ]
              refine anyE_tk 21 63 (oi := ?oi75) (v := undef) ?hi75 ?hd75 (by kernel_rfl) (by kernel_rfl) (by kernel_rfl) ?hQ75 ?hy75 hS ?rest75
              case hi75 => simp only [List.getElem?_toArray, List.getElem?_cons_zero, List.getElem?_cons_succ]; rfl
              case hd75 => rfl
              case hQ75 => exact fun _ _ _ h => h
              case hy75 => exact Or.inr ⟨by rfl, rfl⟩
              simp only [List.setIfInBounds_toArray, List.set_cons_zero, List.set_cons_succ]
              refine anyE_tk 22 64 (oi := ?oi76) (v := undef) ?hi76 ?hd76 (by kernel_rfl) (by kernel_rfl) (by kernel_rfl) ?hQ76 ?hy76 hS ?rest76
              case hi76 => simp only [List.getElem?_toArray, List.getElem?_cons_zero, List.getElem?_cons_succ]; rfl
              case hd76 => rfl
              case hQ76 => exact fun _ _ _ h => h
              case hy76 => exact Or.inr ⟨by rfl, rfl⟩
              simp only [List.setIfInBounds_toArray, List.set_cons_zero, List.set_cons_succ]
              refine anyE_tk 23 65 (oi := ?oi77) (v := undef) ?hi77 ?hd77 (by kernel_rfl) (by kernel_rfl) (by kernel_rfl) ?hQ77 ?hy77 hS ?rest77
              case hi77 => simp only [List.getElem?_toArray, List.getElem?_cons_zero, List.getElem?_cons_succ]; rfl
              case hd77 => rfl
              case hQ77 => exact fun _ _ _ h => h
              case hy77 => exact Or.inr ⟨by rfl, rfl⟩
              simp only [List.setIfInBounds_toArray, List.set_cons_zero, List.set_cons_succ]
              refine anyE_tk 24 66 (oi := ?oi78) (v := undef) ?hi78 ?hd78 (by kernel_rfl) (by kernel_rfl) (by kernel_rfl) ?hQ78 ?hy78 hS ?rest78
              case hi78 => simp only [List.getElem?_toArray, List.getElem?_cons_zero, List.getElem?_cons_succ]; rfl
              case hd78 => rfl
              case hQ78 => exact fun _ _ _ h => h
              case hy78 => exact Or.inr ⟨by rfl, rfl⟩
              simp only [List.setIfInBounds_toArray, List.set_cons_zero, List.set_cons_succ]
              refine anyE_tk 25 67 (oi := ?oi79) (v := undef) ?hi79 ?hd79 (by kernel_rfl) (by kernel_rfl) (by kernel_rfl) ?hQ79 ?hy79 hS ?rest79
              case hi79 => simp only [List.getElem?_toArray, List.getElem?_cons_zero, List.getElem?_cons_succ]; rfl
              case hd79 => rfl
              case hQ79 => exact fun _ _ _ h => h
              case hy79 => exact Or.inr ⟨by rfl, rfl⟩
              simp only [List.setIfInBounds_toArray, List.set_cons_zero, List.set_cons_succ]
              refine anyE_tk 26 68 (oi := ?oi80) (v := undef) ?hi80 ?hd80 (by kernel_rfl) (by kernel_rfl) (by kernel_rfl) ?hQ80 ?hy80 hS ?rest80
              case hi80 => simp only [List.getElem?_toArray, List.getElem?_cons_zero, List.getElem?_cons_succ]; rfl
              case hd80 => rfl
              case hQ80 => exact fun _ _ _ h => h
              case hy80 => exact Or.inr ⟨by rfl, rfl⟩
              simp only [List.setIfInBounds_toArray, List.set_cons_zero, List.set_cons_succ]
              refine anyE_tk 27 69 (oi := ?oi81) (v := undef) ?hi81 ?hd81 (by kernel_rfl) (by kernel_rfl) (by kernel_rfl) ?hQ81 ?hy81 hS ?rest81
              case hi81 => simp only [List.getElem?_toArray, List.getElem?_cons_zero, List.getElem?_cons_succ]; rfl
              case hd81 => rfl
              case hQ81 => exact fun _ _ _ h => h
              case hy81 => exact Or.inr ⟨by rfl, rfl⟩
              simp only [List.setIfInBounds_toArray, List.set_cons_zero, List.set_cons_succ]
              refine anyE_tk 28 70 (oi := ?oi82) (v := undef) ?hi82 ?hd82 (by kernel_rfl) (by kernel_rfl) (by kernel_rfl) ?hQ82 ?hy82 hS ?rest82
              case hi82 => simp only [List.getElem?_toArray, List.getElem?_cons_zero, List.getElem?_cons_succ]; rfl
              case hd82 => rfl
              case hQ82 => exact fun _ _ _ h => h
              case hy82 => exact Or.inr ⟨by rfl, rfl⟩
              simp only [List.setIfInBounds_toArray, List.set_cons_zero, List.set_cons_succ]
              refine anyE_tk 29 71 (oi := ?oi83) (v := ?v83) ?hi83 ?hd83 (by kernel_rfl) (by kernel_rfl) (by kernel_rfl) ?hQ83 ?hy83 hS ?rest83
              case hi83 => simp only [List.getElem?_toArray, List.getElem?_cons_zero, List.getElem?_cons_succ]; rfl
              case hd83 => rfl
              case hQ83 => exact fun _ _ _ h => h
              case hy83 => (refine Or.inl ⟨by rfl, ?_⟩; intro w hSw; (try dsimp only at hSw); go_simp; try with_reducible rfl)
              simp only [List.setIfInBounds_toArray, List.set_cons_zero, List.set_cons_succ]
              refine anyE_done (by kernel_rfl) ?_ _
              clear hS
              go_wp2_with fail
              go_roundw
              case rel => exact ⟨j + 1, by omega, by push_cast; rfl, by rw [Hss.out], HBx.out.trans (HBc.out.mono HBx.out.size)⟩
              case measure => simp [intOf]; omega
          · rw [if_neg hin] at hss
            rw [htu.2 hin] at citj
            by_cases h0 : S j = 0
            · rw [if_pos (.inl h0)] at hss
              have Hss := Lib.hid (show bsR (S (j + 1)) = (j : Int) + 1 by rw [hss]; unfold bsR; rw [if_neg (by omega)]; omega)
              have hbs : bsR (S j) = -1 := by rw [h0]; rfl
              rw [hbs]
              clear hin hss htu h0 hbs
              go_wp2_with fail
              have Keep := Lib.hid (show ∀ W, Below wr.heap.size wr W → (Below wr.heap.size wr W) from fun W h => h)
              have HBc := Lib.hid (Below.refl wr.heap.size wr).drew
              refine wp_region_E (S := fun W => Below wr.heap.size wr W) (E := fun _ => false) (by kernel_rfl) ?_
              generalize wr.drew = W0 at HBc ⊢
              have hS := Keep.out _ HBc.out
              refine anyE_tk 0 42 (oi := ?oi84) (v := ?v84) ?hi84 ?hd84 (by kernel_rfl) (by kernel_rfl) (by kernel_rfl) ?hQ84 ?hy84 hS ?rest84
              case hi84 => simp only [List.getElem?_toArray, List.getElem?_cons_zero, List.getElem?_cons_succ]; rfl
              case hd84 => rfl
              case hQ84 => exact fun _ _ _ h => h
              case hy84 => (refine Or.inl ⟨by rfl, ?_⟩; intro w hSw; (try dsimp only at hSw); go_simp; try with_reducible rfl)
              simp only [List.setIfInBounds_toArray, List.set_cons_zero, List.set_cons_succ]
              refine anyE_tk 2 44 (oi := ?oi85) (v := ?v85) ?hi85 ?hd85 (by kernel_rfl) (by kernel_rfl) (by kernel_rfl) ?hQ85 ?hy85 hS ?rest85
              case hi85 => simp only [List.getElem?_toArray, List.getElem?_cons_zero, List.getElem?_cons_succ]; rfl
              case hd85 => rfl
              case hQ85 => exact fun _ _ _ h => h
              case hy85 => (refine Or.inl ⟨by rfl, ?_⟩; intro w hSw; (try dsimp only at hSw); go_simp; try with_reducible rfl)
              simp only [List.setIfInBounds_toArray, List.set_cons_zero, List.set_cons_succ]
              refine anyE_tk 4 46 (oi := ?oi86) (v := ?v86) ?hi86 ?hd86 (by kernel_rfl) (by kernel_rfl) (by kernel_rfl) ?hQ86 ?hy86 hS ?rest86
              case hi86 => simp only [List.getElem?_toArray, List.getElem?_cons_zero, List.getElem?_cons_succ]; rfl
              case hd86 => rfl
              case hQ86 => exact fun _ _ _ h => h
              case hy86 => (refine Or.inl ⟨by rfl, ?_⟩; intro w hSw; (try dsimp only at hSw); go_simp; try with_reducible rfl)
              simp only [List.setIfInBounds_toArray, List.set_cons_zero, List.set_cons_succ]
              clear hS
              refine anyE_two (i := 1) (j := 5) (oi := ?oi87) (oj := ?oj87) (by kernel_rfl) ?hi87 ?hj87 (fun K hK => ?step87) (fun K hK => ?step88)
              case hi87 => simp only [List.getElem?_toArray, List.getElem?_cons_zero, List.getElem?_cons_succ]; rfl
              case hj87 => simp only [List.getElem?_toArray, List.getElem?_cons_zero, List.getElem?_cons_succ]; rfl
              case step87 =>
                go_simp
                have H43 := Lib.hid (show (World.alloc W0 (.cells #[] 3)).ownsRow wr.heap.size 3 1 (.slice (some ⟨(World.heap W0).size, 0, none⟩) 0 0) 0 [] from own_base (own_new 1 (Nat.le_refl _)) HBc.out.size)
                have HBc := Lib.hid (HBc.out.alloc HBc.out.size (.cells #[] 3))
                generalize World.alloc W0 (.cells #[] 3) = W43 at H43 HBc ⊢
                generalize (World.heap W0).size = x43 at H43 ⊢
                refine hK.out _ _ (fun _ => Keep.out _ HBc.out) ?_
                clear hK K
                try simp only [Act.put, List.setIfInBounds_toArray, List.set_cons_zero, List.set_cons_succ]
                refine anyE_two (i := 3) (j := 5) (oi := ?oi89) (oj := ?oj89) (by kernel_rfl) ?hi89 ?hj89 (fun K hK => ?step89) (fun K hK => ?step90)
                case hi89 => simp only [List.getElem?_toArray, List.getElem?_cons_zero, List.getElem?_cons_succ]; rfl
                case hj89 => simp only [List.getElem?_toArray, List.getElem?_cons_zero, List.getElem?_cons_succ]; rfl
                case step89 =>
                  refine step_app' _ (by rfl) (.tmp 43) (.tmp 44) 28 (by rfl) wr.heap.size 3 j0 _ 1 8 Try.underlying28 hj hy0 hy1 hy2 (by rfl) (by decide) (.slice (some ⟨x43, 0, none⟩) 0 0) 0 [] (by rfl) H43.out (some ⟨bt, ot, none⟩) (k + 1) c3 ((intL (rdT f n first k)).map (Value.int .i64)) (by rfl) (by rw [List.length_map, intL_length, Hlen.out, Nat.mul_one]) (fun e => by cases e) (IntsAt.news (HIt3.out.below HBc.out HBc.out.size)) (ints_one _) (by omega) (by decide) HBc.out.size (k + 1) (by omega) ((intL (rdT f n first k)).map (Value.int .i64)) (by rfl) ?_
                  intro A4 c4 W45 hown4 hg4 hlow4
                  have H45 := Lib.hid hown4
                  have HBc := Lib.hid (HBc.out.grown hg4 HBc.out.size hlow4)
                  clear hown4 hg4 hlow4 H43
                  refine hK.out _ _ (fun _ => Keep.out _ HBc.out) ?_
                  clear hK K
                  try simp only [Act.put, List.setIfInBounds_toArray, List.set_cons_zero, List.set_cons_succ]
                  refine anyE_one (i := 5) (o := ?oi91) (by kernel_rfl) ?hi91 (fun K hK => ?step91)
                  case hi91 => simp only [List.getElem?_toArray, List.getElem?_cons_zero, List.getElem?_cons_succ]; rfl
                  go_simp
                  have H47 := Lib.hid (Blk.new W45 3 #[.int .i64 ((j : Int) + 1)])
                  have H45 := Lib.hid (H45.out.alloc (.cells #[.int .i64 ((j : Int) + 1)] 3))
                  have HBc := Lib.hid (HBc.out.alloc HBc.out.size (.cells #[.int .i64 ((j : Int) + 1)] 3))
                  generalize World.alloc W45 (.cells #[.int .i64 ((j : Int) + 1)] 3) = W47 at H47 HBc H45 ⊢
                  generalize (World.heap W45).size = x47 at H47 ⊢
                  refine hK.out _ _ (fun _ => Keep.out _ HBc.out) ?_
                  clear hK K
                  try simp only [Act.put, List.setIfInBounds_toArray, List.set_cons_zero, List.set_cons_succ]
                  refine anyE_one (i := 6) (o := ?oi92) (by kernel_rfl) ?hi92 (fun K hK => ?step92)
                  case hi92 => simp only [List.getElem?_toArray, List.getElem?_cons_zero, List.getElem?_cons_succ]; rfl
                  refine step_app' _ (by rfl) (.tmp 45) (.tmp 47) 28 (by rfl) wr.heap.size 3 j0 _ 1 8 Try.underlying28 hj hy0 hy1 hy2 (by rfl) (by decide) (.slice A4 (k + 1) c4) (k + 1) ((intL (rdT f n first k)).map (Value.int .i64)) (by rfl) H45.out (some ⟨x47, 0, none⟩) 1 1 [.int .i64 ((j : Int) + 1)] (by rfl) (by rfl) (by simp) (news_blk (t := 3) (cs := #[.int .i64 ((j : Int) + 1)]) H47.out) (by simp [Value.oneCell']) (by omega) (by decide) HBc.out.size (k + 2) (by omega) ((intL (rdT f n first k ++ [j + 1])).map (Value.int .i64)) HSn.out ?_
                  intro A5 c5 W48 hown5 hg5 hlow5
                  have HI5 := Lib.hid (IntsAt.of_own (zs := intL (rdT f n first k ++ [j + 1])) (by rw [intL_length, List.length_append, Hlen.out]; exact hown5))
                  have HBc := Lib.hid (HBc.out.grown hg5 HBc.out.size hlow5)
                  clear hown5 hg5 hlow5 H45 H47
                  refine hK.out _ _ (fun _ => Keep.out _ HBc.out) ?_
                  clear hK K
                  try simp only [Act.put, List.setIfInBounds_toArray, List.set_cons_zero, List.set_cons_succ]
                  refine anyE_one (i := 7) (o := ?oi93) (by kernel_rfl) ?hi93 (fun K hK => ?step93)
                  case hi93 => simp only [List.getElem?_toArray, List.getElem?_cons_zero, List.getElem?_cons_succ]; rfl
                  go_simp
                  refine (citj.out A5 c5 _ HI5.out).mono ?_
                  rintro e W49 ⟨rfl, hd6⟩
                  have HBc := Lib.hid (HBc.out.trans (hd6.mono HBc.out.size))
                  clear hd6 HI5
                  go_wp2_with fail
                  refine hK.out _ _ (fun _ => Keep.out _ HBc.out) ?_
                  clear hK K
                  try simp only [Act.put, List.setIfInBounds_toArray, List.set_cons_zero, List.set_cons_succ]
                  have hS := Keep.out _ HBc.out
                  refine anyE_tk 8 50 (oi := ?oi94) (v := ?v94) ?hi94 ?hd94 (by kernel_rfl) (by kernel_rfl) (by kernel_rfl) ?hQ94 ?hy94 hS ?rest94
                  case hi94 => simp only [List.getElem?_toArray, List.getElem?_cons_zero, List.getElem?_cons_succ]; rfl
                  case hd94 => rfl
                  case hQ94 => exact fun _ _ _ h => h
                  case hy94 => (refine Or.inl ⟨by rfl, ?_⟩; intro w hSw; (try dsimp only at hSw); go_simp; try with_reducible rfl)
                  simp only [List.setIfInBounds_toArray, List.set_cons_zero, List.set_cons_succ]
                  refine anyE_tk 9 51 (oi := ?oi95) (v := ?v95) ?hi95 ?hd95 (by kernel_rfl) (by kernel_rfl) (by kernel_rfl) ?hQ95 ?hy95 hS ?rest95
                  case hi95 => simp only [List.getElem?_toArray, List.getElem?_cons_zero, List.getElem?_cons_succ]; rfl
                  case hd95 => rfl
                  case hQ95 => exact fun _ _ _ h => h
                  case hy95 => (refine Or.inl ⟨by rfl, ?_⟩; intro w hSw; (try dsimp only at hSw); go_simp; try with_reducible rfl)
                  simp only [List.setIfInBounds_toArray, List.set_cons_zero, List.set_cons_succ]
                  refine anyE_tk 10 52 (oi := ?oi96) (v := ?v96) ?hi96 ?hd96 (by kernel_rfl) (by kernel_rfl) (by kernel_rfl) ?hQ96 ?hy96 hS ?rest96
                  case hi96 => simp only [List.getElem?_toArray, List.getElem?_cons_zero, List.getElem?_cons_succ]; rfl
                  case hd96 => rfl
                  case hQ96 => exact fun _ _ _ h => h
                  case hy96 => (refine Or.inl ⟨by rfl, ?_⟩; intro w hSw; (try dsimp only at hSw); go_simp; try with_reducible rfl)
                  simp only [List.setIfInBounds_toArray, List.set_cons_zero, List.set_cons_succ]
                  refine anyE_tk 11 53 (oi := ?oi97) (v := ?v97) ?hi97 ?hd97 (by kernel_rfl) (by kernel_rfl) (by kernel_rfl) ?hQ97 ?hy97 hS ?rest97
                  case hi97 => simp only [List.getElem?_toArray, List.getElem?_cons_zero, List.getElem?_cons_succ]; rfl
                  case hd97 => rfl
                  case hQ97 => exact fun _ _ _ h => h
                  case hy97 => (refine Or.inl ⟨by rfl, ?_⟩; intro w hSw; (try dsimp only at hSw); go_simp; try with_reducible rfl)
                  simp only [List.setIfInBounds_toArray, List.set_cons_zero, List.set_cons_succ]
                  refine anyE_tk 12 54 (oi := ?oi98) (v := ?v98) ?hi98 ?hd98 (by kernel_rfl) (by kernel_rfl) (by kernel_rfl) ?hQ98 ?hy98 hS ?rest98
                  case hi98 => simp only [List.getElem?_toArray, List.getElem?_cons_zero, List.getElem?_cons_succ]; rfl
                  case hd98 => rfl
                  case hQ98 => exact fun _ _ _ h => h
                  case hy98 => (refine Or.inl ⟨by rfl, ?_⟩; intro w hSw; (try dsimp only at hSw); go_simp; try with_reducible rfl)
                  simp only [List.setIfInBounds_toArray, List.set_cons_zero, List.set_cons_succ]
                  refine anyE_tk 13 55 (oi := ?oi99) (v := undef) ?hi99 ?hd99 (by kernel_rfl) (by kernel_rfl) (by kernel_rfl) ?hQ99 ?hy99 hS ?rest99
                  case hi99 => simp only [List.getElem?_toArray, List.getElem?_cons_zero, List.getElem?_cons_succ]; rfl
                  case hd99 => rfl
                  case hQ99 => exact fun _ _ _ h => h
                  case hy99 => exact Or.inr ⟨by rfl, rfl⟩
                  simp only [List.setIfInBounds_toArray, List.set_cons_zero, List.set_cons_succ]
                  refine anyE_tk 14 56 (oi := ?oi100) (v := undef) ?hi100 ?hd100 (by kernel_rfl) (by kernel_rfl) (by kernel_rfl) ?hQ100 ?hy100 hS ?rest100
                  case hi100 => simp only [List.getElem?_toArray, List.getElem?_cons_zero, List.getElem?_cons_succ]; rfl
                  case hd100 => rfl
                  case hQ100 => exact fun _ _ _ h => h
                  case hy100 => exact Or.inr ⟨by rfl, rfl⟩
                  simp only [List.setIfInBounds_toArray, List.set_cons_zero, List.set_cons_succ]
                  refine anyE_tk 15 57 (oi := ?oi101) (v := undef) ?hi101 ?hd101 (by kernel_rfl) (by kernel_rfl) (by kernel_rfl) ?hQ101 ?hy101 hS ?rest101
                  case hi101 => simp only [List.getElem?_toArray, List.getElem?_cons_zero, List.getElem?_cons_succ]; rfl
                  case hd101 => rfl
                  case hQ101 => exact fun _ _ _ h => h
                  case hy101 => exact Or.inr ⟨by rfl, rfl⟩
                  simp only [List.setIfInBounds_toArray, List.set_cons_zero, List.set_cons_succ]
                  refine anyE_tk 16 58 (oi := ?oi102) (v := undef) ?hi102 ?hd102 (by kernel_rfl) (by kernel_rfl) (by kernel_rfl) ?hQ102 ?hy102 hS ?rest102
                  case hi102 => simp only [List.getElem?_toArray, List.getElem?_cons_zero, List.getElem?_cons_succ]; rfl
                  case hd102 => rfl
                  case hQ102 => exact fun _ _ _ h => h
                  case hy102 => exact Or.inr ⟨by rfl, rfl⟩
                  simp only [List.setIfInBounds_toArray, List.set_cons_zero, List.set_cons_succ]
                  refine anyE_tk 17 59 (oi := ?oi103) (v := undef) ?hi103 ?hd103 (by kernel_rfl) (by kernel_rfl) (by kernel_rfl) ?hQ103 ?hy103 hS ?rest103
                  case hi103 => simp only [List.getElem?_toArray, List.getElem?_cons_zero, List.getElem?_cons_succ]; rfl
                  case hd103 => rfl
                  case hQ103 => exact fun _ _ _ h => h
                  case hy103 => exact Or.inr ⟨by rfl, rfl⟩
                  simp only [List.setIfInBounds_toArray, List.set_cons_zero, List.set_cons_succ]
                  refine anyE_tk 18 60 (oi := ?oi104) (v := undef) ?hi104 ?hd104 (by kernel_rfl) (by kernel_rfl) (by kernel_rfl) ?hQ104 ?hy104 hS ?rest104
                  case hi104 => simp only [List.getElem?_toArray, List.getElem?_cons_zero, List.getElem?_cons_succ]; rfl
                  case hd104 => rfl
                  case hQ104 => exact fun _ _ _ h => h
                  case hy104 => exact Or.inr ⟨by rfl, rfl⟩
                  simp only [List.setIfInBounds_toArray, List.set_cons_zero, List.set_cons_succ]
                  refine anyE_tk 19 61 (oi := ?oi105) (v := undef) ?hi105 ?hd105 (by kernel_rfl) (by kernel_rfl) (by kernel_rfl) ?hQ105 ?hy105 hS ?rest105
                  case hi105 => simp only [List.getElem?_toArray, List.getElem?_cons_zero, List.getElem?_cons_succ]; rfl
                  case hd105 => rfl
                  case hQ105 => exact fun _ _ _ h => h
                  case hy105 => exact Or.inr ⟨by rfl, rfl⟩
                  simp only [List.setIfInBounds_toArray, List.set_cons_zero, List.set_cons_succ]
                  refine anyE_tk 20 62 (oi := ?oi106) (v := undef) ?hi106 ?hd106 (by kernel_rfl) (by kernel_rfl) (by kernel_rfl) ?hQ106 ?hy106 hS ?rest106
                  case hi106 => simp only [List.getElem?_toArray, List.getElem?_cons_zero, List.getElem?_cons_succ]; rfl
                  case hd106 => rfl
                  case hQ106 => exact fun _ _ _ h => h
                  case hy106 => exact Or.inr ⟨by rfl, rfl⟩
                  simp only [List.setIfInBounds_toArray, List.set_cons_zero, List.set_cons_succ]
                  refine anyE_tk 21 63 (oi := ?oi107) (v := undef) ?hi107 ?hd107 (by kernel_rfl) (by kernel_rfl) (by kernel_rfl) ?hQ107 ?hy107 hS ?rest107
                  case hi107 => simp only [List.getElem?_toArray, List.getElem?_cons_zero, List.getElem?_cons_succ]; rfl
                  case hd107 => rfl
                  case hQ107 => exact fun _ _ _ h => h
                  case hy107 => exact Or.inr ⟨by rfl, rfl⟩
                  simp only [List.setIfInBounds_toArray, List.set_cons_zero, List.set_cons_succ]
                  refine anyE_tk 22 64 (oi := ?oi108) (v := undef) ?hi108 ?hd108 (by kernel_rfl) (by kernel_rfl) (by kernel_rfl) ?hQ108 ?hy108 hS ?rest108
                  case hi108 => simp only [List.getElem?_toArray, List.getElem?_cons_zero, List.getElem?_cons_succ]; rfl
                  case hd108 => rfl
                  case hQ108 => exact fun _ _ _ h => h
                  case hy108 => exact Or.inr ⟨by rfl, rfl⟩
                  simp only [List.setIfInBounds_toArray, List.set_cons_zero, List.set_cons_succ]
                  refine anyE_tk 23 65 (oi := ?oi109) (v := undef) ?hi109 ?hd109 (by kernel_rfl) (by kernel_rfl) (by kernel_rfl) ?hQ109 ?hy109 hS ?rest109
                  case hi109 => simp only [List.getElem?_toArray, List.getElem?_cons_zero, List.getElem?_cons_succ]; rfl
                  case hd109 => rfl
                  case hQ109 => exact fun _ _ _ h => h
                  case hy109 => exact Or.inr ⟨by rfl, rfl⟩
                  simp only [List.setIfInBounds_toArray, List.set_cons_zero, List.set_cons_succ]
                  refine anyE_tk 24 66 (oi := ?oi110) (v := undef) ?hi110 ?hd110 (by kernel_rfl) (by kernel_rfl) (by kernel_rfl) ?hQ110 ?hy110 hS ?rest110
                  case hi110 => simp only [List.getElem?_toArray, List.getElem?_cons_zero, List.getElem?_cons_succ]; rfl
                  case hd110 => rfl
                  case hQ110 => exact fun _ _ _ h => h
                  case hy110 => exact Or.inr ⟨by rfl, rfl⟩
                  simp only [List.setIfInBounds_toArray, List.set_cons_zero, List.set_cons_succ]
                  refine anyE_tk 25 67 (oi := ?oi111) (v := undef) ?hi111 ?hd111 (by kernel_rfl) (by kernel_rfl) (by kernel_rfl) ?hQ111 ?hy111 hS ?rest111
                  case hi111 => simp only [List.getElem?_toArray, List.getElem?_cons_zero, List.getElem?_cons_succ]; rfl
                  case hd111 => rfl
                  case hQ111 => exact fun _ _ _ h => h
                  case hy111 => exact Or.inr ⟨by rfl, rfl⟩
                  simp only [List.setIfInBounds_toArray, List.set_cons_zero, List.set_cons_succ]
                  refine anyE_tk 26 68 (oi := ?oi112) (v := undef) ?hi112 ?hd112 (by kernel_rfl) (by kernel_rfl) (by kernel_rfl) ?hQ112 ?hy112 hS ?rest112
                  case hi112 => simp only [List.getElem?_toArray, List.getElem?_cons_zero, List.getElem?_cons_succ]; rfl
                  case hd112 => rfl
                  case hQ112 => exact fun _ _ _ h => h
                  case hy112 => exact Or.inr ⟨by rfl, rfl⟩
                  simp only [List.setIfInBounds_toArray, List.set_cons_zero, List.set_cons_succ]
                  refine anyE_tk 27 69 (oi := ?oi113) (v := undef) ?hi113 ?hd113 (by kernel_rfl) (by kernel_rfl) (by kernel_rfl) ?hQ113 ?hy113 hS ?rest113
                  case hi113 => simp only [List.getElem?_toArray, List.getElem?_cons_zero, List.getElem?_cons_succ]; rfl
                  case hd113 => rfl
                  case hQ113 => exact fun _ _ _ h => h
                  case hy113 => exact Or.inr ⟨by rfl, rfl⟩
                  simp only [List.setIfInBounds_toArray, List.set_cons_zero, List.set_cons_succ]
                  refine anyE_tk 28 70 (oi := ?oi114) (v := ?v114) ?hi114 ?hd114 (by kernel_rfl) (by kernel_rfl) (by kernel_rfl) ?hQ114 ?hy114 hS ?rest114
                  case hi114 => simp only [List.getElem?_toArray, List.getElem?_cons_zero, List.getElem?_cons_succ]; rfl
                  case hd114 => rfl
                  case hQ114 => exact fun _ _ _ h => h
                  case hy114 => (refine Or.inl ⟨by rfl, ?_⟩; intro w hSw; (try dsimp only at hSw); go_simp; try with_reducible rfl)
                  simp only [List.setIfInBounds_toArray, List.set_cons_zero, List.set_cons_succ]
                  refine anyE_tk 29 71 (oi := ?oi115) (v := ?v115) ?hi115 ?hd115 (by kernel_rfl) (by kernel_rfl) (by kernel_rfl) ?hQ115 ?hy115 hS ?rest115
                  case hi115 => simp only [List.getElem?_toArray, List.getElem?_cons_zero, List.getElem?_cons_succ]; rfl
                  case hd115 => rfl
                  case hQ115 => exact fun _ _ _ h => h
                  case hy115 => (refine Or.inl ⟨by rfl, ?_⟩; intro w hSw; (try dsimp only at hSw); go_simp; try with_reducible rfl)
                  simp only [List.setIfInBounds_toArray, List.set_cons_zero, List.set_cons_succ]
                  refine anyE_done (by kernel_rfl) ?_ _
                  clear hS
                  go_wp2_with fail
                  go_roundw
                  case rel => exact ⟨j + 1, by omega, by push_cast; rfl, by rw [Hss.out], HBx.out.trans (HBc.out.mono HBx.out.size)⟩
                  case measure => simp [intOf]; omega
                case step90 =>
                  go_simp
                  have H47 := Lib.hid (Blk.new W43 3 #[.int .i64 ((j : Int) + 1)])
                  have hx : (World.heap W43).size ≠ x43 := fun e => by have := (H43.out.lt x43 rfl).2; omega
                  have H43 := Lib.hid (H43.out.alloc (.cells #[.int .i64 ((j : Int) + 1)] 3))
                  have HBc := Lib.hid (HBc.out.alloc HBc.out.size (.cells #[.int .i64 ((j : Int) + 1)] 3))
                  generalize World.alloc W43 (.cells #[.int .i64 ((j : Int) + 1)] 3) = W47 at H47 HBc H43 ⊢
                  generalize (World.heap W43).size = x47 at H47 hx ⊢
                  refine hK.out _ _ (fun _ => Keep.out _ HBc.out) ?_
                  clear hK K
                  try simp only [Act.put, List.setIfInBounds_toArray, List.set_cons_zero, List.set_cons_succ]
                  refine anyE_one (i := 3) (o := ?oi116) (by kernel_rfl) ?hi116 (fun K hK => ?step116)
                  case hi116 => simp only [List.getElem?_toArray, List.getElem?_cons_zero, List.getElem?_cons_succ]; rfl
                  refine step_app' _ (by rfl) (.tmp 43) (.tmp 44) 28 (by rfl) wr.heap.size 3 j0 _ 1 8 Try.underlying28 hj hy0 hy1 hy2 (by rfl) (by decide) (.slice (some ⟨x43, 0, none⟩) 0 0) 0 [] (by rfl) H43.out (some ⟨bt, ot, none⟩) (k + 1) c3 ((intL (rdT f n first k)).map (Value.int .i64)) (by rfl) (by rw [List.length_map, intL_length, Hlen.out, Nat.mul_one]) (fun e => by cases e) (IntsAt.news (HIt3.out.below HBc.out HBc.out.size)) (ints_one _) (by omega) (by decide) HBc.out.size (k + 1) (by omega) ((intL (rdT f n first k)).map (Value.int .i64)) (by rfl) ?_
                  intro A4 c4 W45 hown4 hg4 hlow4
                  have H45 := Lib.hid hown4
                  have H47 := Lib.hid (H47.out.grown hg4 (by simpa [Value.ownBlock] using hx))
                  have HBc := Lib.hid (HBc.out.grown hg4 HBc.out.size hlow4)
                  clear hown4 hg4 hlow4 H43
                  refine hK.out _ _ (fun _ => Keep.out _ HBc.out) ?_
                  clear hK K
                  try simp only [Act.put, List.setIfInBounds_toArray, List.set_cons_zero, List.set_cons_succ]
                  refine anyE_one (i := 6) (o := ?oi117) (by kernel_rfl) ?hi117 (fun K hK => ?step117)
                  case hi117 => simp only [List.getElem?_toArray, List.getElem?_cons_zero, List.getElem?_cons_succ]; rfl
                  refine step_app' _ (by rfl) (.tmp 45) (.tmp 47) 28 (by rfl) wr.heap.size 3 j0 _ 1 8 Try.underlying28 hj hy0 hy1 hy2 (by rfl) (by decide) (.slice A4 (k + 1) c4) (k + 1) ((intL (rdT f n first k)).map (Value.int .i64)) (by rfl) H45.out (some ⟨x47, 0, none⟩) 1 1 [.int .i64 ((j : Int) + 1)] (by rfl) (by rfl) (by simp) (news_blk (t := 3) (cs := #[.int .i64 ((j : Int) + 1)]) H47.out) (by simp [Value.oneCell']) (by omega) (by decide) HBc.out.size (k + 2) (by omega) ((intL (rdT f n first k ++ [j + 1])).map (Value.int .i64)) HSn.out ?_
                  intro A5 c5 W48 hown5 hg5 hlow5
                  have HI5 := Lib.hid (IntsAt.of_own (zs := intL (rdT f n first k ++ [j + 1])) (by rw [intL_length, List.length_append, Hlen.out]; exact hown5))
                  have HBc := Lib.hid (HBc.out.grown hg5 HBc.out.size hlow5)
                  clear hown5 hg5 hlow5 H45 H47
                  refine hK.out _ _ (fun _ => Keep.out _ HBc.out) ?_
                  clear hK K
                  try simp only [Act.put, List.setIfInBounds_toArray, List.set_cons_zero, List.set_cons_succ]
                  refine anyE_one (i := 7) (o := ?oi118) (by kernel_rfl) ?hi118 (fun K hK => ?step118)
                  case hi118 => simp only [List.getElem?_toArray, List.getElem?_cons_zero, List.getElem?_cons_succ]; rfl
                  go_simp
                  refine (citj.out A5 c5 _ HI5.out).mono ?_
                  rintro e W49 ⟨rfl, hd6⟩
                  have HBc := Lib.hid (HBc.out.trans (hd6.mono HBc.out.size))
                  clear hd6 HI5
                  go_wp2_with fail
                  refine hK.out _ _ (fun _ => Keep.out _ HBc.out) ?_
                  clear hK K
                  try simp only [Act.put, List.setIfInBounds_toArray, List.set_cons_zero, List.set_cons_succ]
                  have hS := Keep.out _ HBc.out
                  refine anyE_tk 8 50 (oi := ?oi119) (v := ?v119) ?hi119 ?hd119 (by kernel_rfl) (by kernel_rfl) (by kernel_rfl) ?hQ119 ?hy119 hS ?rest119
                  case hi119 => simp only [List.getElem?_toArray, List.getElem?_cons_zero, List.getElem?_cons_succ]; rfl
                  case hd119 => rfl
                  case hQ119 => exact fun _ _ _ h => h
                  case hy119 => (refine Or.inl ⟨by rfl, ?_⟩; intro w hSw; (try dsimp only at hSw); go_simp; try with_reducible rfl)
                  simp only [List.setIfInBounds_toArray, List.set_cons_zero, List.set_cons_succ]
                  refine anyE_tk 9 51 (oi := ?oi120) (v := ?v120) ?hi120 ?hd120 (by kernel_rfl) (by kernel_rfl) (by kernel_rfl) ?hQ120 ?hy120 hS ?rest120
                  case hi120 => simp only [List.getElem?_toArray, List.getElem?_cons_zero, List.getElem?_cons_succ]; rfl
                  case hd120 => rfl
                  case hQ120 => exact fun _ _ _ h => h
                  case hy120 => (refine Or.inl ⟨by rfl, ?_⟩; intro w hSw; (try dsimp only at hSw); go_simp; try with_reducible rfl)
                  simp only [List.setIfInBounds_toArray, List.set_cons_zero, List.set_cons_succ]
                  refine anyE_tk 10 52 (oi := ?oi121) (v := ?v121) ?hi121 ?hd121 (by kernel_rfl) (by kernel_rfl) (by kernel_rfl) ?hQ121 ?hy121 hS ?rest121
                  case hi121 => simp only [List.getElem?_toArray, List.getElem?_cons_zero, List.getElem?_cons_succ]; rfl
                  case hd121 => rfl
                  case hQ121 => exact fun _ _ _ h => h
                  case hy121 => (refine Or.inl ⟨by rfl, ?_⟩; intro w hSw; (try dsimp only at hSw); go_simp; try with_reducible rfl)
                  simp only [List.setIfInBounds_toArray, List.set_cons_zero, List.set_cons_succ]
                  refine anyE_tk 11 53 (oi := ?oi122) (v := ?v122) ?hi122 ?hd122 (by kernel_rfl) (by kernel_rfl) (by kernel_rfl) ?hQ122 ?hy122 hS ?rest122
                  case hi122 => simp only [List.getElem?_toArray, List.getElem?_cons_zero, List.getElem?_cons_succ]; rfl
                  case hd122 => rfl
                  case hQ122 => exact fun _ _ _ h => h
                  case hy122 => (refine Or.inl ⟨by rfl, ?_⟩; intro w hSw; (try dsimp only at hSw); go_simp; try with_reducible rfl)
                  simp only [List.setIfInBounds_toArray, List.set_cons_zero, List.set_cons_succ]
                  refine anyE_tk 12 54 (oi := ?oi123) (v := ?v123) ?hi123 ?hd123 (by kernel_rfl) (by kernel_rfl) (by kernel_rfl) ?hQ123 ?hy123 hS ?rest123
                  case hi123 => simp only [List.getElem?_toArray, List.getElem?_cons_zero, List.getElem?_cons_succ]; rfl
                  case hd123 => rfl
                  case hQ123 => exact fun _ _ _ h => h
                  case hy123 => (refine Or.inl ⟨by rfl, ?_⟩; intro w hSw; (try dsimp only at hSw); go_simp; try with_reducible rfl)
                  simp only [List.setIfInBounds_toArray, List.set_cons_zero, List.set_cons_succ]
                  refine anyE_tk 13 55 (oi := ?oi124) (v := undef) ?hi124 ?hd124 (by kernel_rfl) (by kernel_rfl) (by kernel_rfl) ?hQ124 ?hy124 hS ?rest124
                  case hi124 => simp only [List.getElem?_toArray, List.getElem?_cons_zero, List.getElem?_cons_succ]; rfl
                  case hd124 => rfl
                  case hQ124 => exact fun _ _ _ h => h
                  case hy124 => exact Or.inr ⟨by rfl, rfl⟩
                  simp only [List.setIfInBounds_toArray, List.set_cons_zero, List.set_cons_succ]
                  refine anyE_tk 14 56 (oi := ?oi125) (v := undef) ?hi125 ?hd125 (by kernel_rfl) (by kernel_rfl) (by kernel_rfl) ?hQ125 ?hy125 hS ?rest125
                  case hi125 => simp only [List.getElem?_toArray, List.getElem?_cons_zero, List.getElem?_cons_succ]; rfl
                  case hd125 => rfl
                  case hQ125 => exact fun _ _ _ h => h
                  case hy125 => exact Or.inr ⟨by rfl, rfl⟩
                  simp only [List.setIfInBounds_toArray, List.set_cons_zero, List.set_cons_succ]
                  refine anyE_tk 15 57 (oi := ?oi126) (v := undef) ?hi126 ?hd126 (by kernel_rfl) (by kernel_rfl) (by kernel_rfl) ?hQ126 ?hy126 hS ?rest126
                  case hi126 => simp only [List.getElem?_toArray, List.getElem?_cons_zero, List.getElem?_cons_succ]; rfl
                  case hd126 => rfl
                  case hQ126 => exact fun _ _ _ h => h
                  case hy126 => exact Or.inr ⟨by rfl, rfl⟩
                  simp only [List.setIfInBounds_toArray, List.set_cons_zero, List.set_cons_succ]
                  refine anyE_tk 16 58 (oi := ?oi127) (v := undef) ?hi127 ?hd127 (by kernel_rfl) (by kernel_rfl) (by kernel_rfl) ?hQ127 ?hy127 hS ?rest127
                  case hi127 => simp only [List.getElem?_toArray, List.getElem?_cons_zero, List.getElem?_cons_succ]; rfl
                  case hd127 => rfl
                  case hQ127 => exact fun _ _ _ h => h
                  case hy127 => exact Or.inr ⟨by rfl, rfl⟩
                  simp only [List.setIfInBounds_toArray, List.set_cons_zero, List.set_cons_succ]
                  refine anyE_tk 17 59 (oi := ?oi128) (v := undef) ?hi128 ?hd128 (by kernel_rfl) (by kernel_rfl) (by kernel_rfl) ?hQ128 ?hy128 hS ?rest128
                  case hi128 => simp only [List.getElem?_toArray, List.getElem?_cons_zero, List.getElem?_cons_succ]; rfl
                  case hd128 => rfl
                  case hQ128 => exact fun _ _ _ h => h
                  case hy128 => exact Or.inr ⟨by rfl, rfl⟩
                  simp only [List.setIfInBounds_toArray, List.set_cons_zero, List.set_cons_succ]
                  refine anyE_tk 18 60 (oi := ?oi129) (v := undef) ?hi129 ?hd129 (by kernel_rfl) (by kernel_rfl) (by kernel_rfl) ?hQ129 ?hy129 hS ?rest129
                  case hi129 => simp only [List.getElem?_toArray, List.getElem?_cons_zero, List.getElem?_cons_succ]; rfl
                  case hd129 => rfl
                  case hQ129 => exact fun _ _ _ h => h
                  case hy129 => exact Or.inr ⟨by rfl, rfl⟩
                  simp only [List.setIfInBounds_toArray, List.set_cons_zero, List.set_cons_succ]
                  refine anyE_tk 19 61 (oi := ?oi130) (v := undef) ?hi130 ?hd130 (by kernel_rfl) (by kernel_rfl) (by kernel_rfl) ?hQ130 ?hy130 hS ?rest130
                  case hi130 => simp only [List.getElem?_toArray, List.getElem?_cons_zero, List.getElem?_cons_succ]; rfl
                  case hd130 => rfl
                  case hQ130 => exact fun _ _ _ h => h
                  case hy130 => exact Or.inr ⟨by rfl, rfl⟩
                  simp only [List.setIfInBounds_toArray, List.set_cons_zero, List.set_cons_succ]
                  refine anyE_tk 20 62 (oi := ?oi131) (v := undef) ?hi131 ?hd131 (by kernel_rfl) (by kernel_rfl) (by kernel_rfl) ?hQ131 ?hy131 hS ?rest131
                  case hi131 => simp only [List.getElem?_toArray, List.getElem?_cons_zero, List.getElem?_cons_succ]; rfl
                  case hd131 => rfl
                  case hQ131 => exact fun _ _ _ h => h
                  case hy131 => exact Or.inr ⟨by rfl, rfl⟩
                  simp only [List.setIfInBounds_toArray, List.set_cons_zero, List.set_cons_succ]
                  refine anyE_tk 21 63 (oi := ?oi132) (v := undef) ?hi132 ?hd132 (by kernel_rfl) (by kernel_rfl) (by kernel_rfl) ?hQ132 ?hy132 hS ?rest132
                  case hi132 => simp only [List.getElem?_toArray, List.getElem?_cons_zero, List.getElem?_cons_succ]; rfl
                  case hd132 => rfl
                  case hQ132 => exact fun _ _ _ h => h
                  case hy132 => exact Or.inr ⟨by rfl, rfl⟩
                  simp only [List.setIfInBounds_toArray, List.set_cons_zero, List.set_cons_succ]
                  refine anyE_tk 22 64 (oi := ?oi133) (v := undef) ?hi133 ?hd133 (by kernel_rfl) (by kernel_rfl) (by kernel_rfl) ?hQ133 ?hy133 hS ?rest133
                  case hi133 => simp only [List.getElem?_toArray, List.getElem?_cons_zero, List.getElem?_cons_succ]; rfl
                  case hd133 => rfl
                  case hQ133 => exact fun _ _ _ h => h
                  case hy133 => exact Or.inr ⟨by rfl, rfl⟩
                  simp only [List.setIfInBounds_toArray, List.set_cons_zero, List.set_cons_succ]
                  refine anyE_tk 23 65 (oi := ?oi134) (v := undef) ?hi134 ?hd134 (by kernel_rfl) (by kernel_rfl) (by kernel_rfl) ?hQ134 ?hy134 hS ?rest134
                  case hi134 => simp only [List.getElem?_toArray, List.getElem?_cons_zero, List.getElem?_cons_succ]; rfl
                  case hd134 => rfl
                  case hQ134 => exact fun _ _ _ h => h
                  case hy134 => exact Or.inr ⟨by rfl, rfl⟩
                  simp only [List.setIfInBounds_toArray, List.set_cons_zero, List.set_cons_succ]
                  refine anyE_tk 24 66 (oi := ?oi135) (v := undef) ?hi135 ?hd135 (by kernel_rfl) (by kernel_rfl) (by kernel_rfl) ?hQ135 ?hy135 hS ?rest135
                  case hi135 => simp only [List.getElem?_toArray, List.getElem?_cons_zero, List.getElem?_cons_succ]; rfl
                  case hd135 => rfl
                  case hQ135 => exact fun _ _ _ h => h
                  case hy135 => exact Or.inr ⟨by rfl, rfl⟩
                  simp only [List.setIfInBounds_toArray, List.set_cons_zero, List.set_cons_succ]
                  refine anyE_tk 25 67 (oi := ?oi136) (v := undef) ?hi136 ?hd136 (by kernel_rfl) (by kernel_rfl) (by kernel_rfl) ?hQ136 ?hy136 hS ?rest136
                  case hi136 => simp only [List.getElem?_toArray, List.getElem?_cons_zero, List.getElem?_cons_succ]; rfl
                  case hd136 => rfl
                  case hQ136 => exact fun _ _ _ h => h
                  case hy136 => exact Or.inr ⟨by rfl, rfl⟩
                  simp only [List.setIfInBounds_toArray, List.set_cons_zero, List.set_cons_succ]
                  refine anyE_tk 26 68 (oi := ?oi137) (v := undef) ?hi137 ?hd137 (by kernel_rfl) (by kernel_rfl) (by kernel_rfl) ?hQ137 ?hy137 hS ?rest137
                  case hi137 => simp only [List.getElem?_toArray, List.getElem?_cons_zero, List.getElem?_cons_succ]; rfl
                  case hd137 => rfl
                  case hQ137 => exact fun _ _ _ h => h
                  case hy137 => exact Or.inr ⟨by rfl, rfl⟩
                  simp only [List.setIfInBounds_toArray, List.set_cons_zero, List.set_cons_succ]
                  refine anyE_tk 27 69 (oi := ?oi138) (v := undef) ?hi138 ?hd138 (by kernel_rfl) (by kernel_rfl) (by kernel_rfl) ?hQ138 ?hy138 hS ?rest138
                  case hi138 => simp only [List.getElem?_toArray, List.getElem?_cons_zero, List.getElem?_cons_succ]; rfl
                  case hd138 => rfl
                  case hQ138 => exact fun _ _ _ h => h
                  case hy138 => exact Or.inr ⟨by rfl, rfl⟩
                  simp only [List.setIfInBounds_toArray, List.set_cons_zero, List.set_cons_succ]
                  refine anyE_tk 28 70 (oi := ?oi139) (v := ?v139) ?hi139 ?hd139 (by kernel_rfl) (by kernel_rfl) (by kernel_rfl) ?hQ139 ?hy139 hS ?rest139
                  case hi139 => simp only [List.getElem?_toArray, List.getElem?_cons_zero, List.getElem?_cons_succ]; rfl
                  case hd139 => rfl
                  case hQ139 => exact fun _ _ _ h => h
                  case hy139 => (refine Or.inl ⟨by rfl, ?_⟩; intro w hSw; (try dsimp only at hSw); go_simp; try with_reducible rfl)
                  simp only [List.setIfInBounds_toArray, List.set_cons_zero, List.set_cons_succ]
                  refine anyE_tk 29 71 (oi := ?oi140) (v := ?v140) ?hi140 ?hd140 (by kernel_rfl) (by kernel_rfl) (by kernel_rfl) ?hQ140 ?hy140 hS ?rest140
                  case hi140 => simp only [List.getElem?_toArray, List.getElem?_cons_zero, List.getElem?_cons_succ]; rfl
                  case hd140 => rfl
                  case hQ140 => exact fun _ _ _ h => h
                  case hy140 => (refine Or.inl ⟨by rfl, ?_⟩; intro w hSw; (try dsimp only at hSw); go_simp; try with_reducible rfl)
                  simp only [List.setIfInBounds_toArray, List.set_cons_zero, List.set_cons_succ]
                  refine anyE_done (by kernel_rfl) ?_ _
                  clear hS
                  go_wp2_with fail
                  go_roundw
                  case rel => exact ⟨j + 1, by omega, by push_cast; rfl, by rw [Hss.out], HBx.out.trans (HBc.out.mono HBx.out.size)⟩
                  case measure => simp [intOf]; omega
              case step88 =>
                go_simp
                have H47 := Lib.hid (Blk.new W0 3 #[.int .i64 ((j : Int) + 1)])
                have HBc := Lib.hid (HBc.out.alloc HBc.out.size (.cells #[.int .i64 ((j : Int) + 1)] 3))
                generalize World.alloc W0 (.cells #[.int .i64 ((j : Int) + 1)] 3) = W47 at H47 HBc ⊢
                generalize (World.heap W0).size = x47 at H47 ⊢
                refine hK.out _ _ (fun _ => Keep.out _ HBc.out) ?_
                clear hK K
                try simp only [Act.put, List.setIfInBounds_toArray, List.set_cons_zero, List.set_cons_succ]
                refine anyE_one (i := 1) (o := ?oi141) (by kernel_rfl) ?hi141 (fun K hK => ?step141)
                case hi141 => simp only [List.getElem?_toArray, List.getElem?_cons_zero, List.getElem?_cons_succ]; rfl
                go_simp
                have H43 := Lib.hid (show (World.alloc W47 (.cells #[] 3)).ownsRow wr.heap.size 3 1 (.slice (some ⟨(World.heap W47).size, 0, none⟩) 0 0) 0 [] from own_base (own_new 1 (Nat.le_refl _)) HBc.out.size)
                have hx : x47 ≠ (World.heap W47).size := Nat.ne_of_lt H47.out.lt
                have H47 := Lib.hid (H47.out.alloc (.cells #[] 3))
                have HBc := Lib.hid (HBc.out.alloc HBc.out.size (.cells #[] 3))
                generalize World.alloc W47 (.cells #[] 3) = W43 at H43 HBc H47 ⊢
                generalize (World.heap W47).size = x43 at H43 hx ⊢
                refine hK.out _ _ (fun _ => Keep.out _ HBc.out) ?_
                clear hK K
                try simp only [Act.put, List.setIfInBounds_toArray, List.set_cons_zero, List.set_cons_succ]
                refine anyE_one (i := 3) (o := ?oi142) (by kernel_rfl) ?hi142 (fun K hK => ?step142)
                case hi142 => simp only [List.getElem?_toArray, List.getElem?_cons_zero, List.getElem?_cons_succ]; rfl
                refine step_app' _ (by rfl) (.tmp 43) (.tmp 44) 28 (by rfl) wr.heap.size 3 j0 _ 1 8 Try.underlying28 hj hy0 hy1 hy2 (by rfl) (by decide) (.slice (some ⟨x43, 0, none⟩) 0 0) 0 [] (by rfl) H43.out (some ⟨bt, ot, none⟩) (k + 1) c3 ((intL (rdT f n first k)).map (Value.int .i64)) (by rfl) (by rw [List.length_map, intL_length, Hlen.out, Nat.mul_one]) (fun e => by cases e) (IntsAt.news (HIt3.out.below HBc.out HBc.out.size)) (ints_one _) (by omega) (by decide) HBc.out.size (k + 1) (by omega) ((intL (rdT f n first k)).map (Value.int .i64)) (by rfl) ?_
                intro A4 c4 W45 hown4 hg4 hlow4
                have H45 := Lib.hid hown4
                have H47 := Lib.hid (H47.out.grown hg4 (by simpa [Value.ownBlock] using hx))
                have HBc := Lib.hid (HBc.out.grown hg4 HBc.out.size hlow4)
                clear hown4 hg4 hlow4 H43
                refine hK.out _ _ (fun _ => Keep.out _ HBc.out) ?_
                clear hK K
                try simp only [Act.put, List.setIfInBounds_toArray, List.set_cons_zero, List.set_cons_succ]
                refine anyE_one (i := 6) (o := ?oi143) (by kernel_rfl) ?hi143 (fun K hK => ?step143)
                case hi143 => simp only [List.getElem?_toArray, List.getElem?_cons_zero, List.getElem?_cons_succ]; rfl
                refine step_app' _ (by rfl) (.tmp 45) (.tmp 47) 28 (by rfl) wr.heap.size 3 j0 _ 1 8 Try.underlying28 hj hy0 hy1 hy2 (by rfl) (by decide) (.slice A4 (k + 1) c4) (k + 1) ((intL (rdT f n first k)).map (Value.int .i64)) (by rfl) H45.out (some ⟨x47, 0, none⟩) 1 1 [.int .i64 ((j : Int) + 1)] (by rfl) (by rfl) (by simp) (news_blk (t := 3) (cs := #[.int .i64 ((j : Int) + 1)]) H47.out) (by simp [Value.oneCell']) (by omega) (by decide) HBc.out.size (k + 2) (by omega) ((intL (rdT f n first k ++ [j + 1])).map (Value.int .i64)) HSn.out ?_
                intro A5 c5 W48 hown5 hg5 hlow5
                have HI5 := Lib.hid (IntsAt.of_own (zs := intL (rdT f n first k ++ [j + 1])) (by rw [intL_length, List.length_append, Hlen.out]; exact hown5))
                have HBc := Lib.hid (HBc.out.grown hg5 HBc.out.size hlow5)
                clear hown5 hg5 hlow5 H45 H47
                refine hK.out _ _ (fun _ => Keep.out _ HBc.out) ?_
                clear hK K
                try simp only [Act.put, List.setIfInBounds_toArray, List.set_cons_zero, List.set_cons_succ]
                refine anyE_one (i := 7) (o := ?oi144) (by kernel_rfl) ?hi144 (fun K hK => ?step144)
                case hi144 => simp only [List.getElem?_toArray, List.getElem?_cons_zero, List.getElem?_cons_succ]; rfl
                go_simp
                refine (citj.out A5 c5 _ HI5.out).mono ?_
                rintro e W49 ⟨rfl, hd6⟩
                have HBc := Lib.hid (HBc.out.trans (hd6.mono HBc.out.size))
                clear hd6 HI5
                go_wp2_with fail
                refine hK.out _ _ (fun _ => Keep.out _ HBc.out) ?_
                clear hK K
                try simp only [Act.put, List.setIfInBounds_toArray, List.set_cons_zero, List.set_cons_succ]
                have hS := Keep.out _ HBc.out
                refine anyE_tk 8 50 (oi := ?oi145) (v := ?v145) ?hi145 ?hd145 (by kernel_rfl) (by kernel_rfl) (by kernel_rfl) ?hQ145 ?hy145 hS ?rest145
                case hi145 => simp only [List.getElem?_toArray, List.getElem?_cons_zero, List.getElem?_cons_succ]; rfl
                case hd145 => rfl
                case hQ145 => exact fun _ _ _ h => h
                case hy145 => (refine Or.inl ⟨by rfl, ?_⟩; intro w hSw; (try dsimp only at hSw); go_simp; try with_reducible rfl)
                simp only [List.setIfInBounds_toArray, List.set_cons_zero, List.set_cons_succ]
                refine anyE_tk 9 51 (oi := ?oi146) (v := ?v146) ?hi146 ?hd146 (by kernel_rfl) (by kernel_rfl) (by kernel_rfl) ?hQ146 ?hy146 hS ?rest146
                case hi146 => simp only [List.getElem?_toArray, List.getElem?_cons_zero, List.getElem?_cons_succ]; rfl
                case hd146 => rfl
                case hQ146 => exact fun _ _ _ h => h
                case hy146 => (refine Or.inl ⟨by rfl, ?_⟩; intro w hSw; (try dsimp only at hSw); go_simp; try with_reducible rfl)
                simp only [List.setIfInBounds_toArray, List.set_cons_zero, List.set_cons_succ]
                refine anyE_tk 10 52 (oi := ?oi147) (v := ?v147) ?hi147 ?hd147 (by kernel_rfl) (by kernel_rfl) (by kernel_rfl) ?hQ147 ?hy147 hS ?rest147
                case hi147 => simp only [List.getElem?_toArray, List.getElem?_cons_zero, List.getElem?_cons_succ]; rfl
                case hd147 => rfl
                case hQ147 => exact fun _ _ _ h => h
                case hy147 => (refine Or.inl ⟨by rfl, ?_⟩; intro w hSw; (try dsimp only at hSw); go_simp; try with_reducible rfl)
                simp only [List.setIfInBounds_toArray, List.set_cons_zero, List.set_cons_succ]
                refine anyE_tk 11 53 (oi := ?oi148) (v := ?v148) ?hi148 ?hd148 (by kernel_rfl) (by kernel_rfl) (by kernel_rfl) ?hQ148 ?hy148 hS ?rest148
                case hi148 => simp only [List.getElem?_toArray, List.getElem?_cons_zero, List.getElem?_cons_succ]; rfl
                case hd148 => rfl
                case hQ148 => exact fun _ _ _ h => h
                case hy148 => (refine Or.inl ⟨by rfl, ?_⟩; intro w hSw; (try dsimp only at hSw); go_simp; try with_reducible rfl)
                simp only [List.setIfInBounds_toArray, List.set_cons_zero, List.set_cons_succ]
                refine anyE_tk 12 54 (oi := ?oi149) (v := ?v149) ?hi149 ?hd149 (by kernel_rfl) (by kernel_rfl) (by kernel_rfl) ?hQ149 ?hy149 hS ?rest149
                case hi149 => simp only [List.getElem?_toArray, List.getElem?_cons_zero, List.getElem?_cons_succ]; rfl
                case hd149 => rfl
                case hQ149 => exact fun _ _ _ h => h
                case hy149 => (refine Or.inl ⟨by rfl, ?_⟩; intro w hSw; (try dsimp only at hSw); go_simp; try with_reducible rfl)
                simp only [List.setIfInBounds_toArray, List.set_cons_zero, List.set_cons_succ]
                refine anyE_tk 13 55 (oi := ?oi150) (v := undef) ?hi150 ?hd150 (by kernel_rfl) (by kernel_rfl) (by kernel_rfl) ?hQ150 ?hy150 hS ?rest150
                case hi150 => simp only [List.getElem?_toArray, List.getElem?_cons_zero, List.getElem?_cons_succ]; rfl
                case hd150 => rfl
                case hQ150 => exact fun _ _ _ h => h
                case hy150 => exact Or.inr ⟨by rfl, rfl⟩
                simp only [List.setIfInBounds_toArray, List.set_cons_zero, List.set_cons_succ]
                refine anyE_tk 14 56 (oi := ?oi151) (v := undef) ?hi151 ?hd151 (by kernel_rfl) (by kernel_rfl) (by kernel_rfl) ?hQ151 ?hy151 hS ?rest151
                case hi151 => simp only [List.getElem?_toArray, List.getElem?_cons_zero, List.getElem?_cons_succ]; rfl
                case hd151 => rfl
                case hQ151 => exact fun _ _ _ h => h
                case hy151 => exact Or.inr ⟨by rfl, rfl⟩
                simp only [List.setIfInBounds_toArray, List.set_cons_zero, List.set_cons_succ]
                refine anyE_tk 15 57 (oi := ?oi152) (v := undef) ?hi152 ?hd152 (by kernel_rfl) (by kernel_rfl) (by kernel_rfl) ?hQ152 ?hy152 hS ?rest152
                case hi152 => simp only [List.getElem?_toArray, List.getElem?_cons_zero, List.getElem?_cons_succ]; rfl
                case hd152 => rfl
                case hQ152 => exact fun _ _ _ h => h
                case hy152 => exact Or.inr ⟨by rfl, rfl⟩
                simp only [List.setIfInBounds_toArray, List.set_cons_zero, List.set_cons_succ]
                refine anyE_tk 16 58 (oi := ?oi153) (v := undef) ?hi153 ?hd153 (by kernel_rfl) (by kernel_rfl) (by kernel_rfl) ?hQ153 ?hy153 hS ?rest153
                case hi153 => simp only [List.getElem?_toArray, List.getElem?_cons_zero, List.getElem?_cons_succ]; rfl
                case hd153 => rfl
                case hQ153 => exact fun _ _ _ h => h
                case hy153 => exact Or.inr ⟨by rfl, rfl⟩
                simp only [List.setIfInBounds_toArray, List.set_cons_zero, List.set_cons_succ]
                refine anyE_tk 17 59 (oi := ?oi154) (v := undef) ?hi154 ?hd154 (by kernel_rfl) (by kernel_rfl) (by kernel_rfl) ?hQ154 ?hy154 hS ?rest154
                case hi154 => simp only [List.getElem?_toArray, List.getElem?_cons_zero, List.getElem?_cons_succ]; rfl
                case hd154 => rfl
                case hQ154 => exact fun _ _ _ h => h
                case hy154 => exact Or.inr ⟨by rfl, rfl⟩
                simp only [List.setIfInBounds_toArray, List.set_cons_zero, List.set_cons_succ]
                refine anyE_tk 18 60 (oi := ?oi155) (v := undef) ?hi155 ?hd155 (by kernel_rfl) (by kernel_rfl) (by kernel_rfl) ?hQ155 ?hy155 hS ?rest155
                case hi155 => simp only [List.getElem?_toArray, List.getElem?_cons_zero, List.getElem?_cons_succ]; rfl
                case hd155 => rfl
                case hQ155 => exact fun _ _ _ h => h
                case hy155 => exact Or.inr ⟨by rfl, rfl⟩
                simp only [List.setIfInBounds_toArray, List.set_cons_zero, List.set_cons_succ]
                refine anyE_tk 19 61 (oi := ?oi156) (v := undef) ?hi156 ?hd156 (by kernel_rfl) (by kernel_rfl) (by kernel_rfl) ?hQ156 ?hy156 hS ?rest156
                case hi156 => simp only [List.getElem?_toArray, List.getElem?_cons_zero, List.getElem?_cons_succ]; rfl
                case hd156 => rfl
                case hQ156 => exact fun _ _ _ h => h
                case hy156 => exact Or.inr ⟨by rfl, rfl⟩
                simp only [List.setIfInBounds_toArray, List.set_cons_zero, List.set_cons_succ]
                refine anyE_tk 20 62 (oi := ?oi157) (v := undef) ?hi157 ?hd157 (by kernel_rfl) (by kernel_rfl) (by kernel_rfl) ?hQ157 ?hy157 hS ?rest157
                case hi157 => simp only [List.getElem?_toArray, List.getElem?_cons_zero, List.getElem?_cons_succ]; rfl
                case hd157 => rfl
                case hQ157 => exact fun _ _ _ h => h
                case hy157 => exact Or.inr ⟨by rfl, rfl⟩
                simp only [List.setIfInBounds_toArray, List.set_cons_zero, List.set_cons_succ]
                refine anyE_tk 21 63 (oi := ?oi158) (v := undef) ?hi158 ?hd158 (by kernel_rfl) (by kernel_rfl) (by kernel_rfl) ?hQ158 ?hy158 hS ?rest158
                case hi158 => simp only [List.getElem?_toArray, List.getElem?_cons_zero, List.getElem?_cons_succ]; rfl
                case hd158 => rfl
                case hQ158 => exact fun _ _ _ h => h
                case hy158 => exact Or.inr ⟨by rfl, rfl⟩
                simp only [List.setIfInBounds_toArray, List.set_cons_zero, List.set_cons_succ]
                refine anyE_tk 22 64 (oi := ?oi159) (v := undef) ?hi159 ?hd159 (by kernel_rfl) (by kernel_rfl) (by kernel_rfl) ?hQ159 ?hy159 hS ?rest159
                case hi159 => simp only [List.getElem?_toArray, List.getElem?_cons_zero, List.getElem?_cons_succ]; rfl
                case hd159 => rfl
                case hQ159 => exact fun _ _ _ h => h
                case hy159 => exact Or.inr ⟨by rfl, rfl⟩
                simp only [List.setIfInBounds_toArray, List.set_cons_zero, List.set_cons_succ]
                refine anyE_tk 23 65 (oi := ?oi160) (v := undef) ?hi160 ?hd160 (by kernel_rfl) (by kernel_rfl) (by kernel_rfl) ?hQ160 ?hy160 hS ?rest160
                case hi160 => simp only [List.getElem?_toArray, List.getElem?_cons_zero, List.getElem?_cons_succ]; rfl
                case hd160 => rfl
                case hQ160 => exact fun _ _ _ h => h
                case hy160 => exact Or.inr ⟨by rfl, rfl⟩
                simp only [List.setIfInBounds_toArray, List.set_cons_zero, List.set_cons_succ]
                refine anyE_tk 24 66 (oi := ?oi161) (v := undef) ?hi161 ?hd161 (by kernel_rfl) (by kernel_rfl) (by kernel_rfl) ?hQ161 ?hy161 hS ?rest161
                case hi161 => simp only [List.getElem?_toArray, List.getElem?_cons_zero, List.getElem?_cons_succ]; rfl
                case hd161 => rfl
                case hQ161 => exact fun _ _ _ h => h
                case hy161 => exact Or.inr ⟨by rfl, rfl⟩
                simp only [List.setIfInBounds_toArray, List.set_cons_zero, List.set_cons_succ]
                refine anyE_tk 25 67 (oi := ?oi162) (v := undef) ?hi162 ?hd162 (by kernel_rfl) (by kernel_rfl) (by kernel_rfl) ?hQ162 ?hy162 hS ?rest162
                case hi162 => simp only [List.getElem?_toArray, List.getElem?_cons_zero, List.getElem?_cons_succ]; rfl
                case hd162 => rfl
                case hQ162 => exact fun _ _ _ h => h
                case hy162 => exact Or.inr ⟨by rfl, rfl⟩
                simp only [List.setIfInBounds_toArray, List.set_cons_zero, List.set_cons_succ]
                refine anyE_tk 26 68 (oi := ?oi163) (v := undef) ?hi163 ?hd163 (by kernel_rfl) (by kernel_rfl) (by kernel_rfl) ?hQ163 ?hy163 hS ?rest163
                case hi163 => simp only [List.getElem?_toArray, List.getElem?_cons_zero, List.getElem?_cons_succ]; rfl
                case hd163 => rfl
                case hQ163 => exact fun _ _ _ h => h
                case hy163 => exact Or.inr ⟨by rfl, rfl⟩
                simp only [List.setIfInBounds_toArray, List.set_cons_zero, List.set_cons_succ]
                refine anyE_tk 27 69 (oi := ?oi164) (v := undef) ?hi164 ?hd164 (by kernel_rfl) (by kernel_rfl) (by kernel_rfl) ?hQ164 ?hy164 hS ?rest164
                case hi164 => simp only [List.getElem?_toArray, List.getElem?_cons_zero, List.getElem?_cons_succ]; rfl
                case hd164 => rfl
                case hQ164 => exact fun _ _ _ h => h
                case hy164 => exact Or.inr ⟨by rfl, rfl⟩
                simp only [List.setIfInBounds_toArray, List.set_cons_zero, List.set_cons_succ]
                refine anyE_tk 28 70 (oi := ?oi165) (v := ?v165) ?hi165 ?hd165 (by kernel_rfl) (by kernel_rfl) (by kernel_rfl) ?hQ165 ?hy165 hS ?rest165
                case hi165 => simp only [List.getElem?_toArray, List.getElem?_cons_zero, List.getElem?_cons_succ]; rfl
                case hd165 => rfl
                case hQ165 => exact fun _ _ _ h => h
                case hy165 => (refine Or.inl ⟨by rfl, ?_⟩; intro w hSw; (try dsimp only at hSw); go_simp; try with_reducible rfl)
                simp only [List.setIfInBounds_toArray, List.set_cons_zero, List.set_cons_succ]
                refine anyE_tk 29 71 (oi := ?oi166) (v := ?v166) ?hi166 ?hd166 (by kernel_rfl) (by kernel_rfl) (by kernel_rfl) ?hQ166 ?hy166 hS ?rest166
                case hi166 => simp only [List.getElem?_toArray, List.getElem?_cons_zero, List.getElem?_cons_succ]; rfl
                case hd166 => rfl
                case hQ166 => exact fun _ _ _ h => h
                case hy166 => (refine Or.inl ⟨by rfl, ?_⟩; intro w hSw; (try dsimp only at hSw); go_simp; try with_reducible rfl)
                simp only [List.setIfInBounds_toArray, List.set_cons_zero, List.set_cons_succ]
                refine anyE_done (by kernel_rfl) ?_ _
                clear hS
                go_wp2_with fail
                go_roundw
                case rel => exact ⟨j + 1, by omega, by push_cast; rfl, by rw [Hss.out], HBx.out.trans (HBc.out.mono HBx.out.size)⟩
                case measure => simp [intOf]; omega
            · have hbs : bsR (S j) = ((S j : Nat) : Int) := by unfold bsR; rw [if_neg h0]
              have hz0 : (0 : Int) ≤ ((S j : Nat) : Int) := by omega
              have hz2 : ((S j : Nat) : Int) < (n : Int) := by omega
              have hdz : decide (((S j : Nat) : Int) < 0) = false := by simp
              have ha1 : (a : Int) < (n : Int) := by omega
              have ha0 : (0 : Int) ≤ (a : Int) := by omega
              have hj0 : (0 : Int) ≤ (j : Int) + 1 := by omega
              obtain ⟨b2, o2, c2', hb2, e1, f1⟩ := ((H.out.below HBw.out (Nat.le_refl _))).2 a (by omega)
              have e2 := f1 (j + 1) (by omega)
              have e3 := f1 (S j) (by omega)
              have hbw0 : b < wr.heap.size := Nat.lt_of_lt_of_le H.out.1 HBw.out.size
              have hbw2 : b2 < wr.heap.size := Nat.lt_of_lt_of_le hb2 HBw.out.size
              rw [hbs]
              by_cases hlt2 : f a (j + 1) < f a (S j)
              · rw [if_pos (.inr hlt2)] at hss
                have hd3 : decide (f a (j + 1) < f a (S j)) = true := by simpa using hlt2
                have Hss := Lib.hid (show bsR (S (j + 1)) = (j : Int) + 1 by rw [hss]; unfold bsR; rw [if_neg (by omega)]; omega)
                have HE := Lib.hid (And.intro e1 (And.intro e2 e3))
                clear hin hss htu f1 hlt2 h0 hbs e1 e2 e3
                generalize f a (j + 1) = d1 at HE hd3
                generalize f a (S j) = d2 at HE hd3
                generalize S j = sj at *
                go_wp2_with fail
                have Keep := Lib.hid (show ∀ W, Below wr.heap.size wr W → (W.cell? ⟨b, off + a, none⟩ = some (.slice (some ⟨b2, o2, none⟩) n c2') ∧ W.cell? ⟨b2, o2 + (j + 1), none⟩ = some (.int .i64 d1) ∧ W.cell? ⟨b2, o2 + sj, none⟩ = some (.int .i64 d2) ∧ Below wr.heap.size wr W) from fun W h => keep3 hbw0 HE.out.1 hbw2 HE.out.2.1 hbw2 HE.out.2.2 h)
                have HBc := Lib.hid (Below.refl wr.heap.size wr).drew
                refine wp_region_E (S := fun W => W.cell? ⟨b, off + a, none⟩ = some (.slice (some ⟨b2, o2, none⟩) n c2') ∧ W.cell? ⟨b2, o2 + (j + 1), none⟩ = some (.int .i64 d1) ∧ W.cell? ⟨b2, o2 + sj, none⟩ = some (.int .i64 d2) ∧ Below wr.heap.size wr W) (E := fun _ => false) (by kernel_rfl) ?_
                generalize wr.drew = W0 at HBc ⊢
                have hS := Keep.out _ HBc.out
                refine anyE_tk 0 42 (oi := ?oi167) (v := ?v167) ?hi167 ?hd167 (by kernel_rfl) (by kernel_rfl) (by kernel_rfl) ?hQ167 ?hy167 hS ?rest167
                case hi167 => simp only [List.getElem?_toArray, List.getElem?_cons_zero, List.getElem?_cons_succ]; rfl
                case hd167 => rfl
                case hQ167 => exact fun _ _ _ h => h
                case hy167 => (refine Or.inl ⟨by rfl, ?_⟩; intro w hSw; (try dsimp only at hSw); go_simp; try with_reducible rfl)
                simp only [List.setIfInBounds_toArray, List.set_cons_zero, List.set_cons_succ]
                refine anyE_tk 2 44 (oi := ?oi168) (v := ?v168) ?hi168 ?hd168 (by kernel_rfl) (by kernel_rfl) (by kernel_rfl) ?hQ168 ?hy168 hS ?rest168
                case hi168 => simp only [List.getElem?_toArray, List.getElem?_cons_zero, List.getElem?_cons_succ]; rfl
                case hd168 => rfl
                case hQ168 => exact fun _ _ _ h => h
                case hy168 => (refine Or.inl ⟨by rfl, ?_⟩; intro w hSw; (try dsimp only at hSw); go_simp; try with_reducible rfl)
                simp only [List.setIfInBounds_toArray, List.set_cons_zero, List.set_cons_succ]
                refine anyE_tk 4 46 (oi := ?oi169) (v := ?v169) ?hi169 ?hd169 (by kernel_rfl) (by kernel_rfl) (by kernel_rfl) ?hQ169 ?hy169 hS ?rest169
                case hi169 => simp only [List.getElem?_toArray, List.getElem?_cons_zero, List.getElem?_cons_succ]; rfl
                case hd169 => rfl
                case hQ169 => exact fun _ _ _ h => h
                case hy169 => (refine Or.inl ⟨by rfl, ?_⟩; intro w hSw; (try dsimp only at hSw); go_simp; try with_reducible rfl)
                simp only [List.setIfInBounds_toArray, List.set_cons_zero, List.set_cons_succ]
                clear hS
                refine anyE_two (i := 1) (j := 5) (oi := ?oi170) (oj := ?oj170) (by kernel_rfl) ?hi170 ?hj170 (fun K hK => ?step170) (fun K hK => ?step171)
                case hi170 => simp only [List.getElem?_toArray, List.getElem?_cons_zero, List.getElem?_cons_succ]; rfl
                case hj170 => simp only [List.getElem?_toArray, List.getElem?_cons_zero, List.getElem?_cons_succ]; rfl
                case step170 =>
                  go_simp
                  have H43 := Lib.hid (show (World.alloc W0 (.cells #[] 3)).ownsRow wr.heap.size 3 1 (.slice (some ⟨(World.heap W0).size, 0, none⟩) 0 0) 0 [] from own_base (own_new 1 (Nat.le_refl _)) HBc.out.size)
                  have HBc := Lib.hid (HBc.out.alloc HBc.out.size (.cells #[] 3))
                  generalize World.alloc W0 (.cells #[] 3) = W43 at H43 HBc ⊢
                  generalize (World.heap W0).size = x43 at H43 ⊢
                  refine hK.out _ _ (fun _ => Keep.out _ HBc.out) ?_
                  clear hK K
                  try simp only [Act.put, List.setIfInBounds_toArray, List.set_cons_zero, List.set_cons_succ]
                  refine anyE_two (i := 3) (j := 5) (oi := ?oi172) (oj := ?oj172) (by kernel_rfl) ?hi172 ?hj172 (fun K hK => ?step172) (fun K hK => ?step173)
                  case hi172 => simp only [List.getElem?_toArray, List.getElem?_cons_zero, List.getElem?_cons_succ]; rfl
                  case hj172 => simp only [List.getElem?_toArray, List.getElem?_cons_zero, List.getElem?_cons_succ]; rfl
                  case step172 =>
                    refine step_app' _ (by rfl) (.tmp 43) (.tmp 44) 28 (by rfl) wr.heap.size 3 j0 _ 1 8 Try.underlying28 hj hy0 hy1 hy2 (by rfl) (by decide) (.slice (some ⟨x43, 0, none⟩) 0 0) 0 [] (by rfl) H43.out (some ⟨bt, ot, none⟩) (k + 1) c3 ((intL (rdT f n first k)).map (Value.int .i64)) (by rfl) (by rw [List.length_map, intL_length, Hlen.out, Nat.mul_one]) (fun e => by cases e) (IntsAt.news (HIt3.out.below HBc.out HBc.out.size)) (ints_one _) (by omega) (by decide) HBc.out.size (k + 1) (by omega) ((intL (rdT f n first k)).map (Value.int .i64)) (by rfl) ?_
                    intro A4 c4 W45 hown4 hg4 hlow4
                    have H45 := Lib.hid hown4
                    have HBc := Lib.hid (HBc.out.grown hg4 HBc.out.size hlow4)
                    clear hown4 hg4 hlow4 H43
                    refine hK.out _ _ (fun _ => Keep.out _ HBc.out) ?_
                    clear hK K
                    try simp only [Act.put, List.setIfInBounds_toArray, List.set_cons_zero, List.set_cons_succ]
                    refine anyE_one (i := 5) (o := ?oi174) (by kernel_rfl) ?hi174 (fun K hK => ?step174)
                    case hi174 => simp only [List.getElem?_toArray, List.getElem?_cons_zero, List.getElem?_cons_succ]; rfl
                    go_simp
                    have H47 := Lib.hid (Blk.new W45 3 #[.int .i64 ((j : Int) + 1)])
                    have H45 := Lib.hid (H45.out.alloc (.cells #[.int .i64 ((j : Int) + 1)] 3))
                    have HBc := Lib.hid (HBc.out.alloc HBc.out.size (.cells #[.int .i64 ((j : Int) + 1)] 3))
                    generalize World.alloc W45 (.cells #[.int .i64 ((j : Int) + 1)] 3) = W47 at H47 HBc H45 ⊢
                    generalize (World.heap W45).size = x47 at H47 ⊢
                    refine hK.out _ _ (fun _ => Keep.out _ HBc.out) ?_
                    clear hK K
                    try simp only [Act.put, List.setIfInBounds_toArray, List.set_cons_zero, List.set_cons_succ]
                    refine anyE_one (i := 6) (o := ?oi175) (by kernel_rfl) ?hi175 (fun K hK => ?step175)
                    case hi175 => simp only [List.getElem?_toArray, List.getElem?_cons_zero, List.getElem?_cons_succ]; rfl
                    refine step_app' _ (by rfl) (.tmp 45) (.tmp 47) 28 (by rfl) wr.heap.size 3 j0 _ 1 8 Try.underlying28 hj hy0 hy1 hy2 (by rfl) (by decide) (.slice A4 (k + 1) c4) (k + 1) ((intL (rdT f n first k)).map (Value.int .i64)) (by rfl) H45.out (some ⟨x47, 0, none⟩) 1 1 [.int .i64 ((j : Int) + 1)] (by rfl) (by rfl) (by simp) (news_blk (t := 3) (cs := #[.int .i64 ((j : Int) + 1)]) H47.out) (by simp [Value.oneCell']) (by omega) (by decide) HBc.out.size (k + 2) (by omega) ((intL (rdT f n first k ++ [j + 1])).map (Value.int .i64)) HSn.out ?_
                    intro A5 c5 W48 hown5 hg5 hlow5
                    have HI5 := Lib.hid (IntsAt.of_own (zs := intL (rdT f n first k ++ [j + 1])) (by rw [intL_length, List.length_append, Hlen.out]; exact hown5))
                    have HBc := Lib.hid (HBc.out.grown hg5 HBc.out.size hlow5)
                    clear hown5 hg5 hlow5 H45 H47
                    refine hK.out _ _ (fun _ => Keep.out _ HBc.out) ?_
                    clear hK K
                    try simp only [Act.put, List.setIfInBounds_toArray, List.set_cons_zero, List.set_cons_succ]
                    refine anyE_one (i := 7) (o := ?oi176) (by kernel_rfl) ?hi176 (fun K hK => ?step176)
                    case hi176 => simp only [List.getElem?_toArray, List.getElem?_cons_zero, List.getElem?_cons_succ]; rfl
                    go_simp
                    refine (citj.out A5 c5 _ HI5.out).mono ?_
                    rintro e W49 ⟨rfl, hd6⟩
                    have HBc := Lib.hid (HBc.out.trans (hd6.mono HBc.out.size))
                    clear hd6 HI5
                    go_wp2_with fail
                    refine hK.out _ _ (fun _ => Keep.out _ HBc.out) ?_
                    clear hK K
                    try simp only [Act.put, List.setIfInBounds_toArray, List.set_cons_zero, List.set_cons_succ]
                    have hS := Keep.out _ HBc.out
                    refine anyE_tk 8 50 (oi := ?oi177) (v := ?v177) ?hi177 ?hd177 (by kernel_rfl) (by kernel_rfl) (by kernel_rfl) ?hQ177 ?hy177 hS ?rest177
                    case hi177 => simp only [List.getElem?_toArray, List.getElem?_cons_zero, List.getElem?_cons_succ]; rfl
                    case hd177 => rfl
                    case hQ177 => exact fun _ _ _ h => h
                    case hy177 => (refine Or.inl ⟨by rfl, ?_⟩; intro w hSw; (try dsimp only at hSw); go_simp; try with_reducible rfl)
                    simp only [List.setIfInBounds_toArray, List.set_cons_zero, List.set_cons_succ]
                    refine anyE_tk 9 51 (oi := ?oi178) (v := ?v178) ?hi178 ?hd178 (by kernel_rfl) (by kernel_rfl) (by kernel_rfl) ?hQ178 ?hy178 hS ?rest178
                    case hi178 => simp only [List.getElem?_toArray, List.getElem?_cons_zero, List.getElem?_cons_succ]; rfl
                    case hd178 => rfl
                    case hQ178 => exact fun _ _ _ h => h
                    case hy178 => (refine Or.inl ⟨by rfl, ?_⟩; intro w hSw; (try dsimp only at hSw); go_simp; try with_reducible rfl)
                    simp only [List.setIfInBounds_toArray, List.set_cons_zero, List.set_cons_succ]
                    refine anyE_tk 10 52 (oi := ?oi179) (v := ?v179) ?hi179 ?hd179 (by kernel_rfl) (by kernel_rfl) (by kernel_rfl) ?hQ179 ?hy179 hS ?rest179
                    case hi179 => simp only [List.getElem?_toArray, List.getElem?_cons_zero, List.getElem?_cons_succ]; rfl
                    case hd179 => rfl
                    case hQ179 => exact fun _ _ _ h => h
                    case hy179 => (refine Or.inl ⟨by rfl, ?_⟩; intro w hSw; (try dsimp only at hSw); go_simp; try with_reducible rfl)
                    simp only [List.setIfInBounds_toArray, List.set_cons_zero, List.set_cons_succ]
                    refine anyE_tk 11 53 (oi := ?oi180) (v := ?v180) ?hi180 ?hd180 (by kernel_rfl) (by kernel_rfl) (by kernel_rfl) ?hQ180 ?hy180 hS ?rest180
                    case hi180 => simp only [List.getElem?_toArray, List.getElem?_cons_zero, List.getElem?_cons_succ]; rfl
                    case hd180 => rfl
                    case hQ180 => exact fun _ _ _ h => h
                    case hy180 => (refine Or.inl ⟨by rfl, ?_⟩; intro w hSw; (try dsimp only at hSw); go_simp; try with_reducible rfl)
                    simp only [List.setIfInBounds_toArray, List.set_cons_zero, List.set_cons_succ]
                    refine anyE_tk 12 54 (oi := ?oi181) (v := ?v181) ?hi181 ?hd181 (by kernel_rfl) (by kernel_rfl) (by kernel_rfl) ?hQ181 ?hy181 hS ?rest181
                    case hi181 => simp only [List.getElem?_toArray, List.getElem?_cons_zero, List.getElem?_cons_succ]; rfl
                    case hd181 => rfl
                    case hQ181 => exact fun _ _ _ h => h
                    case hy181 => (refine Or.inl ⟨by rfl, ?_⟩; intro w hSw; (try dsimp only at hSw); go_simp; try with_reducible rfl)
                    simp only [List.setIfInBounds_toArray, List.set_cons_zero, List.set_cons_succ]
                    refine anyE_tk 13 55 (oi := ?oi182) (v := ?v182) ?hi182 ?hd182 (by kernel_rfl) (by kernel_rfl) (by kernel_rfl) ?hQ182 ?hy182 hS ?rest182
                    case hi182 => simp only [List.getElem?_toArray, List.getElem?_cons_zero, List.getElem?_cons_succ]; rfl
                    case hd182 => rfl
                    case hQ182 => exact fun _ _ _ h => h
                    case hy182 => (refine Or.inl ⟨by rfl, ?_⟩; intro w hSw; (try dsimp only at hSw); go_simp; try with_reducible rfl)
                    simp only [List.setIfInBounds_toArray, List.set_cons_zero, List.set_cons_succ]
                    refine anyE_tk 14 56 (oi := ?oi183) (v := ?v183) ?hi183 ?hd183 (by kernel_rfl) (by kernel_rfl) (by kernel_rfl) ?hQ183 ?hy183 hS ?rest183
                    case hi183 => simp only [List.getElem?_toArray, List.getElem?_cons_zero, List.getElem?_cons_succ]; rfl
                    case hd183 => rfl
                    case hQ183 => exact fun _ _ _ h => h
                    case hy183 => (refine Or.inl ⟨by rfl, ?_⟩; intro w hSw; (try dsimp only at hSw); go_simp; try with_reducible rfl)
                    simp only [List.setIfInBounds_toArray, List.set_cons_zero, List.set_cons_succ]
                    refine anyE_tk 15 57 (oi := ?oi184) (v := ?v184) ?hi184 ?hd184 (by kernel_rfl) (by kernel_rfl) (by kernel_rfl) ?hQ184 ?hy184 hS ?rest184
                    case hi184 => simp only [List.getElem?_toArray, List.getElem?_cons_zero, List.getElem?_cons_succ]; rfl
                    case hd184 => rfl
                    case hQ184 => exact fun _ _ _ h => h
                    case hy184 => (refine Or.inl ⟨by rfl, ?_⟩; intro w hSw; (try dsimp only at hSw); go_simp; try with_reducible rfl)
                    simp only [List.setIfInBounds_toArray, List.set_cons_zero, List.set_cons_succ]
                    refine anyE_tk 16 58 (oi := ?oi185) (v := ?v185) ?hi185 ?hd185 (by kernel_rfl) (by kernel_rfl) (by kernel_rfl) ?hQ185 ?hy185 hS ?rest185
                    case hi185 => simp only [List.getElem?_toArray, List.getElem?_cons_zero, List.getElem?_cons_succ]; rfl
                    case hd185 => rfl
                    case hQ185 => exact fun _ _ _ h => h
                    case hy185 => (refine Or.inl ⟨by rfl, ?_⟩; intro w hSw; (try dsimp only at hSw); go_simp; try with_reducible rfl)
                    simp only [List.setIfInBounds_toArray, List.set_cons_zero, List.set_cons_succ]
                    refine anyE_tk 17 59 (oi := ?oi186) (v := ?v186) ?hi186 ?hd186 (by kernel_rfl) (by kernel_rfl) (by kernel_rfl) ?hQ186 ?hy186 hS ?rest186
                    case hi186 => simp only [List.getElem?_toArray, List.getElem?_cons_zero, List.getElem?_cons_succ]; rfl
                    case hd186 => rfl
                    case hQ186 => exact fun _ _ _ h => h
                    case hy186 => (refine Or.inl ⟨by rfl, ?_⟩; intro w hSw; (try dsimp only at hSw); go_simp; try with_reducible rfl)
                    simp only [List.setIfInBounds_toArray, List.set_cons_zero, List.set_cons_succ]
                    refine anyE_tk 18 60 (oi := ?oi187) (v := ?v187) ?hi187 ?hd187 (by kernel_rfl) (by kernel_rfl) (by kernel_rfl) ?hQ187 ?hy187 hS ?rest187
                    case hi187 => simp only [List.getElem?_toArray, List.getElem?_cons_zero, List.getElem?_cons_succ]; rfl
                    case hd187 => rfl
                    case hQ187 => exact fun _ _ _ h => h
                    case hy187 => (refine Or.inl ⟨by rfl, ?_⟩; intro w hSw; (try dsimp only at hSw); go_simp; try with_reducible rfl)
                    simp only [List.setIfInBounds_toArray, List.set_cons_zero, List.set_cons_succ]
                    refine anyE_tk 19 61 (oi := ?oi188) (v := ?v188) ?hi188 ?hd188 (by kernel_rfl) (by kernel_rfl) (by kernel_rfl) ?hQ188 ?hy188 hS ?rest188
                    case hi188 => simp only [List.getElem?_toArray, List.getElem?_cons_zero, List.getElem?_cons_succ]; rfl
                    case hd188 => rfl
                    case hQ188 => exact fun _ _ _ h => h
                    case hy188 => (refine Or.inl ⟨by rfl, ?_⟩; intro w hSw; (try dsimp only at hSw); go_simp; try with_reducible rfl)
                    simp only [List.setIfInBounds_toArray, List.set_cons_zero, List.set_cons_succ]
                    refine anyE_tk 20 62 (oi := ?oi189) (v := ?v189) ?hi189 ?hd189 (by kernel_rfl) (by kernel_rfl) (by kernel_rfl) ?hQ189 ?hy189 hS ?rest189
                    case hi189 => simp only [List.getElem?_toArray, List.getElem?_cons_zero, List.getElem?_cons_succ]; rfl
                    case hd189 => rfl
                    case hQ189 => exact fun _ _ _ h => h
                    case hy189 => (refine Or.inl ⟨by rfl, ?_⟩; intro w hSw; (try dsimp only at hSw); go_simp; try with_reducible rfl)
                    simp only [List.setIfInBounds_toArray, List.set_cons_zero, List.set_cons_succ]
                    refine anyE_tk 21 63 (oi := ?oi190) (v := ?v190) ?hi190 ?hd190 (by kernel_rfl) (by kernel_rfl) (by kernel_rfl) ?hQ190 ?hy190 hS ?rest190
                    case hi190 => simp only [List.getElem?_toArray, List.getElem?_cons_zero, List.getElem?_cons_succ]; rfl
                    case hd190 => rfl
                    case hQ190 => exact fun _ _ _ h => h
                    case hy190 => (refine Or.inl ⟨by rfl, ?_⟩; intro w hSw; (try dsimp only at hSw); go_simp; try with_reducible rfl)
                    simp only [List.setIfInBounds_toArray, List.set_cons_zero, List.set_cons_succ]
                    refine anyE_tk 22 64 (oi := ?oi191) (v := ?v191) ?hi191 ?hd191 (by kernel_rfl) (by kernel_rfl) (by kernel_rfl) ?hQ191 ?hy191 hS ?rest191
                    case hi191 => simp only [List.getElem?_toArray, List.getElem?_cons_zero, List.getElem?_cons_succ]; rfl
                    case hd191 => rfl
                    case hQ191 => exact fun _ _ _ h => h
                    case hy191 => (refine Or.inl ⟨by rfl, ?_⟩; intro w hSw; (try dsimp only at hSw); go_simp; try with_reducible rfl)
                    simp only [List.setIfInBounds_toArray, List.set_cons_zero, List.set_cons_succ]
                    refine anyE_tk 23 65 (oi := ?oi192) (v := ?v192) ?hi192 ?hd192 (by kernel_rfl) (by kernel_rfl) (by kernel_rfl) ?hQ192 ?hy192 hS ?rest192
                    case hi192 => simp only [List.getElem?_toArray, List.getElem?_cons_zero, List.getElem?_cons_succ]; rfl
                    case hd192 => rfl
                    case hQ192 => exact fun _ _ _ h => h
                    case hy192 => (refine Or.inl ⟨by rfl, ?_⟩; intro w hSw; (try dsimp only at hSw); go_simp; try with_reducible rfl)
                    simp only [List.setIfInBounds_toArray, List.set_cons_zero, List.set_cons_succ]
                    refine anyE_tk 24 66 (oi := ?oi193) (v := ?v193) ?hi193 ?hd193 (by kernel_rfl) (by kernel_rfl) (by kernel_rfl) ?hQ193 ?hy193 hS ?rest193
                    case hi193 => simp only [List.getElem?_toArray, List.getElem?_cons_zero, List.getElem?_cons_succ]; rfl
                    case hd193 => rfl
                    case hQ193 => exact fun _ _ _ h => h
                    case hy193 => (refine Or.inl ⟨by rfl, ?_⟩; intro w hSw; (try dsimp only at hSw); go_simp; try with_reducible rfl)
                    simp only [List.setIfInBounds_toArray, List.set_cons_zero, List.set_cons_succ]
                    refine anyE_tk 25 67 (oi := ?oi194) (v := ?v194) ?hi194 ?hd194 (by kernel_rfl) (by kernel_rfl) (by kernel_rfl) ?hQ194 ?hy194 hS ?rest194
                    case hi194 => simp only [List.getElem?_toArray, List.getElem?_cons_zero, List.getElem?_cons_succ]; rfl
                    case hd194 => rfl
                    case hQ194 => exact fun _ _ _ h => h
                    case hy194 => (refine Or.inl ⟨by rfl, ?_⟩; intro w hSw; (try dsimp only at hSw); go_simp; try with_reducible rfl)
                    simp only [List.setIfInBounds_toArray, List.set_cons_zero, List.set_cons_succ]
                    refine anyE_tk 26 68 (oi := ?oi195) (v := ?v195) ?hi195 ?hd195 (by kernel_rfl) (by kernel_rfl) (by kernel_rfl) ?hQ195 ?hy195 hS ?rest195
                    case hi195 => simp only [List.getElem?_toArray, List.getElem?_cons_zero, List.getElem?_cons_succ]; rfl
                    case hd195 => rfl
                    case hQ195 => exact fun _ _ _ h => h
                    case hy195 => (refine Or.inl ⟨by rfl, ?_⟩; intro w hSw; (try dsimp only at hSw); go_simp; try with_reducible rfl)
                    simp only [List.setIfInBounds_toArray, List.set_cons_zero, List.set_cons_succ]
                    refine anyE_tk 27 69 (oi := ?oi196) (v := ?v196) ?hi196 ?hd196 (by kernel_rfl) (by kernel_rfl) (by kernel_rfl) ?hQ196 ?hy196 hS ?rest196
                    case hi196 => simp only [List.getElem?_toArray, List.getElem?_cons_zero, List.getElem?_cons_succ]; rfl
                    case hd196 => rfl
                    case hQ196 => exact fun _ _ _ h => h
                    case hy196 => (refine Or.inl ⟨by rfl, ?_⟩; intro w hSw; (try dsimp only at hSw); go_simp; try with_reducible rfl)
                    simp only [List.setIfInBounds_toArray, List.set_cons_zero, List.set_cons_succ]
                    refine anyE_tk 28 70 (oi := ?oi197) (v := ?v197) ?hi197 ?hd197 (by kernel_rfl) (by kernel_rfl) (by kernel_rfl) ?hQ197 ?hy197 hS ?rest197
                    case hi197 => simp only [List.getElem?_toArray, List.getElem?_cons_zero, List.getElem?_cons_succ]; rfl
                    case hd197 => rfl
                    case hQ197 => exact fun _ _ _ h => h
                    case hy197 => (refine Or.inl ⟨by rfl, ?_⟩; intro w hSw; (try dsimp only at hSw); go_simp; try with_reducible rfl)
                    simp only [List.setIfInBounds_toArray, List.set_cons_zero, List.set_cons_succ]
                    refine anyE_tk 29 71 (oi := ?oi198) (v := ?v198) ?hi198 ?hd198 (by kernel_rfl) (by kernel_rfl) (by kernel_rfl) ?hQ198 ?hy198 hS ?rest198
                    case hi198 => simp only [List.getElem?_toArray, List.getElem?_cons_zero, List.getElem?_cons_succ]; rfl
                    case hd198 => rfl
                    case hQ198 => exact fun _ _ _ h => h
                    case hy198 => (refine Or.inl ⟨by rfl, ?_⟩; intro w hSw; (try dsimp only at hSw); go_simp; try with_reducible rfl)
                    simp only [List.setIfInBounds_toArray, List.set_cons_zero, List.set_cons_succ]
                    refine anyE_done (by kernel_rfl) ?_ _
                    clear hS
                    go_wp2_with fail
                    go_roundw
                    case rel => exact ⟨j + 1, by omega, by push_cast; rfl, by rw [Hss.out], HBx.out.trans (HBc.out.mono HBx.out.size)⟩
                    case measure => simp [intOf]; omega
                  case step173 =>
                    go_simp
                    have H47 := Lib.hid (Blk.new W43 3 #[.int .i64 ((j : Int) + 1)])
                    have hx : (World.heap W43).size ≠ x43 := fun e => by have := (H43.out.lt x43 rfl).2; omega
                    have H43 := Lib.hid (H43.out.alloc (.cells #[.int .i64 ((j : Int) + 1)] 3))
                    have HBc := Lib.hid (HBc.out.alloc HBc.out.size (.cells #[.int .i64 ((j : Int) + 1)] 3))
                    generalize World.alloc W43 (.cells #[.int .i64 ((j : Int) + 1)] 3) = W47 at H47 HBc H43 ⊢
                    generalize (World.heap W43).size = x47 at H47 hx ⊢
                    refine hK.out _ _ (fun _ => Keep.out _ HBc.out) ?_
                    clear hK K
                    try simp only [Act.put, List.setIfInBounds_toArray, List.set_cons_zero, List.set_cons_succ]
                    refine anyE_one (i := 3) (o := ?oi199) (by kernel_rfl) ?hi199 (fun K hK => ?step199)
                    case hi199 => simp only [List.getElem?_toArray, List.getElem?_cons_zero, List.getElem?_cons_succ]; rfl
                    refine step_app' _ (by rfl) (.tmp 43) (.tmp 44) 28 (by rfl) wr.heap.size 3 j0 _ 1 8 Try.underlying28 hj hy0 hy1 hy2 (by rfl) (by decide) (.slice (some ⟨x43, 0, none⟩) 0 0) 0 [] (by rfl) H43.out (some ⟨bt, ot, none⟩) (k + 1) c3 ((intL (rdT f n first k)).map (Value.int .i64)) (by rfl) (by rw [List.length_map, intL_length, Hlen.out, Nat.mul_one]) (fun e => by cases e) (IntsAt.news (HIt3.out.below HBc.out HBc.out.size)) (ints_one _) (by omega) (by decide) HBc.out.size (k + 1) (by omega) ((intL (rdT f n first k)).map (Value.int .i64)) (by rfl) ?_
                    intro A4 c4 W45 hown4 hg4 hlow4
                    have H45 := Lib.hid hown4
                    have H47 := Lib.hid (H47.out.grown hg4 (by simpa [Value.ownBlock] using hx))
                    have HBc := Lib.hid (HBc.out.grown hg4 HBc.out.size hlow4)
                    clear hown4 hg4 hlow4 H43
                    refine hK.out _ _ (fun _ => Keep.out _ HBc.out) ?_
                    clear hK K
                    try simp only [Act.put, List.setIfInBounds_toArray, List.set_cons_zero, List.set_cons_succ]
                    refine anyE_one (i := 6) (o := ?oi200) (by kernel_rfl) ?hi200 (fun K hK => ?step200)
                    case hi200 => simp only [List.getElem?_toArray, List.getElem?_cons_zero, List.getElem?_cons_succ]; rfl
                    refine step_app' _ (by rfl) (.tmp 45) (.tmp 47) 28 (by rfl) wr.heap.size 3 j0 _ 1 8 Try.underlying28 hj hy0 hy1 hy2 (by rfl) (by decide) (.slice A4 (k + 1) c4) (k + 1) ((intL (rdT f n first k)).map (Value.int .i64)) (by rfl) H45.out (some ⟨x47, 0, none⟩) 1 1 [.int .i64 ((j : Int) + 1)] (by rfl) (by rfl) (by simp) (news_blk (t := 3) (cs := #[.int .i64 ((j : Int) + 1)]) H47.out) (by simp [Value.oneCell']) (by omega) (by decide) HBc.out.size (k + 2) (by omega) ((intL (rdT f n first k ++ [j + 1])).map (Value.int .i64)) HSn.out ?_
                    intro A5 c5 W48 hown5 hg5 hlow5
                    have HI5 := Lib.hid (IntsAt.of_own (zs := intL (rdT f n first k ++ [j + 1])) (by rw [intL_length, List.length_append, Hlen.out]; exact hown5))
                    have HBc := Lib.hid (HBc.out.grown hg5 HBc.out.size hlow5)
                    clear hown5 hg5 hlow5 H45 H47
                    refine hK.out _ _ (fun _ => Keep.out _ HBc.out) ?_
                    clear hK K
                    try simp only [Act.put, List.setIfInBounds_toArray, List.set_cons_zero, List.set_cons_succ]
                    refine anyE_one (i := 7) (o := ?oi201) (by kernel_rfl) ?hi201 (fun K hK => ?step201)
                    case hi201 => simp only [List.getElem?_toArray, List.getElem?_cons_zero, List.getElem?_cons_succ]; rfl
                    go_simp
                    refine (citj.out A5 c5 _ HI5.out).mono ?_
                    rintro e W49 ⟨rfl, hd6⟩
                    have HBc := Lib.hid (HBc.out.trans (hd6.mono HBc.out.size))
                    clear hd6 HI5
                    go_wp2_with fail
                    refine hK.out _ _ (fun _ => Keep.out _ HBc.out) ?_
                    clear hK K
                    try simp only [Act.put, List.setIfInBounds_toArray, List.set_cons_zero, List.set_cons_succ]
                    have hS := Keep.out _ HBc.out
                    refine anyE_tk 8 50 (oi := ?oi202) (v := ?v202) ?hi202 ?hd202 (by kernel_rfl) (by kernel_rfl) (by kernel_rfl) ?hQ202 ?hy202 hS ?rest202
                    case hi202 => simp only [List.getElem?_toArray, List.getElem?_cons_zero, List.getElem?_cons_succ]; rfl
                    case hd202 => rfl
                    case hQ202 => exact fun _ _ _ h => h
                    case hy202 => (refine Or.inl ⟨by rfl, ?_⟩; intro w hSw; (try dsimp only at hSw); go_simp; try with_reducible rfl)
                    simp only [List.setIfInBounds_toArray, List.set_cons_zero, List.set_cons_succ]
                    refine anyE_tk 9 51 (oi := ?oi203) (v := ?v203) ?hi203 ?hd203 (by kernel_rfl) (by kernel_rfl) (by kernel_rfl) ?hQ203 ?hy203 hS ?rest203
                    case hi203 => simp only [List.getElem?_toArray, List.getElem?_cons_zero, List.getElem?_cons_succ]; rfl
                    case hd203 => rfl
                    case hQ203 => exact fun _ _ _ h => h
                    case hy203 => (refine Or.inl ⟨by rfl, ?_⟩; intro w hSw; (try dsimp only at hSw); go_simp; try with_reducible rfl)
                    simp only [List.setIfInBounds_toArray, List.set_cons_zero, List.set_cons_succ]
                    refine anyE_tk 10 52 (oi := ?oi204) (v := ?v204) ?hi204 ?hd204 (by kernel_rfl) (by kernel_rfl) (by kernel_rfl) ?hQ204 ?hy204 hS ?rest204
                    case hi204 => simp only [List.getElem?_toArray, List.getElem?_cons_zero, List.getElem?_cons_succ]; rfl
                    case hd204 => rfl
                    case hQ204 => exact fun _ _ _ h => h
                    case hy204 => (refine Or.inl ⟨by rfl, ?_⟩; intro w hSw; (try dsimp only at hSw); go_simp; try with_reducible rfl)
                    simp only [List.setIfInBounds_toArray, List.set_cons_zero, List.set_cons_succ]
                    refine anyE_tk 11 53 (oi := ?oi205) (v := ?v205) ?hi205 ?hd205 (by kernel_rfl) (by kernel_rfl) (by kernel_rfl) ?hQ205 ?hy205 hS ?rest205
                    case hi205 => simp only [List.getElem?_toArray, List.getElem?_cons_zero, List.getElem?_cons_succ]; rfl
                    case hd205 => rfl
                    case hQ205 => exact fun _ _ _ h => h
                    case hy205 => (refine Or.inl ⟨by rfl, ?_⟩; intro w hSw; (try dsimp only at hSw); go_simp; try with_reducible rfl)
                    simp only [List.setIfInBounds_toArray, List.set_cons_zero, List.set_cons_succ]
                    refine anyE_tk 12 54 (oi := ?oi206) (v := ?v206) ?hi206 ?hd206 (by kernel_rfl) (by kernel_rfl) (by kernel_rfl) ?hQ206 ?hy206 hS ?rest206
                    case hi206 => simp only [List.getElem?_toArray, List.getElem?_cons_zero, List.getElem?_cons_succ]; rfl
                    case hd206 => rfl
                    case hQ206 => exact fun _ _ _ h => h
                    case hy206 => (refine Or.inl ⟨by rfl, ?_⟩; intro w hSw; (try dsimp only at hSw); go_simp; try with_reducible rfl)
                    simp only [List.setIfInBounds_toArray, List.set_cons_zero, List.set_cons_succ]
                    refine anyE_tk 13 55 (oi := ?oi207) (v := ?v207) ?hi207 ?hd207 (by kernel_rfl) (by kernel_rfl) (by kernel_rfl) ?hQ207 ?hy207 hS ?rest207
                    case hi207 => simp only [List.getElem?_toArray, List.getElem?_cons_zero, List.getElem?_cons_succ]; rfl
                    case hd207 => rfl
                    case hQ207 => exact fun _ _ _ h => h
                    case hy207 => (refine Or.inl ⟨by rfl, ?_⟩; intro w hSw; (try dsimp only at hSw); go_simp; try with_reducible rfl)
                    simp only [List.setIfInBounds_toArray, List.set_cons_zero, List.set_cons_succ]
                    refine anyE_tk 14 56 (oi := ?oi208) (v := ?v208) ?hi208 ?hd208 (by kernel_rfl) (by kernel_rfl) (by kernel_rfl) ?hQ208 ?hy208 hS ?rest208
                    case hi208 => simp only [List.getElem?_toArray, List.getElem?_cons_zero, List.getElem?_cons_succ]; rfl
                    case hd208 => rfl
                    case hQ208 => exact fun _ _ _ h => h
                    case hy208 => (refine Or.inl ⟨by rfl, ?_⟩; intro w hSw; (try dsimp only at hSw); go_simp; try with_reducible rfl)
                    simp only [List.setIfInBounds_toArray, List.set_cons_zero, List.set_cons_succ]
                    refine anyE_tk 15 57 (oi := ?oi209) (v := ?v209) ?hi209 ?hd209 (by kernel_rfl) (by kernel_rfl) (by kernel_rfl) ?hQ209 ?hy209 hS ?rest209
                    case hi209 => simp only [List.getElem?_toArray, List.getElem?_cons_zero, List.getElem?_cons_succ]; rfl
                    case hd209 => rfl
                    case hQ209 => exact fun _ _ _ h => h
                    case hy209 => (refine Or.inl ⟨by rfl, ?_⟩; intro w hSw; (try dsimp only at hSw); go_simp; try with_reducible rfl)
                    simp only [List.setIfInBounds_toArray, List.set_cons_zero, List.set_cons_succ]
                    refine anyE_tk 16 58 (oi := ?oi210) (v := ?v210) ?hi210 ?hd210 (by kernel_rfl) (by kernel_rfl) (by kernel_rfl) ?hQ210 ?hy210 hS ?rest210
                    case hi210 => simp only [List.getElem?_toArray, List.getElem?_cons_zero, List.getElem?_cons_succ]; rfl
                    case hd210 => rfl
                    case hQ210 => exact fun _ _ _ h => h
                    case hy210 => (refine Or.inl ⟨by rfl, ?_⟩; intro w hSw; (try dsimp only at hSw); go_simp; try with_reducible rfl)
                    simp only [List.setIfInBounds_toArray, List.set_cons_zero, List.set_cons_succ]
                    refine anyE_tk 17 59 (oi := ?oi211) (v := ?v211) ?hi211 ?hd211 (by kernel_rfl) (by kernel_rfl) (by kernel_rfl) ?hQ211 ?hy211 hS ?rest211
                    case hi211 => simp only [List.getElem?_toArray, List.getElem?_cons_zero, List.getElem?_cons_succ]; rfl
                    case hd211 => rfl
                    case hQ211 => exact fun _ _ _ h => h
                    case hy211 => (refine Or.inl ⟨by rfl, ?_⟩; intro w hSw; (try dsimp only at hSw); go_simp; try with_reducible rfl)
                    simp only [List.setIfInBounds_toArray, List.set_cons_zero, List.set_cons_succ]
                    refine anyE_tk 18 60 (oi := ?oi212) (v := ?v212) ?hi212 ?hd212 (by kernel_rfl) (by kernel_rfl) (by kernel_rfl) ?hQ212 ?hy212 hS ?rest212
                    case hi212 => simp only [List.getElem?_toArray, List.getElem?_cons_zero, List.getElem?_cons_succ]; rfl
                    case hd212 => rfl
                    case hQ212 => exact fun _ _ _ h => h
                    case hy212 => (refine Or.inl ⟨by rfl, ?_⟩; intro w hSw; (try dsimp only at hSw); go_simp; try with_reducible rfl)
                    simp only [List.setIfInBounds_toArray, List.set_cons_zero, List.set_cons_succ]
                    refine anyE_tk 19 61 (oi := ?oi213) (v := ?v213) ?hi213 ?hd213 (by kernel_rfl) (by kernel_rfl) (by kernel_rfl) ?hQ213 ?hy213 hS ?rest213
                    case hi213 => simp only [List.getElem?_toArray, List.getElem?_cons_zero, List.getElem?_cons_succ]; rfl
                    case hd213 => rfl
                    case hQ213 => exact fun _ _ _ h => h
                    case hy213 => (refine Or.inl ⟨by rfl, ?_⟩; intro w hSw; (try dsimp only at hSw); go_simp; try with_reducible rfl)
                    simp only [List.setIfInBounds_toArray, List.set_cons_zero, List.set_cons_succ]
                    refine anyE_tk 20 62 (oi := ?oi214) (v := ?v214) ?hi214 ?hd214 (by kernel_rfl) (by kernel_rfl) (by kernel_rfl) ?hQ214 ?hy214 hS ?rest214
                    case hi214 => simp only [List.getElem?_toArray, List.getElem?_cons_zero, List.getElem?_cons_succ]; rfl
                    case hd214 => rfl
                    case hQ214 => exact fun _ _ _ h => h
                    case hy214 => (refine Or.inl ⟨by rfl, ?_⟩; intro w hSw; (try dsimp only at hSw); go_simp; try with_reducible rfl)
                    simp only [List.setIfInBounds_toArray, List.set_cons_zero, List.set_cons_succ]
                    refine anyE_tk 21 63 (oi := ?oi215) (v := ?v215) ?hi215 ?hd215 (by kernel_rfl) (by kernel_rfl) (by kernel_rfl) ?hQ215 ?hy215 hS ?rest215
                    case hi215 => simp only [List.getElem?_toArray, List.getElem?_cons_zero, List.getElem?_cons_succ]; rfl
                    case hd215 => rfl
                    case hQ215 => exact fun _ _ _ h => h
                    case hy215 => (refine Or.inl ⟨by rfl, ?_⟩; intro w hSw; (try dsimp only at hSw); go_simp; try with_reducible rfl)
                    simp only [List.setIfInBounds_toArray, List.set_cons_zero, List.set_cons_succ]
                    refine anyE_tk 22 64 (oi := ?oi216) (v := ?v216) ?hi216 ?hd216 (by kernel_rfl) (by kernel_rfl) (by kernel_rfl) ?hQ216 ?hy216 hS ?rest216
                    case hi216 => simp only [List.getElem?_toArray, List.getElem?_cons_zero, List.getElem?_cons_succ]; rfl
                    case hd216 => rfl
                    case hQ216 => exact fun _ _ _ h => h
                    case hy216 => (refine Or.inl ⟨by rfl, ?_⟩; intro w hSw; (try dsimp only at hSw); go_simp; try with_reducible rfl)
                    simp only [List.setIfInBounds_toArray, List.set_cons_zero, List.set_cons_succ]
                    refine anyE_tk 23 65 (oi := ?oi217) (v := ?v217) ?hi217 ?hd217 (by kernel_rfl) (by kernel_rfl) (by kernel_rfl) ?hQ217 ?hy217 hS ?rest217
                    case hi217 => simp only [List.getElem?_toArray, List.getElem?_cons_zero, List.getElem?_cons_succ]; rfl
                    case hd217 => rfl
                    case hQ217 => exact fun _ _ _ h => h
                    case hy217 => (refine Or.inl ⟨by rfl, ?_⟩; intro w hSw; (try dsimp only at hSw); go_simp; try with_reducible rfl)
                    simp only [List.setIfInBounds_toArray, List.set_cons_zero, List.set_cons_succ]
                    refine anyE_tk 24 66 (oi := ?oi218) (v := ?v218) ?hi218 ?hd218 (by kernel_rfl) (by kernel_rfl) (by kernel_rfl) ?hQ218 ?hy218 hS ?rest218
                    case hi218 => simp only [List.getElem?_toArray, List.getElem?_cons_zero, List.getElem?_cons_succ]; rfl
                    case hd218 => rfl
                    case hQ218 => exact fun _ _ _ h => h
                    case hy218 => (refine Or.inl ⟨by rfl, ?_⟩; intro w hSw; (try dsimp only at hSw); go_simp; try with_reducible rfl)
                    simp only [List.setIfInBounds_toArray, List.set_cons_zero, List.set_cons_succ]
                    refine anyE_tk 25 67 (oi := ?oi219) (v := ?v219) ?hi219 ?hd219 (by kernel_rfl) (by kernel_rfl) (by kernel_rfl) ?hQ219 ?hy219 hS ?rest219
                    case hi219 => simp only [List.getElem?_toArray, List.getElem?_cons_zero, List.getElem?_cons_succ]; rfl
                    case hd219 => rfl
                    case hQ219 => exact fun _ _ _ h => h
                    case hy219 => (refine Or.inl ⟨by rfl, ?_⟩; intro w hSw; (try dsimp only at hSw); go_simp; try with_reducible rfl)
                    simp only [List.setIfInBounds_toArray, List.set_cons_zero, List.set_cons_succ]
                    refine anyE_tk 26 68 (oi := ?oi220) (v := ?v220) ?hi220 ?hd220 (by kernel_rfl) (by kernel_rfl) (by kernel_rfl) ?hQ220 ?hy220 hS ?rest220
                    case hi220 => simp only [List.getElem?_toArray, List.getElem?_cons_zero, List.getElem?_cons_succ]; rfl
                    case hd220 => rfl
                    case hQ220 => exact fun _ _ _ h => h
                    case hy220 => (refine Or.inl ⟨by rfl, ?_⟩; intro w hSw; (try dsimp only at hSw); go_simp; try with_reducible rfl)
                    simp only [List.setIfInBounds_toArray, List.set_cons_zero, List.set_cons_succ]
                    refine anyE_tk 27 69 (oi := ?oi221) (v := ?v221) ?hi221 ?hd221 (by kernel_rfl) (by kernel_rfl) (by kernel_rfl) ?hQ221 ?hy221 hS ?rest221
                    case hi221 => simp only [List.getElem?_toArray, List.getElem?_cons_zero, List.getElem?_cons_succ]; rfl
                    case hd221 => rfl
                    case hQ221 => exact fun _ _ _ h => h
                    case hy221 => (refine Or.inl ⟨by rfl, ?_⟩; intro w hSw; (try dsimp only at hSw); go_simp; try with_reducible rfl)
                    simp only [List.setIfInBounds_toArray, List.set_cons_zero, List.set_cons_succ]
                    refine anyE_tk 28 70 (oi := ?oi222) (v := ?v222) ?hi222 ?hd222 (by kernel_rfl) (by kernel_rfl) (by kernel_rfl) ?hQ222 ?hy222 hS ?rest222
                    case hi222 => simp only [List.getElem?_toArray, List.getElem?_cons_zero, List.getElem?_cons_succ]; rfl
                    case hd222 => rfl
                    case hQ222 => exact fun _ _ _ h => h
                    case hy222 => (refine Or.inl ⟨by rfl, ?_⟩; intro w hSw; (try dsimp only at hSw); go_simp; try with_reducible rfl)
                    simp only [List.setIfInBounds_toArray, List.set_cons_zero, List.set_cons_succ]
                    refine anyE_tk 29 71 (oi := ?oi223) (v := ?v223) ?hi223 ?hd223 (by kernel_rfl) (by kernel_rfl) (by kernel_rfl) ?hQ223 ?hy223 hS ?rest223
                    case hi223 => simp only [List.getElem?_toArray, List.getElem?_cons_zero, List.getElem?_cons_succ]; rfl
                    case hd223 => rfl
                    case hQ223 => exact fun _ _ _ h => h
                    case hy223 => (refine Or.inl ⟨by rfl, ?_⟩; intro w hSw; (try dsimp only at hSw); go_simp; try with_reducible rfl)
                    simp only [List.setIfInBounds_toArray, List.set_cons_zero, List.set_cons_succ]
                    refine anyE_done (by kernel_rfl) ?_ _
                    clear hS
                    go_wp2_with fail
                    go_roundw
                    case rel => exact ⟨j + 1, by omega, by push_cast; rfl, by rw [Hss.out], HBx.out.trans (HBc.out.mono HBx.out.size)⟩
                    case measure => simp [intOf]; omega
                case step171 =>
                  go_simp
                  have H47 := Lib.hid (Blk.new W0 3 #[.int .i64 ((j : Int) + 1)])
                  have HBc := Lib.hid (HBc.out.alloc HBc.out.size (.cells #[.int .i64 ((j : Int) + 1)] 3))
                  generalize World.alloc W0 (.cells #[.int .i64 ((j : Int) + 1)] 3) = W47 at H47 HBc ⊢
                  generalize (World.heap W0).size = x47 at H47 ⊢
                  refine hK.out _ _ (fun _ => Keep.out _ HBc.out) ?_
                  clear hK K
                  try simp only [Act.put, List.setIfInBounds_toArray, List.set_cons_zero, List.set_cons_succ]
                  refine anyE_one (i := 1) (o := ?oi224) (by kernel_rfl) ?hi224 (fun K hK => ?step224)
                  case hi224 => simp only [List.getElem?_toArray, List.getElem?_cons_zero, List.getElem?_cons_succ]; rfl
                  go_simp
                  have H43 := Lib.hid (show (World.alloc W47 (.cells #[] 3)).ownsRow wr.heap.size 3 1 (.slice (some ⟨(World.heap W47).size, 0, none⟩) 0 0) 0 [] from own_base (own_new 1 (Nat.le_refl _)) HBc.out.size)
                  have hx : x47 ≠ (World.heap W47).size := Nat.ne_of_lt H47.out.lt
                  have H47 := Lib.hid (H47.out.alloc (.cells #[] 3))
                  have HBc := Lib.hid (HBc.out.alloc HBc.out.size (.cells #[] 3))
                  generalize World.alloc W47 (.cells #[] 3) = W43 at H43 HBc H47 ⊢
                  generalize (World.heap W47).size = x43 at H43 hx ⊢
                  refine hK.out _ _ (fun _ => Keep.out _ HBc.out) ?_
                  clear hK K
                  try simp only [Act.put, List.setIfInBounds_toArray, List.set_cons_zero, List.set_cons_succ]
                  refine anyE_one (i := 3) (o := ?oi225) (by kernel_rfl) ?hi225 (fun K hK => ?step225)
                  case hi225 => simp only [List.getElem?_toArray, List.getElem?_cons_zero, List.getElem?_cons_succ]; rfl
                  refine step_app' _ (by rfl) (.tmp 43) (.tmp 44) 28 (by rfl) wr.heap.size 3 j0 _ 1 8 Try.underlying28 hj hy0 hy1 hy2 (by rfl) (by decide) (.slice (some ⟨x43, 0, none⟩) 0 0) 0 [] (by rfl) H43.out (some ⟨bt, ot, none⟩) (k + 1) c3 ((intL (rdT f n first k)).map (Value.int .i64)) (by rfl) (by rw [List.length_map, intL_length, Hlen.out, Nat.mul_one]) (fun e => by cases e) (IntsAt.news (HIt3.out.below HBc.out HBc.out.size)) (ints_one _) (by omega) (by decide) HBc.out.size (k + 1) (by omega) ((intL (rdT f n first k)).map (Value.int .i64)) (by rfl) ?_
                  intro A4 c4 W45 hown4 hg4 hlow4
                  have H45 := Lib.hid hown4
                  have H47 := Lib.hid (H47.out.grown hg4 (by simpa [Value.ownBlock] using hx))
                  have HBc := Lib.hid (HBc.out.grown hg4 HBc.out.size hlow4)
                  clear hown4 hg4 hlow4 H43
                  refine hK.out _ _ (fun _ => Keep.out _ HBc.out) ?_
                  clear hK K
                  try simp only [Act.put, List.setIfInBounds_toArray, List.set_cons_zero, List.set_cons_succ]
                  refine anyE_one (i := 6) (o := ?oi226) (by kernel_rfl) ?hi226 (fun K hK => ?step226)
                  case hi226 => simp only [List.getElem?_toArray, List.getElem?_cons_zero, List.getElem?_cons_succ]; rfl
                  refine step_app' _ (by rfl) (.tmp 45) (.tmp 47) 28 (by rfl) wr.heap.size 3 j0 _ 1 8 Try.underlying28 hj hy0 hy1 hy2 (by rfl) (by decide) (.slice A4 (k + 1) c4) (k + 1) ((intL (rdT f n first k)).map (Value.int .i64)) (by rfl) H45.out (some ⟨x47, 0, none⟩) 1 1 [.int .i64 ((j : Int) + 1)] (by rfl) (by rfl) (by simp) (news_blk (t := 3) (cs := #[.int .i64 ((j : Int) + 1)]) H47.out) (by simp [Value.oneCell']) (by omega) (by decide) HBc.out.size (k + 2) (by omega) ((intL (rdT f n first k ++ [j + 1])).map (Value.int .i64)) HSn.out ?_
                  intro A5 c5 W48 hown5 hg5 hlow5
                  have HI5 := Lib.hid (IntsAt.of_own (zs := intL (rdT f n first k ++ [j + 1])) (by rw [intL_length, List.length_append, Hlen.out]; exact hown5))
                  have HBc := Lib.hid (HBc.out.grown hg5 HBc.out.size hlow5)
                  clear hown5 hg5 hlow5 H45 H47
                  refine hK.out _ _ (fun _ => Keep.out _ HBc.out) ?_
                  clear hK K
                  try simp only [Act.put, List.setIfInBounds_toArray, List.set_cons_zero, List.set_cons_succ]
                  refine anyE_one (i := 7) (o := ?oi227) (by kernel_rfl) ?hi227 (fun K hK => ?step227)
                  case hi227 => simp only [List.getElem?_toArray, List.getElem?_cons_zero, List.getElem?_cons_succ]; rfl
                  go_simp
                  refine (citj.out A5 c5 _ HI5.out).mono ?_
                  rintro e W49 ⟨rfl, hd6⟩
                  have HBc := Lib.hid (HBc.out.trans (hd6.mono HBc.out.size))
                  clear hd6 HI5
                  go_wp2_with fail
                  refine hK.out _ _ (fun _ => Keep.out _ HBc.out) ?_
                  clear hK K
                  try simp only [Act.put, List.setIfInBounds_toArray, List.set_cons_zero, List.set_cons_succ]
                  have hS := Keep.out _ HBc.out
                  refine anyE_tk 8 50 (oi := ?oi228) (v := ?v228) ?hi228 ?hd228 (by kernel_rfl) (by kernel_rfl) (by kernel_rfl) ?hQ228 ?hy228 hS ?rest228
                  case hi228 => simp only [List.getElem?_toArray, List.getElem?_cons_zero, List.getElem?_cons_succ]; rfl
                  case hd228 => rfl
                  case hQ228 => exact fun _ _ _ h => h
                  case hy228 => (refine Or.inl ⟨by rfl, ?_⟩; intro w hSw; (try dsimp only at hSw); go_simp; try with_reducible rfl)
                  simp only [List.setIfInBounds_toArray, List.set_cons_zero, List.set_cons_succ]
                  refine anyE_tk 9 51 (oi := ?oi229) (v := ?v229) ?hi229 ?hd229 (by kernel_rfl) (by kernel_rfl) (by kernel_rfl) ?hQ229 ?hy229 hS ?rest229
                  case hi229 => simp only [List.getElem?_toArray, List.getElem?_cons_zero, List.getElem?_cons_succ]; rfl
                  case hd229 => rfl
                  case hQ229 => exact fun _ _ _ h => h
                  case hy229 => (refine Or.inl ⟨by rfl, ?_⟩; intro w hSw; (try dsimp only at hSw); go_simp; try with_reducible rfl)
                  simp only [List.setIfInBounds_toArray, List.set_cons_zero, List.set_cons_succ]
                  refine anyE_tk 10 52 (oi := ?oi230) (v := ?v230) ?hi230 ?hd230 (by kernel_rfl) (by kernel_rfl) (by kernel_rfl) ?hQ230 ?hy230 hS ?rest230
                  case hi230 => simp only [List.getElem?_toArray, List.getElem?_cons_zero, List.getElem?_cons_succ]; rfl
                  case hd230 => rfl
                  case hQ230 => exact fun _ _ _ h => h
                  case hy230 => (refine Or.inl ⟨by rfl, ?_⟩; intro w hSw; (try dsimp only at hSw); go_simp; try with_reducible rfl)
                  simp only [List.setIfInBounds_toArray, List.set_cons_zero, List.set_cons_succ]
                  refine anyE_tk 11 53 (oi := ?oi231) (v := ?v231) ?hi231 ?hd231 (by kernel_rfl) (by kernel_rfl) (by kernel_rfl) ?hQ231 ?hy231 hS ?rest231
                  case hi231 => simp only [List.getElem?_toArray, List.getElem?_cons_zero, List.getElem?_cons_succ]; rfl
                  case hd231 => rfl
                  case hQ231 => exact fun _ _ _ h => h
                  case hy231 => (refine Or.inl ⟨by rfl, ?_⟩; intro w hSw; (try dsimp only at hSw); go_simp; try with_reducible rfl)
                  simp only [List.setIfInBounds_toArray, List.set_cons_zero, List.set_cons_succ]
                  refine anyE_tk 12 54 (oi := ?oi232) (v := ?v232) ?hi232 ?hd232 (by kernel_rfl) (by kernel_rfl) (by kernel_rfl) ?hQ232 ?hy232 hS ?rest232
                  case hi232 => simp only [List.getElem?_toArray, List.getElem?_cons_zero, List.getElem?_cons_succ]; rfl
                  case hd232 => rfl
                  case hQ232 => exact fun _ _ _ h => h
                  case hy232 => (refine Or.inl ⟨by rfl, ?_⟩; intro w hSw; (try dsimp only at hSw); go_simp; try with_reducible rfl)
                  simp only [List.setIfInBounds_toArray, List.set_cons_zero, List.set_cons_succ]
                  refine anyE_tk 13 55 (oi := ?oi233) (v := ?v233) ?hi233 ?hd233 (by kernel_rfl) (by kernel_rfl) (by kernel_rfl) ?hQ233 ?hy233 hS ?rest233
                  case hi233 => simp only [List.getElem?_toArray, List.getElem?_cons_zero, List.getElem?_cons_succ]; rfl
                  case hd233 => rfl
                  case hQ233 => exact fun _ _ _ h => h
                  case hy233 => (refine Or.inl ⟨by rfl, ?_⟩; intro w hSw; (try dsimp only at hSw); go_simp; try with_reducible rfl)
                  simp only [List.setIfInBounds_toArray, List.set_cons_zero, List.set_cons_succ]
                  refine anyE_tk 14 56 (oi := ?oi234) (v := ?v234) ?hi234 ?hd234 (by kernel_rfl) (by kernel_rfl) (by kernel_rfl) ?hQ234 ?hy234 hS ?rest234
                  case hi234 => simp only [List.getElem?_toArray, List.getElem?_cons_zero, List.getElem?_cons_succ]; rfl
                  case hd234 => rfl
                  case hQ234 => exact fun _ _ _ h => h
                  case hy234 => (refine Or.inl ⟨by rfl, ?_⟩; intro w hSw; (try dsimp only at hSw); go_simp; try with_reducible rfl)
                  simp only [List.setIfInBounds_toArray, List.set_cons_zero, List.set_cons_succ]
                  refine anyE_tk 15 57 (oi := ?oi235) (v := ?v235) ?hi235 ?hd235 (by kernel_rfl) (by kernel_rfl) (by kernel_rfl) ?hQ235 ?hy235 hS ?rest235
                  case hi235 => simp only [List.getElem?_toArray, List.getElem?_cons_zero, List.getElem?_cons_succ]; rfl
                  case hd235 => rfl
                  case hQ235 => exact fun _ _ _ h => h
                  case hy235 => (refine Or.inl ⟨by rfl, ?_⟩; intro w hSw; (try dsimp only at hSw); go_simp; try with_reducible rfl)
                  simp only [List.setIfInBounds_toArray, List.set_cons_zero, List.set_cons_succ]
                  refine anyE_tk 16 58 (oi := ?oi236) (v := ?v236) ?hi236 ?hd236 (by kernel_rfl) (by kernel_rfl) (by kernel_rfl) ?hQ236 ?hy236 hS ?rest236
                  case hi236 => simp only [List.getElem?_toArray, List.getElem?_cons_zero, List.getElem?_cons_succ]; rfl
                  case hd236 => rfl
                  case hQ236 => exact fun _ _ _ h => h
                  case hy236 => (refine Or.inl ⟨by rfl, ?_⟩; intro w hSw; (try dsimp only at hSw); go_simp; try with_reducible rfl)
                  simp only [List.setIfInBounds_toArray, List.set_cons_zero, List.set_cons_succ]
                  refine anyE_tk 17 59 (oi := ?oi237) (v := ?v237) ?hi237 ?hd237 (by kernel_rfl) (by kernel_rfl) (by kernel_rfl) ?hQ237 ?hy237 hS ?rest237
                  case hi237 => simp only [List.getElem?_toArray, List.getElem?_cons_zero, List.getElem?_cons_succ]; rfl
                  case hd237 => rfl
                  case hQ237 => exact fun _ _ _ h => h
                  case hy237 => (refine Or.inl ⟨by rfl, ?_⟩; intro w hSw; (try dsimp only at hSw); go_simp; try with_reducible rfl)
                  simp only [List.setIfInBounds_toArray, List.set_cons_zero, List.set_cons_succ]
                  refine anyE_tk 18 60 (oi := ?oi238) (v := ?v238) ?hi238 ?hd238 (by kernel_rfl) (by kernel_rfl) (by kernel_rfl) ?hQ238 ?hy238 hS ?rest238
                  case hi238 => simp only [List.getElem?_toArray, List.getElem?_cons_zero, List.getElem?_cons_succ]; rfl
                  case hd238 => rfl
                  case hQ238 => exact fun _ _ _ h => h
                  case hy238 => (refine Or.inl ⟨by rfl, ?_⟩; intro w hSw; (try dsimp only at hSw); go_simp; try with_reducible rfl)
                  simp only [List.setIfInBounds_toArray, List.set_cons_zero, List.set_cons_succ]
                  refine anyE_tk 19 61 (oi := ?oi239) (v := ?v239) ?hi239 ?hd239 (by kernel_rfl) (by kernel_rfl) (by kernel_rfl) ?hQ239 ?hy239 hS ?rest239
                  case hi239 => simp only [List.getElem?_toArray, List.getElem?_cons_zero, List.getElem?_cons_succ]; rfl
                  case hd239 => rfl
                  case hQ239 => exact fun _ _ _ h => h
                  case hy239 => (refine Or.inl ⟨by rfl, ?_⟩; intro w hSw; (try dsimp only at hSw); go_simp; try with_reducible rfl)
                  simp only [List.setIfInBounds_toArray, List.set_cons_zero, List.set_cons_succ]
                  refine anyE_tk 20 62 (oi := ?oi240) (v := ?v240) ?hi240 ?hd240 (by kernel_rfl) (by kernel_rfl) (by kernel_rfl) ?hQ240 ?hy240 hS ?rest240
                  case hi240 => simp only [List.getElem?_toArray, List.getElem?_cons_zero, List.getElem?_cons_succ]; rfl
                  case hd240 => rfl
                  case hQ240 => exact fun _ _ _ h => h
                  case hy240 => (refine Or.inl ⟨by rfl, ?_⟩; intro w hSw; (try dsimp only at hSw); go_simp; try with_reducible rfl)
                  simp only [List.setIfInBounds_toArray, List.set_cons_zero, List.set_cons_succ]
                  refine anyE_tk 21 63 (oi := ?oi241) (v := ?v241) ?hi241 ?hd241 (by kernel_rfl) (by kernel_rfl) (by kernel_rfl) ?hQ241 ?hy241 hS ?rest241
                  case hi241 => simp only [List.getElem?_toArray, List.getElem?_cons_zero, List.getElem?_cons_succ]; rfl
                  case hd241 => rfl
                  case hQ241 => exact fun _ _ _ h => h
                  case hy241 => (refine Or.inl ⟨by rfl, ?_⟩; intro w hSw; (try dsimp only at hSw); go_simp; try with_reducible rfl)
                  simp only [List.setIfInBounds_toArray, List.set_cons_zero, List.set_cons_succ]
                  refine anyE_tk 22 64 (oi := ?oi242) (v := ?v242) ?hi242 ?hd242 (by kernel_rfl) (by kernel_rfl) (by kernel_rfl) ?hQ242 ?hy242 hS ?rest242
                  case hi242 => simp only [List.getElem?_toArray, List.getElem?_cons_zero, List.getElem?_cons_succ]; rfl
                  case hd242 => rfl
                  case hQ242 => exact fun _ _ _ h => h
                  case hy242 => (refine Or.inl ⟨by rfl, ?_⟩; intro w hSw; (try dsimp only at hSw); go_simp; try with_reducible rfl)
                  simp only [List.setIfInBounds_toArray, List.set_cons_zero, List.set_cons_succ]
                  refine anyE_tk 23 65 (oi := ?oi243) (v := ?v243) ?hi243 ?hd243 (by kernel_rfl) (by kernel_rfl) (by kernel_rfl) ?hQ243 ?hy243 hS ?rest243
                  case hi243 => simp only [List.getElem?_toArray, List.getElem?_cons_zero, List.getElem?_cons_succ]; rfl
                  case hd243 => rfl
                  case hQ243 => exact fun _ _ _ h => h
                  case hy243 => (refine Or.inl ⟨by rfl, ?_⟩; intro w hSw; (try dsimp only at hSw); go_simp; try with_reducible rfl)
                  simp only [List.setIfInBounds_toArray, List.set_cons_zero, List.set_cons_succ]
                  refine anyE_tk 24 66 (oi := ?oi244) (v := ?v244) ?hi244 ?hd244 (by kernel_rfl) (by kernel_rfl) (by kernel_rfl) ?hQ244 ?hy244 hS ?rest244
                  case hi244 => simp only [List.getElem?_toArray, List.getElem?_cons_zero, List.getElem?_cons_succ]; rfl
                  case hd244 => rfl
                  case hQ244 => exact fun _ _ _ h => h
                  case hy244 => (refine Or.inl ⟨by rfl, ?_⟩; intro w hSw; (try dsimp only at hSw); go_simp; try with_reducible rfl)
                  simp only [List.setIfInBounds_toArray, List.set_cons_zero, List.set_cons_succ]
                  refine anyE_tk 25 67 (oi := ?oi245) (v := ?v245) ?hi245 ?hd245 (by kernel_rfl) (by kernel_rfl) (by kernel_rfl) ?hQ245 ?hy245 hS ?rest245
                  case hi245 => simp only [List.getElem?_toArray, List.getElem?_cons_zero, List.getElem?_cons_succ]; rfl
                  case hd245 => rfl
                  case hQ245 => exact fun _ _ _ h => h
                  case hy245 => (refine Or.inl ⟨by rfl, ?_⟩; intro w hSw; (try dsimp only at hSw); go_simp; try with_reducible rfl)
                  simp only [List.setIfInBounds_toArray, List.set_cons_zero, List.set_cons_succ]
                  refine anyE_tk 26 68 (oi := ?oi246) (v := ?v246) ?hi246 ?hd246 (by kernel_rfl) (by kernel_rfl) (by kernel_rfl) ?hQ246 ?hy246 hS ?rest246
                  case hi246 => simp only [List.getElem?_toArray, List.getElem?_cons_zero, List.getElem?_cons_succ]; rfl
                  case hd246 => rfl
                  case hQ246 => exact fun _ _ _ h => h
                  case hy246 => (refine Or.inl ⟨by rfl, ?_⟩; intro w hSw; (try dsimp only at hSw); go_simp; try with_reducible rfl)
                  simp only [List.setIfInBounds_toArray, List.set_cons_zero, List.set_cons_succ]
                  refine anyE_tk 27 69 (oi := ?oi247) (v := ?v247) ?hi247 ?hd247 (by kernel_rfl) (by kernel_rfl) (by kernel_rfl) ?hQ247 ?hy247 hS ?rest247
                  case hi247 => simp only [List.getElem?_toArray, List.getElem?_cons_zero, List.getElem?_cons_succ]; rfl
                  case hd247 => rfl
                  case hQ247 => exact fun _ _ _ h => h
                  case hy247 => (refine Or.inl ⟨by rfl, ?_⟩; intro w hSw; (try dsimp only at hSw); go_simp; try with_reducible rfl)
                  simp only [List.setIfInBounds_toArray, List.set_cons_zero, List.set_cons_succ]
                  refine anyE_tk 28 70 (oi := ?oi248) (v := ?v248) ?hi248 ?hd248 (by kernel_rfl) (by kernel_rfl) (by kernel_rfl) ?hQ248 ?hy248 hS ?rest248
                  case hi248 => simp only [List.getElem?_toArray, List.getElem?_cons_zero, List.getElem?_cons_succ]; rfl
                  case hd248 => rfl
                  case hQ248 => exact fun _ _ _ h => h
                  case hy248 => (refine Or.inl ⟨by rfl, ?_⟩; intro w hSw; (try dsimp only at hSw); go_simp; try with_reducible rfl)
                  simp only [List.setIfInBounds_toArray, List.set_cons_zero, List.set_cons_succ]
                  refine anyE_tk 29 71 (oi := ?oi249) (v := ?v249) ?hi249 ?hd249 (by kernel_rfl) (by kernel_rfl) (by kernel_rfl) ?hQ249 ?hy249 hS ?rest249
                  case hi249 => simp only [List.getElem?_toArray, List.getElem?_cons_zero, List.getElem?_cons_succ]; rfl
                  case hd249 => rfl
                  case hQ249 => exact fun _ _ _ h => h
                  case hy249 => (refine Or.inl ⟨by rfl, ?_⟩; intro w hSw; (try dsimp only at hSw); go_simp; try with_reducible rfl)
                  simp only [List.setIfInBounds_toArray, List.set_cons_zero, List.set_cons_succ]
                  refine anyE_done (by kernel_rfl) ?_ _
                  clear hS
                  go_wp2_with fail
                  go_roundw
                  case rel => exact ⟨j + 1, by omega, by push_cast; rfl, by rw [Hss.out], HBx.out.trans (HBc.out.mono HBx.out.size)⟩
                  case measure => simp [intOf]; omega
              · rw [if_neg (by omega)] at hss
                have hd3 : decide (f a (j + 1) < f a (S j)) = false := by simpa using hlt2
                have Hss := Lib.hid (show bsR (S (j + 1)) = ((S j : Nat) : Int) by rw [hss, hbs])
                have HE := Lib.hid (And.intro e1 (And.intro e2 e3))
                clear hin hss htu f1 hlt2 h0 hbs e1 e2 e3
                generalize f a (j + 1) = d1 at HE hd3
                generalize f a (S j) = d2 at HE hd3
                generalize hsj : S j = sj at *
                have Hsj := Lib.hid hsj
                clear hsj
                go_wp2_with fail
                have Keep := Lib.hid (show ∀ W, Below wr.heap.size wr W → (W.cell? ⟨b, off + a, none⟩ = some (.slice (some ⟨b2, o2, none⟩) n c2') ∧ W.cell? ⟨b2, o2 + (j + 1), none⟩ = some (.int .i64 d1) ∧ W.cell? ⟨b2, o2 + sj, none⟩ = some (.int .i64 d2) ∧ Below wr.heap.size wr W) from fun W h => keep3 hbw0 HE.out.1 hbw2 HE.out.2.1 hbw2 HE.out.2.2 h)
                have HBc := Lib.hid (Below.refl wr.heap.size wr).drew
                refine wp_region_E (S := fun W => W.cell? ⟨b, off + a, none⟩ = some (.slice (some ⟨b2, o2, none⟩) n c2') ∧ W.cell? ⟨b2, o2 + (j + 1), none⟩ = some (.int .i64 d1) ∧ W.cell? ⟨b2, o2 + sj, none⟩ = some (.int .i64 d2) ∧ Below wr.heap.size wr W) (E := fun _ => false) (by kernel_rfl) ?_
                generalize wr.drew = W0 at HBc ⊢
                have hS := Keep.out _ HBc.out
                refine anyE_tk 0 42 (oi := ?oi250) (v := ?v250) ?hi250 ?hd250 (by kernel_rfl) (by kernel_rfl) (by kernel_rfl) ?hQ250 ?hy250 hS ?rest250
                case hi250 => simp only [List.getElem?_toArray, List.getElem?_cons_zero, List.getElem?_cons_succ]; rfl
                case hd250 => rfl
                case hQ250 => exact fun _ _ _ h => h
                case hy250 => (refine Or.inl ⟨by rfl, ?_⟩; intro w hSw; (try dsimp only at hSw); go_simp; try with_reducible rfl)
                simp only [List.setIfInBounds_toArray, List.set_cons_zero, List.set_cons_succ]
                refine anyE_tk 2 44 (oi := ?oi251) (v := ?v251) ?hi251 ?hd251 (by kernel_rfl) (by kernel_rfl) (by kernel_rfl) ?hQ251 ?hy251 hS ?rest251
                case hi251 => simp only [List.getElem?_toArray, List.getElem?_cons_zero, List.getElem?_cons_succ]; rfl
                case hd251 => rfl
                case hQ251 => exact fun _ _ _ h => h
                case hy251 => (refine Or.inl ⟨by rfl, ?_⟩; intro w hSw; (try dsimp only at hSw); go_simp; try with_reducible rfl)
                simp only [List.setIfInBounds_toArray, List.set_cons_zero, List.set_cons_succ]
                refine anyE_tk 4 46 (oi := ?oi252) (v := ?v252) ?hi252 ?hd252 (by kernel_rfl) (by kernel_rfl) (by kernel_rfl) ?hQ252 ?hy252 hS ?rest252
                case hi252 => simp only [List.getElem?_toArray, List.getElem?_cons_zero, List.getElem?_cons_succ]; rfl
                case hd252 => rfl
                case hQ252 => exact fun _ _ _ h => h
                case hy252 => (refine Or.inl ⟨by rfl, ?_⟩; intro w hSw; (try dsimp only at hSw); go_simp; try with_reducible rfl)
                simp only [List.setIfInBounds_toArray, List.set_cons_zero, List.set_cons_succ]
                clear hS
                refine anyE_two (i := 1) (j := 5) (oi := ?oi253) (oj := ?oj253) (by kernel_rfl) ?hi253 ?hj253 (fun K hK => ?step253) (fun K hK => ?step254)
                case hi253 => simp only [List.getElem?_toArray, List.getElem?_cons_zero, List.getElem?_cons_succ]; rfl
                case hj253 => simp only [List.getElem?_toArray, List.getElem?_cons_zero, List.getElem?_cons_succ]; rfl
                case step253 =>
                  go_simp
                  have H43 := Lib.hid (show (World.alloc W0 (.cells #[] 3)).ownsRow wr.heap.size 3 1 (.slice (some ⟨(World.heap W0).size, 0, none⟩) 0 0) 0 [] from own_base (own_new 1 (Nat.le_refl _)) HBc.out.size)
                  have HBc := Lib.hid (HBc.out.alloc HBc.out.size (.cells #[] 3))
                  generalize World.alloc W0 (.cells #[] 3) = W43 at H43 HBc ⊢
                  generalize (World.heap W0).size = x43 at H43 ⊢
                  refine hK.out _ _ (fun _ => Keep.out _ HBc.out) ?_
                  clear hK K
                  try simp only [Act.put, List.setIfInBounds_toArray, List.set_cons_zero, List.set_cons_succ]
                  refine anyE_two (i := 3) (j := 5) (oi := ?oi255) (oj := ?oj255) (by kernel_rfl) ?hi255 ?hj255 (fun K hK => ?step255) (fun K hK => ?step256)
                  case hi255 => simp only [List.getElem?_toArray, List.getElem?_cons_zero, List.getElem?_cons_succ]; rfl
                  case hj255 => simp only [List.getElem?_toArray, List.getElem?_cons_zero, List.getElem?_cons_succ]; rfl
                  case step255 =>
                    refine step_app' _ (by rfl) (.tmp 43) (.tmp 44) 28 (by rfl) wr.heap.size 3 j0 _ 1 8 Try.underlying28 hj hy0 hy1 hy2 (by rfl) (by decide) (.slice (some ⟨x43, 0, none⟩) 0 0) 0 [] (by rfl) H43.out (some ⟨bt, ot, none⟩) (k + 1) c3 ((intL (rdT f n first k)).map (Value.int .i64)) (by rfl) (by rw [List.length_map, intL_length, Hlen.out, Nat.mul_one]) (fun e => by cases e) (IntsAt.news (HIt3.out.below HBc.out HBc.out.size)) (ints_one _) (by omega) (by decide) HBc.out.size (k + 1) (by omega) ((intL (rdT f n first k)).map (Value.int .i64)) (by rfl) ?_
                    intro A4 c4 W45 hown4 hg4 hlow4
                    have H45 := Lib.hid hown4
                    have HBc := Lib.hid (HBc.out.grown hg4 HBc.out.size hlow4)
                    clear hown4 hg4 hlow4 H43
                    refine hK.out _ _ (fun _ => Keep.out _ HBc.out) ?_
                    clear hK K
                    try simp only [Act.put, List.setIfInBounds_toArray, List.set_cons_zero, List.set_cons_succ]
                    refine anyE_one (i := 5) (o := ?oi257) (by kernel_rfl) ?hi257 (fun K hK => ?step257)
                    case hi257 => simp only [List.getElem?_toArray, List.getElem?_cons_zero, List.getElem?_cons_succ]; rfl
                    go_simp
                    have H47 := Lib.hid (Blk.new W45 3 #[.int .i64 ((j : Int) + 1)])
                    have H45 := Lib.hid (H45.out.alloc (.cells #[.int .i64 ((j : Int) + 1)] 3))
                    have HBc := Lib.hid (HBc.out.alloc HBc.out.size (.cells #[.int .i64 ((j : Int) + 1)] 3))
                    generalize World.alloc W45 (.cells #[.int .i64 ((j : Int) + 1)] 3) = W47 at H47 HBc H45 ⊢
                    generalize (World.heap W45).size = x47 at H47 ⊢
                    refine hK.out _ _ (fun _ => Keep.out _ HBc.out) ?_
                    clear hK K
                    try simp only [Act.put, List.setIfInBounds_toArray, List.set_cons_zero, List.set_cons_succ]
                    refine anyE_one (i := 6) (o := ?oi258) (by kernel_rfl) ?hi258 (fun K hK => ?step258)
                    case hi258 => simp only [List.getElem?_toArray, List.getElem?_cons_zero, List.getElem?_cons_succ]; rfl
                    refine step_app' _ (by rfl) (.tmp 45) (.tmp 47) 28 (by rfl) wr.heap.size 3 j0 _ 1 8 Try.underlying28 hj hy0 hy1 hy2 (by rfl) (by decide) (.slice A4 (k + 1) c4) (k + 1) ((intL (rdT f n first k)).map (Value.int .i64)) (by rfl) H45.out (some ⟨x47, 0, none⟩) 1 1 [.int .i64 ((j : Int) + 1)] (by rfl) (by rfl) (by simp) (news_blk (t := 3) (cs := #[.int .i64 ((j : Int) + 1)]) H47.out) (by simp [Value.oneCell']) (by omega) (by decide) HBc.out.size (k + 2) (by omega) ((intL (rdT f n first k ++ [j + 1])).map (Value.int .i64)) HSn.out ?_
                    intro A5 c5 W48 hown5 hg5 hlow5
                    have HI5 := Lib.hid (IntsAt.of_own (zs := intL (rdT f n first k ++ [j + 1])) (by rw [intL_length, List.length_append, Hlen.out]; exact hown5))
                    have HBc := Lib.hid (HBc.out.grown hg5 HBc.out.size hlow5)
                    clear hown5 hg5 hlow5 H45 H47
                    refine hK.out _ _ (fun _ => Keep.out _ HBc.out) ?_
                    clear hK K
                    try simp only [Act.put, List.setIfInBounds_toArray, List.set_cons_zero, List.set_cons_succ]
                    refine anyE_one (i := 7) (o := ?oi259) (by kernel_rfl) ?hi259 (fun K hK => ?step259)
                    case hi259 => simp only [List.getElem?_toArray, List.getElem?_cons_zero, List.getElem?_cons_succ]; rfl
                    go_simp
                    refine (citj.out A5 c5 _ HI5.out).mono ?_
                    rintro e W49 ⟨rfl, hd6⟩
                    have HBc := Lib.hid (HBc.out.trans (hd6.mono HBc.out.size))
                    clear hd6 HI5
                    go_wp2_with fail
                    refine hK.out _ _ (fun _ => Keep.out _ HBc.out) ?_
                    clear hK K
                    try simp only [Act.put, List.setIfInBounds_toArray, List.set_cons_zero, List.set_cons_succ]
                    have hS := Keep.out _ HBc.out
                    refine anyE_tk 8 50 (oi := ?oi260) (v := ?v260) ?hi260 ?hd260 (by kernel_rfl) (by kernel_rfl) (by kernel_rfl) ?hQ260 ?hy260 hS ?rest260
                    case hi260 => simp only [List.getElem?_toArray, List.getElem?_cons_zero, List.getElem?_cons_succ]; rfl
                    case hd260 => rfl
                    case hQ260 => exact fun _ _ _ h => h
                    case hy260 => (refine Or.inl ⟨by rfl, ?_⟩; intro w hSw; (try dsimp only at hSw); go_simp; try with_reducible rfl)
                    simp only [List.setIfInBounds_toArray, List.set_cons_zero, List.set_cons_succ]
                    refine anyE_tk 9 51 (oi := ?oi261) (v := ?v261) ?hi261 ?hd261 (by kernel_rfl) (by kernel_rfl) (by kernel_rfl) ?hQ261 ?hy261 hS ?rest261
                    case hi261 => simp only [List.getElem?_toArray, List.getElem?_cons_zero, List.getElem?_cons_succ]; rfl
                    case hd261 => rfl
                    case hQ261 => exact fun _ _ _ h => h
                    case hy261 => (refine Or.inl ⟨by rfl, ?_⟩; intro w hSw; (try dsimp only at hSw); go_simp; try with_reducible rfl)
                    simp only [List.setIfInBounds_toArray, List.set_cons_zero, List.set_cons_succ]
                    refine anyE_tk 10 52 (oi := ?oi262) (v := ?v262) ?hi262 ?hd262 (by kernel_rfl) (by kernel_rfl) (by kernel_rfl) ?hQ262 ?hy262 hS ?rest262
                    case hi262 => simp only [List.getElem?_toArray, List.getElem?_cons_zero, List.getElem?_cons_succ]; rfl
                    case hd262 => rfl
                    case hQ262 => exact fun _ _ _ h => h
                    case hy262 => (refine Or.inl ⟨by rfl, ?_⟩; intro w hSw; (try dsimp only at hSw); go_simp; try with_reducible rfl)
                    simp only [List.setIfInBounds_toArray, List.set_cons_zero, List.set_cons_succ]
                    refine anyE_tk 11 53 (oi := ?oi263) (v := ?v263) ?hi263 ?hd263 (by kernel_rfl) (by kernel_rfl) (by kernel_rfl) ?hQ263 ?hy263 hS ?rest263
                    case hi263 => simp only [List.getElem?_toArray, List.getElem?_cons_zero, List.getElem?_cons_succ]; rfl
                    case hd263 => rfl
                    case hQ263 => exact fun _ _ _ h => h
                    case hy263 => (refine Or.inl ⟨by rfl, ?_⟩; intro w hSw; (try dsimp only at hSw); go_simp; try with_reducible rfl)
                    simp only [List.setIfInBounds_toArray, List.set_cons_zero, List.set_cons_succ]
                    refine anyE_tk 12 54 (oi := ?oi264) (v := ?v264) ?hi264 ?hd264 (by kernel_rfl) (by kernel_rfl) (by kernel_rfl) ?hQ264 ?hy264 hS ?rest264
                    case hi264 => simp only [List.getElem?_toArray, List.getElem?_cons_zero, List.getElem?_cons_succ]; rfl
                    case hd264 => rfl
                    case hQ264 => exact fun _ _ _ h => h
                    case hy264 => (refine Or.inl ⟨by rfl, ?_⟩; intro w hSw; (try dsimp only at hSw); go_simp; try with_reducible rfl)
                    simp only [List.setIfInBounds_toArray, List.set_cons_zero, List.set_cons_succ]
                    refine anyE_tk 13 55 (oi := ?oi265) (v := ?v265) ?hi265 ?hd265 (by kernel_rfl) (by kernel_rfl) (by kernel_rfl) ?hQ265 ?hy265 hS ?rest265
                    case hi265 => simp only [List.getElem?_toArray, List.getElem?_cons_zero, List.getElem?_cons_succ]; rfl
                    case hd265 => rfl
                    case hQ265 => exact fun _ _ _ h => h
                    case hy265 => (refine Or.inl ⟨by rfl, ?_⟩; intro w hSw; (try dsimp only at hSw); go_simp; try with_reducible rfl)
                    simp only [List.setIfInBounds_toArray, List.set_cons_zero, List.set_cons_succ]
                    refine anyE_tk 14 56 (oi := ?oi266) (v := ?v266) ?hi266 ?hd266 (by kernel_rfl) (by kernel_rfl) (by kernel_rfl) ?hQ266 ?hy266 hS ?rest266
                    case hi266 => simp only [List.getElem?_toArray, List.getElem?_cons_zero, List.getElem?_cons_succ]; rfl
                    case hd266 => rfl
                    case hQ266 => exact fun _ _ _ h => h
                    case hy266 => (refine Or.inl ⟨by rfl, ?_⟩; intro w hSw; (try dsimp only at hSw); go_simp; try with_reducible rfl)
                    simp only [List.setIfInBounds_toArray, List.set_cons_zero, List.set_cons_succ]
                    refine anyE_tk 15 57 (oi := ?oi267) (v := ?v267) ?hi267 ?hd267 (by kernel_rfl) (by kernel_rfl) (by kernel_rfl) ?hQ267 ?hy267 hS ?rest267
                    case hi267 => simp only [List.getElem?_toArray, List.getElem?_cons_zero, List.getElem?_cons_succ]; rfl
                    case hd267 => rfl
                    case hQ267 => exact fun _ _ _ h => h
                    case hy267 => (refine Or.inl ⟨by rfl, ?_⟩; intro w hSw; (try dsimp only at hSw); go_simp; try with_reducible rfl)
                    simp only [List.setIfInBounds_toArray, List.set_cons_zero, List.set_cons_succ]
                    refine anyE_tk 16 58 (oi := ?oi268) (v := ?v268) ?hi268 ?hd268 (by kernel_rfl) (by kernel_rfl) (by kernel_rfl) ?hQ268 ?hy268 hS ?rest268
                    case hi268 => simp only [List.getElem?_toArray, List.getElem?_cons_zero, List.getElem?_cons_succ]; rfl
                    case hd268 => rfl
                    case hQ268 => exact fun _ _ _ h => h
                    case hy268 => (refine Or.inl ⟨by rfl, ?_⟩; intro w hSw; (try dsimp only at hSw); go_simp; try with_reducible rfl)
                    simp only [List.setIfInBounds_toArray, List.set_cons_zero, List.set_cons_succ]
                    refine anyE_tk 17 59 (oi := ?oi269) (v := ?v269) ?hi269 ?hd269 (by kernel_rfl) (by kernel_rfl) (by kernel_rfl) ?hQ269 ?hy269 hS ?rest269
                    case hi269 => simp only [List.getElem?_toArray, List.getElem?_cons_zero, List.getElem?_cons_succ]; rfl
                    case hd269 => rfl
                    case hQ269 => exact fun _ _ _ h => h
                    case hy269 => (refine Or.inl ⟨by rfl, ?_⟩; intro w hSw; (try dsimp only at hSw); go_simp; try with_reducible rfl)
                    simp only [List.setIfInBounds_toArray, List.set_cons_zero, List.set_cons_succ]
                    refine anyE_tk 18 60 (oi := ?oi270) (v := ?v270) ?hi270 ?hd270 (by kernel_rfl) (by kernel_rfl) (by kernel_rfl) ?hQ270 ?hy270 hS ?rest270
                    case hi270 => simp only [List.getElem?_toArray, List.getElem?_cons_zero, List.getElem?_cons_succ]; rfl
                    case hd270 => rfl
                    case hQ270 => exact fun _ _ _ h => h
                    case hy270 => (refine Or.inl ⟨by rfl, ?_⟩; intro w hSw; (try dsimp only at hSw); go_simp; try with_reducible rfl)
                    simp only [List.setIfInBounds_toArray, List.set_cons_zero, List.set_cons_succ]
                    refine anyE_tk 19 61 (oi := ?oi271) (v := ?v271) ?hi271 ?hd271 (by kernel_rfl) (by kernel_rfl) (by kernel_rfl) ?hQ271 ?hy271 hS ?rest271
                    case hi271 => simp only [List.getElem?_toArray, List.getElem?_cons_zero, List.getElem?_cons_succ]; rfl
                    case hd271 => rfl
                    case hQ271 => exact fun _ _ _ h => h
                    case hy271 => (refine Or.inl ⟨by rfl, ?_⟩; intro w hSw; (try dsimp only at hSw); go_simp; try with_reducible rfl)
                    simp only [List.setIfInBounds_toArray, List.set_cons_zero, List.set_cons_succ]
                    refine anyE_tk 20 62 (oi := ?oi272) (v := ?v272) ?hi272 ?hd272 (by kernel_rfl) (by kernel_rfl) (by kernel_rfl) ?hQ272 ?hy272 hS ?rest272
                    case hi272 => simp only [List.getElem?_toArray, List.getElem?_cons_zero, List.getElem?_cons_succ]; rfl
                    case hd272 => rfl
                    case hQ272 => exact fun _ _ _ h => h
                    case hy272 => (refine Or.inl ⟨by rfl, ?_⟩; intro w hSw; (try dsimp only at hSw); go_simp; try with_reducible rfl)
                    simp only [List.setIfInBounds_toArray, List.set_cons_zero, List.set_cons_succ]
                    refine anyE_tk 21 63 (oi := ?oi273) (v := ?v273) ?hi273 ?hd273 (by kernel_rfl) (by kernel_rfl) (by kernel_rfl) ?hQ273 ?hy273 hS ?rest273
                    case hi273 => simp only [List.getElem?_toArray, List.getElem?_cons_zero, List.getElem?_cons_succ]; rfl
                    case hd273 => rfl
                    case hQ273 => exact fun _ _ _ h => h
                    case hy273 => (refine Or.inl ⟨by rfl, ?_⟩; intro w hSw; (try dsimp only at hSw); go_simp; try with_reducible rfl)
                    simp only [List.setIfInBounds_toArray, List.set_cons_zero, List.set_cons_succ]
                    refine anyE_tk 22 64 (oi := ?oi274) (v := ?v274) ?hi274 ?hd274 (by kernel_rfl) (by kernel_rfl) (by kernel_rfl) ?hQ274 ?hy274 hS ?rest274
                    case hi274 => simp only [List.getElem?_toArray, List.getElem?_cons_zero, List.getElem?_cons_succ]; rfl
                    case hd274 => rfl
                    case hQ274 => exact fun _ _ _ h => h
                    case hy274 => (refine Or.inl ⟨by rfl, ?_⟩; intro w hSw; (try dsimp only at hSw); go_simp; try with_reducible rfl)
                    simp only [List.setIfInBounds_toArray, List.set_cons_zero, List.set_cons_succ]
                    refine anyE_tk 23 65 (oi := ?oi275) (v := ?v275) ?hi275 ?hd275 (by kernel_rfl) (by kernel_rfl) (by kernel_rfl) ?hQ275 ?hy275 hS ?rest275
                    case hi275 => simp only [List.getElem?_toArray, List.getElem?_cons_zero, List.getElem?_cons_succ]; rfl
                    case hd275 => rfl
                    case hQ275 => exact fun _ _ _ h => h
                    case hy275 => (refine Or.inl ⟨by rfl, ?_⟩; intro w hSw; (try dsimp only at hSw); go_simp; try with_reducible rfl)
                    simp only [List.setIfInBounds_toArray, List.set_cons_zero, List.set_cons_succ]
                    refine anyE_tk 24 66 (oi := ?oi276) (v := ?v276) ?hi276 ?hd276 (by kernel_rfl) (by kernel_rfl) (by kernel_rfl) ?hQ276 ?hy276 hS ?rest276
                    case hi276 => simp only [List.getElem?_toArray, List.getElem?_cons_zero, List.getElem?_cons_succ]; rfl
                    case hd276 => rfl
                    case hQ276 => exact fun _ _ _ h => h
                    case hy276 => (refine Or.inl ⟨by rfl, ?_⟩; intro w hSw; (try dsimp only at hSw); go_simp; try with_reducible rfl)
                    simp only [List.setIfInBounds_toArray, List.set_cons_zero, List.set_cons_succ]
                    refine anyE_tk 25 67 (oi := ?oi277) (v := ?v277) ?hi277 ?hd277 (by kernel_rfl) (by kernel_rfl) (by kernel_rfl) ?hQ277 ?hy277 hS ?rest277
                    case hi277 => simp only [List.getElem?_toArray, List.getElem?_cons_zero, List.getElem?_cons_succ]; rfl
                    case hd277 => rfl
                    case hQ277 => exact fun _ _ _ h => h
                    case hy277 => (refine Or.inl ⟨by rfl, ?_⟩; intro w hSw; (try dsimp only at hSw); go_simp; try with_reducible rfl)
                    simp only [List.setIfInBounds_toArray, List.set_cons_zero, List.set_cons_succ]
                    refine anyE_tk 26 68 (oi := ?oi278) (v := ?v278) ?hi278 ?hd278 (by kernel_rfl) (by kernel_rfl) (by kernel_rfl) ?hQ278 ?hy278 hS ?rest278
                    case hi278 => simp only [List.getElem?_toArray, List.getElem?_cons_zero, List.getElem?_cons_succ]; rfl
                    case hd278 => rfl
                    case hQ278 => exact fun _ _ _ h => h
                    case hy278 => (refine Or.inl ⟨by rfl, ?_⟩; intro w hSw; (try dsimp only at hSw); go_simp; try with_reducible rfl)
                    simp only [List.setIfInBounds_toArray, List.set_cons_zero, List.set_cons_succ]
                    refine anyE_tk 27 69 (oi := ?oi279) (v := ?v279) ?hi279 ?hd279 (by kernel_rfl) (by kernel_rfl) (by kernel_rfl) ?hQ279 ?hy279 hS ?rest279
                    case hi279 => simp only [List.getElem?_toArray, List.getElem?_cons_zero, List.getElem?_cons_succ]; rfl
                    case hd279 => rfl
                    case hQ279 => exact fun _ _ _ h => h
                    case hy279 => (refine Or.inl ⟨by rfl, ?_⟩; intro w hSw; (try dsimp only at hSw); go_simp; try with_reducible rfl)
                    simp only [List.setIfInBounds_toArray, List.set_cons_zero, List.set_cons_succ]
                    refine anyE_tk 28 70 (oi := ?oi280) (v := ?v280) ?hi280 ?hd280 (by kernel_rfl) (by kernel_rfl) (by kernel_rfl) ?hQ280 ?hy280 hS ?rest280
                    case hi280 => simp only [List.getElem?_toArray, List.getElem?_cons_zero, List.getElem?_cons_succ]; rfl
                    case hd280 => rfl
                    case hQ280 => exact fun _ _ _ h => h
                    case hy280 => (refine Or.inl ⟨by rfl, ?_⟩; intro w hSw; (try dsimp only at hSw); go_simp; try with_reducible rfl)
                    simp only [List.setIfInBounds_toArray, List.set_cons_zero, List.set_cons_succ]
                    refine anyE_tk 29 71 (oi := ?oi281) (v := ?v281) ?hi281 ?hd281 (by kernel_rfl) (by kernel_rfl) (by kernel_rfl) ?hQ281 ?hy281 hS ?rest281
                    case hi281 => simp only [List.getElem?_toArray, List.getElem?_cons_zero, List.getElem?_cons_succ]; rfl
                    case hd281 => rfl
                    case hQ281 => exact fun _ _ _ h => h
                    case hy281 => (refine Or.inl ⟨by rfl, ?_⟩; intro w hSw; (try dsimp only at hSw); go_simp; try with_reducible rfl)
                    simp only [List.setIfInBounds_toArray, List.set_cons_zero, List.set_cons_succ]
                    refine anyE_done (by kernel_rfl) ?_ _
                    clear hS
                    go_wp2_with fail
                    go_roundw
                    case rel => exact ⟨j + 1, by omega, by push_cast; rfl, by rw [Hss.out], HBx.out.trans (HBc.out.mono HBx.out.size)⟩
                    case measure => simp [intOf]; omega
                  case step256 =>
                    go_simp
                    have H47 := Lib.hid (Blk.new W43 3 #[.int .i64 ((j : Int) + 1)])
                    have hx : (World.heap W43).size ≠ x43 := fun e => by have := (H43.out.lt x43 rfl).2; omega
                    have H43 := Lib.hid (H43.out.alloc (.cells #[.int .i64 ((j : Int) + 1)] 3))
                    have HBc := Lib.hid (HBc.out.alloc HBc.out.size (.cells #[.int .i64 ((j : Int) + 1)] 3))
                    generalize World.alloc W43 (.cells #[.int .i64 ((j : Int) + 1)] 3) = W47 at H47 HBc H43 ⊢
                    generalize (World.heap W43).size = x47 at H47 hx ⊢
                    refine hK.out _ _ (fun _ => Keep.out _ HBc.out) ?_
                    clear hK K
                    try simp only [Act.put, List.setIfInBounds_toArray, List.set_cons_zero, List.set_cons_succ]
                    refine anyE_one (i := 3) (o := ?oi282) (by kernel_rfl) ?hi282 (fun K hK => ?step282)
                    case hi282 => simp only [List.getElem?_toArray, List.getElem?_cons_zero, List.getElem?_cons_succ]; rfl
                    refine step_app' _ (by rfl) (.tmp 43) (.tmp 44) 28 (by rfl) wr.heap.size 3 j0 _ 1 8 Try.underlying28 hj hy0 hy1 hy2 (by rfl) (by decide) (.slice (some ⟨x43, 0, none⟩) 0 0) 0 [] (by rfl) H43.out (some ⟨bt, ot, none⟩) (k + 1) c3 ((intL (rdT f n first k)).map (Value.int .i64)) (by rfl) (by rw [List.length_map, intL_length, Hlen.out, Nat.mul_one]) (fun e => by cases e) (IntsAt.news (HIt3.out.below HBc.out HBc.out.size)) (ints_one _) (by omega) (by decide) HBc.out.size (k + 1) (by omega) ((intL (rdT f n first k)).map (Value.int .i64)) (by rfl) ?_
                    intro A4 c4 W45 hown4 hg4 hlow4
                    have H45 := Lib.hid hown4
                    have H47 := Lib.hid (H47.out.grown hg4 (by simpa [Value.ownBlock] using hx))
                    have HBc := Lib.hid (HBc.out.grown hg4 HBc.out.size hlow4)
                    clear hown4 hg4 hlow4 H43
                    refine hK.out _ _ (fun _ => Keep.out _ HBc.out) ?_
                    clear hK K
                    try simp only [Act.put, List.setIfInBounds_toArray, List.set_cons_zero, List.set_cons_succ]
                    refine anyE_one (i := 6) (o := ?oi283) (by kernel_rfl) ?hi283 (fun K hK => ?step283)
                    case hi283 => simp only [List.getElem?_toArray, List.getElem?_cons_zero, List.getElem?_cons_succ]; rfl
                    refine step_app' _ (by rfl) (.tmp 45) (.tmp 47) 28 (by rfl) wr.heap.size 3 j0 _ 1 8 Try.underlying28 hj hy0 hy1 hy2 (by rfl) (by decide) (.slice A4 (k + 1) c4) (k + 1) ((intL (rdT f n first k)).map (Value.int .i64)) (by rfl) H45.out (some ⟨x47, 0, none⟩) 1 1 [.int .i64 ((j : Int) + 1)] (by rfl) (by rfl) (by simp) (news_blk (t := 3) (cs := #[.int .i64 ((j : Int) + 1)]) H47.out) (by simp [Value.oneCell']) (by omega) (by decide) HBc.out.size (k + 2) (by omega) ((intL (rdT f n first k ++ [j + 1])).map (Value.int .i64)) HSn.out ?_
                    intro A5 c5 W48 hown5 hg5 hlow5
                    have HI5 := Lib.hid (IntsAt.of_own (zs := intL (rdT f n first k ++ [j + 1])) (by rw [intL_length, List.length_append, Hlen.out]; exact hown5))
                    have HBc := Lib.hid (HBc.out.grown hg5 HBc.out.size hlow5)
                    clear hown5 hg5 hlow5 H45 H47
                    refine hK.out _ _ (fun _ => Keep.out _ HBc.out) ?_
                    clear hK K
                    try simp only [Act.put, List.setIfInBounds_toArray, List.set_cons_zero, List.set_cons_succ]
                    refine anyE_one (i := 7) (o := ?oi284) (by kernel_rfl) ?hi284 (fun K hK => ?step284)
                    case hi284 => simp only [List.getElem?_toArray, List.getElem?_cons_zero, List.getElem?_cons_succ]; rfl
                    go_simp
                    refine (citj.out A5 c5 _ HI5.out).mono ?_
                    rintro e W49 ⟨rfl, hd6⟩
                    have HBc := Lib.hid (HBc.out.trans (hd6.mono HBc.out.size))
                    clear hd6 HI5
                    go_wp2_with fail
                    refine hK.out _ _ (fun _ => Keep.out _ HBc.out) ?_
                    clear hK K
                    try simp only [Act.put, List.setIfInBounds_toArray, List.set_cons_zero, List.set_cons_succ]
                    have hS := Keep.out _ HBc.out
                    refine anyE_tk 8 50 (oi := ?oi285) (v := ?v285) ?hi285 ?hd285 (by kernel_rfl) (by kernel_rfl) (by kernel_rfl) ?hQ285 ?hy285 hS ?rest285
                    case hi285 => simp only [List.getElem?_toArray, List.getElem?_cons_zero, List.getElem?_cons_succ]; rfl
                    case hd285 => rfl
                    case hQ285 => exact fun _ _ _ h => h
                    case hy285 => (refine Or.inl ⟨by rfl, ?_⟩; intro w hSw; (try dsimp only at hSw); go_simp; try with_reducible rfl)
                    simp only [List.setIfInBounds_toArray, List.set_cons_zero, List.set_cons_succ]
                    refine anyE_tk 9 51 (oi := ?oi286) (v := ?v286) ?hi286 ?hd286 (by kernel_rfl) (by kernel_rfl) (by kernel_rfl) ?hQ286 ?hy286 hS ?rest286
                    case hi286 => simp only [List.getElem?_toArray, List.getElem?_cons_zero, List.getElem?_cons_succ]; rfl
                    case hd286 => rfl
                    case hQ286 => exact fun _ _ _ h => h
                    case hy286 => (refine Or.inl ⟨by rfl, ?_⟩; intro w hSw; (try dsimp only at hSw); go_simp; try with_reducible rfl)
                    simp only [List.setIfInBounds_toArray, List.set_cons_zero, List.set_cons_succ]
                    refine anyE_tk 10 52 (oi := ?oi287) (v := ?v287) ?hi287 ?hd287 (by kernel_rfl) (by kernel_rfl) (by kernel_rfl) ?hQ287 ?hy287 hS ?rest287
                    case hi287 => simp only [List.getElem?_toArray, List.getElem?_cons_zero, List.getElem?_cons_succ]; rfl
                    case hd287 => rfl
                    case hQ287 => exact fun _ _ _ h => h
                    case hy287 => (refine Or.inl ⟨by rfl, ?_⟩; intro w hSw; (try dsimp only at hSw); go_simp; try with_reducible rfl)
                    simp only [List.setIfInBounds_toArray, List.set_cons_zero, List.set_cons_succ]
                    refine anyE_tk 11 53 (oi := ?oi288) (v := ?v288) ?hi288 ?hd288 (by kernel_rfl) (by kernel_rfl) (by kernel_rfl) ?hQ288 ?hy288 hS ?rest288
                    case hi288 => simp only [List.getElem?_toArray, List.getElem?_cons_zero, List.getElem?_cons_succ]; rfl
                    case hd288 => rfl
                    case hQ288 => exact fun _ _ _ h => h
                    case hy288 => (refine Or.inl ⟨by rfl, ?_⟩; intro w hSw; (try dsimp only at hSw); go_simp; try with_reducible rfl)
                    simp only [List.setIfInBounds_toArray, List.set_cons_zero, List.set_cons_succ]
                    refine anyE_tk 12 54 (oi := ?oi289) (v := ?v289) ?hi289 ?hd289 (by kernel_rfl) (by kernel_rfl) (by kernel_rfl) ?hQ289 ?hy289 hS ?rest289
                    case hi289 => simp only [List.getElem?_toArray, List.getElem?_cons_zero, List.getElem?_cons_succ]; rfl
                    case hd289 => rfl
                    case hQ289 => exact fun _ _ _ h => h
                    case hy289 => (refine Or.inl ⟨by rfl, ?_⟩; intro w hSw; (try dsimp only at hSw); go_simp; try with_reducible rfl)
                    simp only [List.setIfInBounds_toArray, List.set_cons_zero, List.set_cons_succ]
                    refine anyE_tk 13 55 (oi := ?oi290) (v := ?v290) ?hi290 ?hd290 (by kernel_rfl) (by kernel_rfl) (by kernel_rfl) ?hQ290 ?hy290 hS ?rest290
                    case hi290 => simp only [List.getElem?_toArray, List.getElem?_cons_zero, List.getElem?_cons_succ]; rfl
                    case hd290 => rfl
                    case hQ290 => exact fun _ _ _ h => h
                    case hy290 => (refine Or.inl ⟨by rfl, ?_⟩; intro w hSw; (try dsimp only at hSw); go_simp; try with_reducible rfl)
                    simp only [List.setIfInBounds_toArray, List.set_cons_zero, List.set_cons_succ]
                    refine anyE_tk 14 56 (oi := ?oi291) (v := ?v291) ?hi291 ?hd291 (by kernel_rfl) (by kernel_rfl) (by kernel_rfl) ?hQ291 ?hy291 hS ?rest291
                    case hi291 => simp only [List.getElem?_toArray, List.getElem?_cons_zero, List.getElem?_cons_succ]; rfl
                    case hd291 => rfl
                    case hQ291 => exact fun _ _ _ h => h
                    case hy291 => (refine Or.inl ⟨by rfl, ?_⟩; intro w hSw; (try dsimp only at hSw); go_simp; try with_reducible rfl)
                    simp only [List.setIfInBounds_toArray, List.set_cons_zero, List.set_cons_succ]
                    refine anyE_tk 15 57 (oi := ?oi292) (v := ?v292) ?hi292 ?hd292 (by kernel_rfl) (by kernel_rfl) (by kernel_rfl) ?hQ292 ?hy292 hS ?rest292
                    case hi292 => simp only [List.getElem?_toArray, List.getElem?_cons_zero, List.getElem?_cons_succ]; rfl
                    case hd292 => rfl
                    case hQ292 => exact fun _ _ _ h => h
                    case hy292 => (refine Or.inl ⟨by rfl, ?_⟩; intro w hSw; (try dsimp only at hSw); go_simp; try with_reducible rfl)
                    simp only [List.setIfInBounds_toArray, List.set_cons_zero, List.set_cons_succ]
                    refine anyE_tk 16 58 (oi := ?oi293) (v := ?v293) ?hi293 ?hd293 (by kernel_rfl) (by kernel_rfl) (by kernel_rfl) ?hQ293 ?hy293 hS ?rest293
                    case hi293 => simp only [List.getElem?_toArray, List.getElem?_cons_zero, List.getElem?_cons_succ]; rfl
                    case hd293 => rfl
                    case hQ293 => exact fun _ _ _ h => h
                    case hy293 => (refine Or.inl ⟨by rfl, ?_⟩; intro w hSw; (try dsimp only at hSw); go_simp; try with_reducible rfl)
                    simp only [List.setIfInBounds_toArray, List.set_cons_zero, List.set_cons_succ]
                    refine anyE_tk 17 59 (oi := ?oi294) (v := ?v294) ?hi294 ?hd294 (by kernel_rfl) (by kernel_rfl) (by kernel_rfl) ?hQ294 ?hy294 hS ?rest294
                    case hi294 => simp only [List.getElem?_toArray, List.getElem?_cons_zero, List.getElem?_cons_succ]; rfl
                    case hd294 => rfl
                    case hQ294 => exact fun _ _ _ h => h
                    case hy294 => (refine Or.inl ⟨by rfl, ?_⟩; intro w hSw; (try dsimp only at hSw); go_simp; try with_reducible rfl)
                    simp only [List.setIfInBounds_toArray, List.set_cons_zero, List.set_cons_succ]
                    refine anyE_tk 18 60 (oi := ?oi295) (v := ?v295) ?hi295 ?hd295 (by kernel_rfl) (by kernel_rfl) (by kernel_rfl) ?hQ295 ?hy295 hS ?rest295
                    case hi295 => simp only [List.getElem?_toArray, List.getElem?_cons_zero, List.getElem?_cons_succ]; rfl
                    case hd295 => rfl
                    case hQ295 => exact fun _ _ _ h => h
                    case hy295 => (refine Or.inl ⟨by rfl, ?_⟩; intro w hSw; (try dsimp only at hSw); go_simp; try with_reducible rfl)
                    simp only [List.setIfInBounds_toArray, List.set_cons_zero, List.set_cons_succ]
                    refine anyE_tk 19 61 (oi := ?oi296) (v := ?v296) ?hi296 ?hd296 (by kernel_rfl) (by kernel_rfl) (by kernel_rfl) ?hQ296 ?hy296 hS ?rest296
                    case hi296 => simp only [List.getElem?_toArray, List.getElem?_cons_zero, List.getElem?_cons_succ]; rfl
                    case hd296 => rfl
                    case hQ296 => exact fun _ _ _ h => h
                    case hy296 => (refine Or.inl ⟨by rfl, ?_⟩; intro w hSw; (try dsimp only at hSw); go_simp; try with_reducible rfl)
                    simp only [List.setIfInBounds_toArray, List.set_cons_zero, List.set_cons_succ]
                    refine anyE_tk 20 62 (oi := ?oi297) (v := ?v297) ?hi297 ?hd297 (by kernel_rfl) (by kernel_rfl) (by kernel_rfl) ?hQ297 ?hy297 hS ?rest297
                    case hi297 => simp only [List.getElem?_toArray, List.getElem?_cons_zero, List.getElem?_cons_succ]; rfl
                    case hd297 => rfl
                    case hQ297 => exact fun _ _ _ h => h
                    case hy297 => (refine Or.inl ⟨by rfl, ?_⟩; intro w hSw; (try dsimp only at hSw); go_simp; try with_reducible rfl)
                    simp only [List.setIfInBounds_toArray, List.set_cons_zero, List.set_cons_succ]
                    refine anyE_tk 21 63 (oi := ?oi298) (v := ?v298) ?hi298 ?hd298 (by kernel_rfl) (by kernel_rfl) (by kernel_rfl) ?hQ298 ?hy298 hS ?rest298
                    case hi298 => simp only [List.getElem?_toArray, List.getElem?_cons_zero, List.getElem?_cons_succ]; rfl
                    case hd298 => rfl
                    case hQ298 => exact fun _ _ _ h => h
                    case hy298 => (refine Or.inl ⟨by rfl, ?_⟩; intro w hSw; (try dsimp only at hSw); go_simp; try with_reducible rfl)
                    simp only [List.setIfInBounds_toArray, List.set_cons_zero, List.set_cons_succ]
                    refine anyE_tk 22 64 (oi := ?oi299) (v := ?v299) ?hi299 ?hd299 (by kernel_rfl) (by kernel_rfl) (by kernel_rfl) ?hQ299 ?hy299 hS ?rest299
                    case hi299 => simp only [List.getElem?_toArray, List.getElem?_cons_zero, List.getElem?_cons_succ]; rfl
                    case hd299 => rfl
                    case hQ299 => exact fun _ _ _ h => h
                    case hy299 => (refine Or.inl ⟨by rfl, ?_⟩; intro w hSw; (try dsimp only at hSw); go_simp; try with_reducible rfl)
                    simp only [List.setIfInBounds_toArray, List.set_cons_zero, List.set_cons_succ]
                    refine anyE_tk 23 65 (oi := ?oi300) (v := ?v300) ?hi300 ?hd300 (by kernel_rfl) (by kernel_rfl) (by kernel_rfl) ?hQ300 ?hy300 hS ?rest300
                    case hi300 => simp only [List.getElem?_toArray, List.getElem?_cons_zero, List.getElem?_cons_succ]; rfl
                    case hd300 => rfl
                    case hQ300 => exact fun _ _ _ h => h
                    case hy300 => (refine Or.inl ⟨by rfl, ?_⟩; intro w hSw; (try dsimp only at hSw); go_simp; try with_reducible rfl)
                    simp only [List.setIfInBounds_toArray, List.set_cons_zero, List.set_cons_succ]
                    refine anyE_tk 24 66 (oi := ?oi301) (v := ?v301) ?hi301 ?hd301 (by kernel_rfl) (by kernel_rfl) (by kernel_rfl) ?hQ301 ?hy301 hS ?rest301
                    case hi301 => simp only [List.getElem?_toArray, List.getElem?_cons_zero, List.getElem?_cons_succ]; rfl
                    case hd301 => rfl
                    case hQ301 => exact fun _ _ _ h => h
                    case hy301 => (refine Or.inl ⟨by rfl, ?_⟩; intro w hSw; (try dsimp only at hSw); go_simp; try with_reducible rfl)
                    simp only [List.setIfInBounds_toArray, List.set_cons_zero, List.set_cons_succ]
                    refine anyE_tk 25 67 (oi := ?oi302) (v := ?v302) ?hi302 ?hd302 (by kernel_rfl) (by kernel_rfl) (by kernel_rfl) ?hQ302 ?hy302 hS ?rest302
                    case hi302 => simp only [List.getElem?_toArray, List.getElem?_cons_zero, List.getElem?_cons_succ]; rfl
                    case hd302 => rfl
                    case hQ302 => exact fun _ _ _ h => h
                    case hy302 => (refine Or.inl ⟨by rfl, ?_⟩; intro w hSw; (try dsimp only at hSw); go_simp; try with_reducible rfl)
                    simp only [List.setIfInBounds_toArray, List.set_cons_zero, List.set_cons_succ]
                    refine anyE_tk 26 68 (oi := ?oi303) (v := ?v303) ?hi303 ?hd303 (by kernel_rfl) (by kernel_rfl) (by kernel_rfl) ?hQ303 ?hy303 hS ?rest303
                    case hi303 => simp only [List.getElem?_toArray, List.getElem?_cons_zero, List.getElem?_cons_succ]; rfl
                    case hd303 => rfl
                    case hQ303 => exact fun _ _ _ h => h
                    case hy303 => (refine Or.inl ⟨by rfl, ?_⟩; intro w hSw; (try dsimp only at hSw); go_simp; try with_reducible rfl)
                    simp only [List.setIfInBounds_toArray, List.set_cons_zero, List.set_cons_succ]
                    refine anyE_tk 27 69 (oi := ?oi304) (v := ?v304) ?hi304 ?hd304 (by kernel_rfl) (by kernel_rfl) (by kernel_rfl) ?hQ304 ?hy304 hS ?rest304
                    case hi304 => simp only [List.getElem?_toArray, List.getElem?_cons_zero, List.getElem?_cons_succ]; rfl
                    case hd304 => rfl
                    case hQ304 => exact fun _ _ _ h => h
                    case hy304 => (refine Or.inl ⟨by rfl, ?_⟩; intro w hSw; (try dsimp only at hSw); go_simp; try with_reducible rfl)
                    simp only [List.setIfInBounds_toArray, List.set_cons_zero, List.set_cons_succ]
                    refine anyE_tk 28 70 (oi := ?oi305) (v := ?v305) ?hi305 ?hd305 (by kernel_rfl) (by kernel_rfl) (by kernel_rfl) ?hQ305 ?hy305 hS ?rest305
                    case hi305 => simp only [List.getElem?_toArray, List.getElem?_cons_zero, List.getElem?_cons_succ]; rfl
                    case hd305 => rfl
                    case hQ305 => exact fun _ _ _ h => h
                    case hy305 => (refine Or.inl ⟨by rfl, ?_⟩; intro w hSw; (try dsimp only at hSw); go_simp; try with_reducible rfl)
                    simp only [List.setIfInBounds_toArray, List.set_cons_zero, List.set_cons_succ]
                    refine anyE_tk 29 71 (oi := ?oi306) (v := ?v306) ?hi306 ?hd306 (by kernel_rfl) (by kernel_rfl) (by kernel_rfl) ?hQ306 ?hy306 hS ?rest306
                    case hi306 => simp only [List.getElem?_toArray, List.getElem?_cons_zero, List.getElem?_cons_succ]; rfl
                    case hd306 => rfl
                    case hQ306 => exact fun _ _ _ h => h
                    case hy306 => (refine Or.inl ⟨by rfl, ?_⟩; intro w hSw; (try dsimp only at hSw); go_simp; try with_reducible rfl)
                    simp only [List.setIfInBounds_toArray, List.set_cons_zero, List.set_cons_succ]
                    refine anyE_done (by kernel_rfl) ?_ _
                    clear hS
                    go_wp2_with fail
                    go_roundw
                    case rel => exact ⟨j + 1, by omega, by push_cast; rfl, by rw [Hss.out], HBx.out.trans (HBc.out.mono HBx.out.size)⟩
                    case measure => simp [intOf]; omega
                case step254 =>
                  go_simp
                  have H47 := Lib.hid (Blk.new W0 3 #[.int .i64 ((j : Int) + 1)])
                  have HBc := Lib.hid (HBc.out.alloc HBc.out.size (.cells #[.int .i64 ((j : Int) + 1)] 3))
                  generalize World.alloc W0 (.cells #[.int .i64 ((j : Int) + 1)] 3) = W47 at H47 HBc ⊢
                  generalize (World.heap W0).size = x47 at H47 ⊢
                  refine hK.out _ _ (fun _ => Keep.out _ HBc.out) ?_
                  clear hK K
                  try simp only [Act.put, List.setIfInBounds_toArray, List.set_cons_zero, List.set_cons_succ]
                  refine anyE_one (i := 1) (o := ?oi307) (by kernel_rfl) ?hi307 (fun K hK => ?step307)
                  case hi307 => simp only [List.getElem?_toArray, List.getElem?_cons_zero, List.getElem?_cons_succ]; rfl
                  go_simp
                  have H43 := Lib.hid (show (World.alloc W47 (.cells #[] 3)).ownsRow wr.heap.size 3 1 (.slice (some ⟨(World.heap W47).size, 0, none⟩) 0 0) 0 [] from own_base (own_new 1 (Nat.le_refl _)) HBc.out.size)
                  have hx : x47 ≠ (World.heap W47).size := Nat.ne_of_lt H47.out.lt
                  have H47 := Lib.hid (H47.out.alloc (.cells #[] 3))
                  have HBc := Lib.hid (HBc.out.alloc HBc.out.size (.cells #[] 3))
                  generalize World.alloc W47 (.cells #[] 3) = W43 at H43 HBc H47 ⊢
                  generalize (World.heap W47).size = x43 at H43 hx ⊢
                  refine hK.out _ _ (fun _ => Keep.out _ HBc.out) ?_
                  clear hK K
                  try simp only [Act.put, List.setIfInBounds_toArray, List.set_cons_zero, List.set_cons_succ]
                  refine anyE_one (i := 3) (o := ?oi308) (by kernel_rfl) ?hi308 (fun K hK => ?step308)
                  case hi308 => simp only [List.getElem?_toArray, List.getElem?_cons_zero, List.getElem?_cons_succ]; rfl
                  refine step_app' _ (by rfl) (.tmp 43) (.tmp 44) 28 (by rfl) wr.heap.size 3 j0 _ 1 8 Try.underlying28 hj hy0 hy1 hy2 (by rfl) (by decide) (.slice (some ⟨x43, 0, none⟩) 0 0) 0 [] (by rfl) H43.out (some ⟨bt, ot, none⟩) (k + 1) c3 ((intL (rdT f n first k)).map (Value.int .i64)) (by rfl) (by rw [List.length_map, intL_length, Hlen.out, Nat.mul_one]) (fun e => by cases e) (IntsAt.news (HIt3.out.below HBc.out HBc.out.size)) (ints_one _) (by omega) (by decide) HBc.out.size (k + 1) (by omega) ((intL (rdT f n first k)).map (Value.int .i64)) (by rfl) ?_
                  intro A4 c4 W45 hown4 hg4 hlow4
                  have H45 := Lib.hid hown4
                  have H47 := Lib.hid (H47.out.grown hg4 (by simpa [Value.ownBlock] using hx))
                  have HBc := Lib.hid (HBc.out.grown hg4 HBc.out.size hlow4)
                  clear hown4 hg4 hlow4 H43
                  refine hK.out _ _ (fun _ => Keep.out _ HBc.out) ?_
                  clear hK K
                  try simp only [Act.put, List.setIfInBounds_toArray, List.set_cons_zero, List.set_cons_succ]
                  refine anyE_one (i := 6) (o := ?oi309) (by kernel_rfl) ?hi309 (fun K hK => ?step309)
                  case hi309 => simp only [List.getElem?_toArray, List.getElem?_cons_zero, List.getElem?_cons_succ]; rfl
                  refine step_app' _ (by rfl) (.tmp 45) (.tmp 47) 28 (by rfl) wr.heap.size 3 j0 _ 1 8 Try.underlying28 hj hy0 hy1 hy2 (by rfl) (by decide) (.slice A4 (k + 1) c4) (k + 1) ((intL (rdT f n first k)).map (Value.int .i64)) (by rfl) H45.out (some ⟨x47, 0, none⟩) 1 1 [.int .i64 ((j : Int) + 1)] (by rfl) (by rfl) (by simp) (news_blk (t := 3) (cs := #[.int .i64 ((j : Int) + 1)]) H47.out) (by simp [Value.oneCell']) (by omega) (by decide) HBc.out.size (k + 2) (by omega) ((intL (rdT f n first k ++ [j + 1])).map (Value.int .i64)) HSn.out ?_
                  intro A5 c5 W48 hown5 hg5 hlow5
                  have HI5 := Lib.hid (IntsAt.of_own (zs := intL (rdT f n first k ++ [j + 1])) (by rw [intL_length, List.length_append, Hlen.out]; exact hown5))
                  have HBc := Lib.hid (HBc.out.grown hg5 HBc.out.size hlow5)
                  clear hown5 hg5 hlow5 H45 H47
                  refine hK.out _ _ (fun _ => Keep.out _ HBc.out) ?_
                  clear hK K
                  try simp only [Act.put, List.setIfInBounds_toArray, List.set_cons_zero, List.set_cons_succ]
                  refine anyE_one (i := 7) (o := ?oi310) (by kernel_rfl) ?hi310 (fun K hK => ?step310)
                  case hi310 => simp only [List.getElem?_toArray, List.getElem?_cons_zero, List.getElem?_cons_succ]; rfl
                  go_simp
                  refine (citj.out A5 c5 _ HI5.out).mono ?_
                  rintro e W49 ⟨rfl, hd6⟩
                  have HBc := Lib.hid (HBc.out.trans (hd6.mono HBc.out.size))
                  clear hd6 HI5
                  go_wp2_with fail
                  refine hK.out _ _ (fun _ => Keep.out _ HBc.out) ?_
                  clear hK K
                  try simp only [Act.put, List.setIfInBounds_toArray, List.set_cons_zero, List.set_cons_succ]
                  have hS := Keep.out _ HBc.out
                  refine anyE_tk 8 50 (oi := ?oi311) (v := ?v311) ?hi311 ?hd311 (by kernel_rfl) (by kernel_rfl) (by kernel_rfl) ?hQ311 ?hy311 hS ?rest311
                  case hi311 => simp only [List.getElem?_toArray, List.getElem?_cons_zero, List.getElem?_cons_succ]; rfl
                  case hd311 => rfl
                  case hQ311 => exact fun _ _ _ h => h
                  case hy311 => (refine Or.inl ⟨by rfl, ?_⟩; intro w hSw; (try dsimp only at hSw); go_simp; try with_reducible rfl)
                  simp only [List.setIfInBounds_toArray, List.set_cons_zero, List.set_cons_succ]
                  refine anyE_tk 9 51 (oi := ?oi312) (v := ?v312) ?hi312 ?hd312 (by kernel_rfl) (by kernel_rfl) (by kernel_rfl) ?hQ312 ?hy312 hS ?rest312
                  case hi312 => simp only [List.getElem?_toArray, List.getElem?_cons_zero, List.getElem?_cons_succ]; rfl
                  case hd312 => rfl
                  case hQ312 => exact fun _ _ _ h => h
                  case hy312 => (refine Or.inl ⟨by rfl, ?_⟩; intro w hSw; (try dsimp only at hSw); go_simp; try with_reducible rfl)
                  simp only [List.setIfInBounds_toArray, List.set_cons_zero, List.set_cons_succ]
                  refine anyE_tk 10 52 (oi := ?oi313) (v := ?v313) ?hi313 ?hd313 (by kernel_rfl) (by kernel_rfl) (by kernel_rfl) ?hQ313 ?hy313 hS ?rest313
                  case hi313 => simp only [List.getElem?_toArray, List.getElem?_cons_zero, List.getElem?_cons_succ]; rfl
                  case hd313 => rfl
                  case hQ313 => exact fun _ _ _ h => h
                  case hy313 => (refine Or.inl ⟨by rfl, ?_⟩; intro w hSw; (try dsimp only at hSw); go_simp; try with_reducible rfl)
                  simp only [List.setIfInBounds_toArray, List.set_cons_zero, List.set_cons_succ]
                  refine anyE_tk 11 53 (oi := ?oi314) (v := ?v314) ?hi314 ?hd314 (by kernel_rfl) (by kernel_rfl) (by kernel_rfl) ?hQ314 ?hy314 hS ?rest314
                  case hi314 => simp only [List.getElem?_toArray, List.getElem?_cons_zero, List.getElem?_cons_succ]; rfl
                  case hd314 => rfl
                  case hQ314 => exact fun _ _ _ h => h
                  case hy314 => (refine Or.inl ⟨by rfl, ?_⟩; intro w hSw; (try dsimp only at hSw); go_simp; try with_reducible rfl)
                  simp only [List.setIfInBounds_toArray, List.set_cons_zero, List.set_cons_succ]
                  refine anyE_tk 12 54 (oi := ?oi315) (v := ?v315) ?hi315 ?hd315 (by kernel_rfl) (by kernel_rfl) (by kernel_rfl) ?hQ315 ?hy315 hS ?rest315
                  case hi315 => simp only [List.getElem?_toArray, List.getElem?_cons_zero, List.getElem?_cons_succ]; rfl
                  case hd315 => rfl
                  case hQ315 => exact fun _ _ _ h => h
                  case hy315 => (refine Or.inl ⟨by rfl, ?_⟩; intro w hSw; (try dsimp only at hSw); go_simp; try with_reducible rfl)
                  simp only [List.setIfInBounds_toArray, List.set_cons_zero, List.set_cons_succ]
                  refine anyE_tk 13 55 (oi := ?oi316) (v := ?v316) ?hi316 ?hd316 (by kernel_rfl) (by kernel_rfl) (by kernel_rfl) ?hQ316 ?hy316 hS ?rest316
                  case hi316 => simp only [List.getElem?_toArray, List.getElem?_cons_zero, List.getElem?_cons_succ]; rfl
                  case hd316 => rfl
                  case hQ316 => exact fun _ _ _ h => h
                  case hy316 => (refine Or.inl ⟨by rfl, ?_⟩; intro w hSw; (try dsimp only at hSw); go_simp; try with_reducible rfl)
                  simp only [List.setIfInBounds_toArray, List.set_cons_zero, List.set_cons_succ]
                  refine anyE_tk 14 56 (oi := ?oi317) (v := ?v317) ?hi317 ?hd317 (by kernel_rfl) (by kernel_rfl) (by kernel_rfl) ?hQ317 ?hy317 hS ?rest317
                  case hi317 => simp only [List.getElem?_toArray, List.getElem?_cons_zero, List.getElem?_cons_succ]; rfl
                  case hd317 => rfl
                  case hQ317 => exact fun _ _ _ h => h
                  case hy317 => (refine Or.inl ⟨by rfl, ?_⟩; intro w hSw; (try dsimp only at hSw); go_simp; try with_reducible rfl)
                  simp only [List.setIfInBounds_toArray, List.set_cons_zero, List.set_cons_succ]
                  refine anyE_tk 15 57 (oi := ?oi318) (v := ?v318) ?hi318 ?hd318 (by kernel_rfl) (by kernel_rfl) (by kernel_rfl) ?hQ318 ?hy318 hS ?rest318
                  case hi318 => simp only [List.getElem?_toArray, List.getElem?_cons_zero, List.getElem?_cons_succ]; rfl
                  case hd318 => rfl
                  case hQ318 => exact fun _ _ _ h => h
                  case hy318 => (refine Or.inl ⟨by rfl, ?_⟩; intro w hSw; (try dsimp only at hSw); go_simp; try with_reducible rfl)
                  simp only [List.setIfInBounds_toArray, List.set_cons_zero, List.set_cons_succ]
                  refine anyE_tk 16 58 (oi := ?oi319) (v := ?v319) ?hi319 ?hd319 (by kernel_rfl) (by kernel_rfl) (by kernel_rfl) ?hQ319 ?hy319 hS ?rest319
                  case hi319 => simp only [List.getElem?_toArray, List.getElem?_cons_zero, List.getElem?_cons_succ]; rfl
                  case hd319 => rfl
                  case hQ319 => exact fun _ _ _ h => h
                  case hy319 => (refine Or.inl ⟨by rfl, ?_⟩; intro w hSw; (try dsimp only at hSw); go_simp; try with_reducible rfl)
                  simp only [List.setIfInBounds_toArray, List.set_cons_zero, List.set_cons_succ]
                  refine anyE_tk 17 59 (oi := ?oi320) (v := ?v320) ?hi320 ?hd320 (by kernel_rfl) (by kernel_rfl) (by kernel_rfl) ?hQ320 ?hy320 hS ?rest320
                  case hi320 => simp only [List.getElem?_toArray, List.getElem?_cons_zero, List.getElem?_cons_succ]; rfl
                  case hd320 => rfl
                  case hQ320 => exact fun _ _ _ h => h
                  case hy320 => (refine Or.inl ⟨by rfl, ?_⟩; intro w hSw; (try dsimp only at hSw); go_simp; try with_reducible rfl)
                  simp only [List.setIfInBounds_toArray, List.set_cons_zero, List.set_cons_succ]
                  refine anyE_tk 18 60 (oi := ?oi321) (v := ?v321) ?hi321 ?hd321 (by kernel_rfl) (by kernel_rfl) (by kernel_rfl) ?hQ321 ?hy321 hS ?rest321
                  case hi321 => simp only [List.getElem?_toArray, List.getElem?_cons_zero, List.getElem?_cons_succ]; rfl
                  case hd321 => rfl
                  case hQ321 => exact fun _ _ _ h => h
                  case hy321 => (refine Or.inl ⟨by rfl, ?_⟩; intro w hSw; (try dsimp only at hSw); go_simp; try with_reducible rfl)
                  simp only [List.setIfInBounds_toArray, List.set_cons_zero, List.set_cons_succ]
                  refine anyE_tk 19 61 (oi := ?oi322) (v := ?v322) ?hi322 ?hd322 (by kernel_rfl) (by kernel_rfl) (by kernel_rfl) ?hQ322 ?hy322 hS ?rest322
                  case hi322 => simp only [List.getElem?_toArray, List.getElem?_cons_zero, List.getElem?_cons_succ]; rfl
                  case hd322 => rfl
                  case hQ322 => exact fun _ _ _ h => h
                  case hy322 => (refine Or.inl ⟨by rfl, ?_⟩; intro w hSw; (try dsimp only at hSw); go_simp; try with_reducible rfl)
                  simp only [List.setIfInBounds_toArray, List.set_cons_zero, List.set_cons_succ]
                  refine anyE_tk 20 62 (oi := ?oi323) (v := ?v323) ?hi323 ?hd323 (by kernel_rfl) (by kernel_rfl) (by kernel_rfl) ?hQ323 ?hy323 hS ?rest323
                  case hi323 => simp only [List.getElem?_toArray, List.getElem?_cons_zero, List.getElem?_cons_succ]; rfl
                  case hd323 => rfl
                  case hQ323 => exact fun _ _ _ h => h
                  case hy323 => (refine Or.inl ⟨by rfl, ?_⟩; intro w hSw; (try dsimp only at hSw); go_simp; try with_reducible rfl)
                  simp only [List.setIfInBounds_toArray, List.set_cons_zero, List.set_cons_succ]
                  refine anyE_tk 21 63 (oi := ?oi324) (v := ?v324) ?hi324 ?hd324 (by kernel_rfl) (by kernel_rfl) (by kernel_rfl) ?hQ324 ?hy324 hS ?rest324
                  case hi324 => simp only [List.getElem?_toArray, List.getElem?_cons_zero, List.getElem?_cons_succ]; rfl
                  case hd324 => rfl
                  case hQ324 => exact fun _ _ _ h => h
                  case hy324 => (refine Or.inl ⟨by rfl, ?_⟩; intro w hSw; (try dsimp only at hSw); go_simp; try with_reducible rfl)
                  simp only [List.setIfInBounds_toArray, List.set_cons_zero, List.set_cons_succ]
                  refine anyE_tk 22 64 (oi := ?oi325) (v := ?v325) ?hi325 ?hd325 (by kernel_rfl) (by kernel_rfl) (by kernel_rfl) ?hQ325 ?hy325 hS ?rest325
                  case hi325 => simp only [List.getElem?_toArray, List.getElem?_cons_zero, List.getElem?_cons_succ]; rfl
                  case hd325 => rfl
                  case hQ325 => exact fun _ _ _ h => h
                  case hy325 => (refine Or.inl ⟨by rfl, ?_⟩; intro w hSw; (try dsimp only at hSw); go_simp; try with_reducible rfl)
                  simp only [List.setIfInBounds_toArray, List.set_cons_zero, List.set_cons_succ]
                  refine anyE_tk 23 65 (oi := ?oi326) (v := ?v326) ?hi326 ?hd326 (by kernel_rfl) (by kernel_rfl) (by kernel_rfl) ?hQ326 ?hy326 hS ?rest326
                  case hi326 => simp only [List.getElem?_toArray, List.getElem?_cons_zero, List.getElem?_cons_succ]; rfl
                  case hd326 => rfl
                  case hQ326 => exact fun _ _ _ h => h
                  case hy326 => (refine Or.inl ⟨by rfl, ?_⟩; intro w hSw; (try dsimp only at hSw); go_simp; try with_reducible rfl)
                  simp only [List.setIfInBounds_toArray, List.set_cons_zero, List.set_cons_succ]
                  refine anyE_tk 24 66 (oi := ?oi327) (v := ?v327) ?hi327 ?hd327 (by kernel_rfl) (by kernel_rfl) (by kernel_rfl) ?hQ327 ?hy327 hS ?rest327
                  case hi327 => simp only [List.getElem?_toArray, List.getElem?_cons_zero, List.getElem?_cons_succ]; rfl
                  case hd327 => rfl
                  case hQ327 => exact fun _ _ _ h => h
                  case hy327 => (refine Or.inl ⟨by rfl, ?_⟩; intro w hSw; (try dsimp only at hSw); go_simp; try with_reducible rfl)
                  simp only [List.setIfInBounds_toArray, List.set_cons_zero, List.set_cons_succ]
                  refine anyE_tk 25 67 (oi := ?oi328) (v := ?v328) ?hi328 ?hd328 (by kernel_rfl) (by kernel_rfl) (by kernel_rfl) ?hQ328 ?hy328 hS ?rest328
                  case hi328 => simp only [List.getElem?_toArray, List.getElem?_cons_zero, List.getElem?_cons_succ]; rfl
                  case hd328 => rfl
                  case hQ328 => exact fun _ _ _ h => h
                  case hy328 => (refine Or.inl ⟨by rfl, ?_⟩; intro w hSw; (try dsimp only at hSw); go_simp; try with_reducible rfl)
                  simp only [List.setIfInBounds_toArray, List.set_cons_zero, List.set_cons_succ]
                  refine anyE_tk 26 68 (oi := ?oi329) (v := ?v329) ?hi329 ?hd329 (by kernel_rfl) (by kernel_rfl) (by kernel_rfl) ?hQ329 ?hy329 hS ?rest329
                  case hi329 => simp only [List.getElem?_toArray, List.getElem?_cons_zero, List.getElem?_cons_succ]; rfl
                  case hd329 => rfl
                  case hQ329 => exact fun _ _ _ h => h
                  case hy329 => (refine Or.inl ⟨by rfl, ?_⟩; intro w hSw; (try dsimp only at hSw); go_simp; try with_reducible rfl)
                  simp only [List.setIfInBounds_toArray, List.set_cons_zero, List.set_cons_succ]
                  refine anyE_tk 27 69 (oi := ?oi330) (v := ?v330) ?hi330 ?hd330 (by kernel_rfl) (by kernel_rfl) (by kernel_rfl) ?hQ330 ?hy330 hS ?rest330
                  case hi330 => simp only [List.getElem?_toArray, List.getElem?_cons_zero, List.getElem?_cons_succ]; rfl
                  case hd330 => rfl
                  case hQ330 => exact fun _ _ _ h => h
                  case hy330 => (refine Or.inl ⟨by rfl, ?_⟩; intro w hSw; (try dsimp only at hSw); go_simp; try with_reducible rfl)
                  simp only [List.setIfInBounds_toArray, List.set_cons_zero, List.set_cons_succ]
                  refine anyE_tk 28 70 (oi := ?oi331) (v := ?v331) ?hi331 ?hd331 (by kernel_rfl) (by kernel_rfl) (by kernel_rfl) ?hQ331 ?hy331 hS ?rest331
                  case hi331 => simp only [List.getElem?_toArray, List.getElem?_cons_zero, List.getElem?_cons_succ]; rfl
                  case hd331 => rfl
                  case hQ331 => exact fun _ _ _ h => h
                  case hy331 => (refine Or.inl ⟨by rfl, ?_⟩; intro w hSw; (try dsimp only at hSw); go_simp; try with_reducible rfl)
                  simp only [List.setIfInBounds_toArray, List.set_cons_zero, List.set_cons_succ]
                  refine anyE_tk 29 71 (oi := ?oi332) (v := ?v332) ?hi332 ?hd332 (by kernel_rfl) (by kernel_rfl) (by kernel_rfl) ?hQ332 ?hy332 hS ?rest332
                  case hi332 => simp only [List.getElem?_toArray, List.getElem?_cons_zero, List.getElem?_cons_succ]; rfl
                  case hd332 => rfl
                  case hQ332 => exact fun _ _ _ h => h
                  case hy332 => (refine Or.inl ⟨by rfl, ?_⟩; intro w hSw; (try dsimp only at hSw); go_simp; try with_reducible rfl)
                  simp only [List.setIfInBounds_toArray, List.set_cons_zero, List.set_cons_succ]
                  refine anyE_done (by kernel_rfl) ?_ _
                  clear hS
                  go_wp2_with fail
                  go_roundw
                  case rel => exact ⟨j + 1, by omega, by push_cast; rfl, by rw [Hss.out], HBx.out.trans (HBc.out.mono HBx.out.size)⟩
                  case measure => simp [intOf]; omega
        · obtain rfl : j = n - 1 := by omega
          have hsn : 1 ≤ S (n - 1) := by
            have := (HS.out (k + 1) (by omega)).2 (S (n - 1)) (by rw [HNx.out]; simp)
            exact this.1
          have hbs : bsR (S (n - 1)) = ((S (n - 1) : Nat) : Int) := by unfold bsR; rw [if_neg (by omega)]
          have HO3 := Lib.hid (own_below HO.out HBx.out)
          have HRow := Lib.hid (show (intL (rdT f n first (k + 1))).map (Value.int .i64) = (intL (rdT f n first k)).map (Value.int .i64) ++ [.int .i64 ((S (n - 1) : Nat) : Int)] by rw [HNx.out, intL_snoc])
          rw [hbs]
          clear hbs hsn
          generalize S (n - 1) = sj at *
          have hjn : ((n - 1 : Nat) : Int) + 1 = (n : Int) := by omega
          rw [hjn]
          clear hjn
          go_wp2_with (at_builtin; refine wpList_app2' rfl _ _ 28 rfl w.heap.size 3 j0 _ 1 8 Try.underlying28 hj hy0 hy1 hy2 rfl (by decide) _ (k + 1) _ rfl (HO3.out.alloc _) wr.heap.size (.int .i64 (sj : Int)) rfl rfl (by exact cell_one_new _ _ _ 0 _ rfl) rfl (by omega) (by decide) (HBw.out.alloc HBw.out.size _).size ?_; intro A4 c4 w4 hown4 hg4 hlow4 hat4)
          have hb4 := (HBw.out.alloc HBw.out.size (.cells #[.int .i64 (sj : Int)] 3)).grown hg4 (HBw.out.alloc HBw.out.size _).size hlow4
          go_roundw
          case rel => exact ⟨k + 1, by omega, by rw [HRow.out]; exact hown4, hb4⟩
          case measure => simp [lenV]; omega
    · have hkn : k = n - 2 := by omega
      have hI := IntsAt.of_own (zs := intL (rdT f n first k)) (by rw [intL_length, HLn.out]; exact HO.out)
      have HI := Lib.hid hI
      have hc3 := (own_caps HO.out).1
      have hkl : k + 1 = n - 1 := by omega
      have HK := Lib.hid (And.intro hkn hkl)
      have hkI : (n : Int) - 1 ≤ ((k + 1 : Nat) : Int) := by omega
      clear hI hkn hkl
      go_wp2_with fail
      go_ret2
      exact ⟨A3, c3, by rw [← HK.out.2]; rfl, by rw [← HK.out.1]; exact HI.out, by rw [← HK.out.2]; exact hc3, HBr.out⟩
end Go.Proofs.Ytmodbpglopfghaa
