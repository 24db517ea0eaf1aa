/- The law of pairs. -/
import Derived.Test.YtgoojcjfhghmgaaDoorDisW
import Derived.Laws.StructEq
import Derived.DeepKeys
namespace Go.Proofs.YtgoojcjfhghmgaaDoor
open Go.RowKit

theorem run_equalIn62 (w : World) (a b c e : Int) : (Op.equalIn 10000 62 (.agg #[.int .i64 a, .int .i64 b]) (.agg #[.int .i64 c, .int .i64 e])).run Tryd.prog w = .ok (a == c && b == e) w := by
  obtain ⟨i, hi⟩ := info_of_underlying Tryd.underlying3
  have hc : Tryd.prog.cellsOf 3 = 1 := by kernel_rfl
  have hp : Tryd.prog.plainKey 3 = true := by kernel_rfl
  rw [show 10000 = 9999 + 1 from rfl, run_equalIn_array w 9999 _ _ Tryd.underlying62 hi, hc]
  have h0 : ∀ x y : Int, (part 3 #[.int .i64 x, .int .i64 y] 0).run Tryd.prog w = .ok (.int .i64 x) w := fun x y => run_part_plain w hp rfl
  have h1 : ∀ x y : Int, (part 3 #[.int .i64 x, .int .i64 y] 1).run Tryd.prog w = .ok (.int .i64 y) w := fun x y => run_part_plain w hp rfl
  have h2 : ∀ x y : Int, (Op.equalIn 9999 3 (.int .i64 x) (.int .i64 y)).run Tryd.prog w = .ok (x == y) w := fun x y => run_equalIn_int w 9998 3 .i64 .i64 x y Tryd.underlying3
  have e0 : List.range 2 = [0, 1] := rfl
  rw [e0]
  simp only [Op.eqItems, Sem.run_bind, Nat.mul_one, h0, h1, h2, Result.andThen_ok, Sem.run_ite, Sem.run_pure]
  cases a == c <;> cases b == e <;> rfl
theorem eqGuard62 : Tryd.prog.eqGuardType Tryd.prog.depth 62 = false := by kernel_rfl
theorem prL_length (l : List Int) (d : Int) : (prL l d).length ≤ 256 := by
  unfold prL
  split
  · rename_i h0
    obtain ⟨h1, h2, h3, h4, h5⟩ := vt_zero h0
    have := prTo_length (natL l) d.toNat (2 ^ l.length)
    have hN : 2 ^ l.length ≤ 256 := Nat.le_trans (Nat.pow_le_pow_right (by decide) h3) (by decide)
    omega
  · simp

theorem pairs_facts {l : List Int} {d ch : Int} (h : dsE l d ch = 0) :
    vtR l d = 0 ∧ cdE l d (dsV l d ch) = 0 ∧ ((prL l d).any fun x => x.1 == cdV l d (dsV l d ch) && x.2 == dsV l d ch) = true ∧ (bits BinOp.and IntKind.i64 (cdV l d (dsV l d ch)) ch == ch) = true ∧
      ∀ x ∈ prL l d, (bits BinOp.and IntKind.i64 x.1 ch == ch) = true → (bits BinOp.and IntKind.i64 x.1 (cdV l d (dsV l d ch)) != cdV l d (dsV l d ch)) = false := by
  obtain ⟨h0, h1, h2⟩ := ds_zero h
  obtain ⟨g1, g2, g3, g4, g5⟩ := vt_zero h0
  obtain ⟨n, rfl⟩ : ∃ n : Nat, ch = n := ⟨ch.toNat, by omega⟩
  have hn : n < 2 ^ (natL l).length := by rw [natL_length]; have := pow_cast l.length; omega
  have hn256 : n < 256 := lt256 hn (by rw [natL_length]; exact g3)
  have eV : dsV l d (n : Int) = ((comS (natL l) d.toNat n : Nat) : Int) := by unfold dsV; rw [if_pos h]; simp only [Int.toNat_natCast]
  have hC : comS (natL l) d.toNat n < 2 ^ d.toNat := sumTo_lt _ _
  have eE : cdE l d (dsV l d (n : Int)) = 0 := by
    unfold cdE
    rw [if_pos h0, if_neg]
    rw [eV]
    have := pow_cast d.toNat
    omega
  have eW : cdV l d (dsV l d (n : Int)) = ((eaS (natL l) d.toNat (comS (natL l) d.toNat n) : Nat) : Int) := by
    unfold cdV; rw [if_pos eE, eV]; simp only [Int.toNat_natCast]
  have hE : eaS (natL l) d.toNat (comS (natL l) d.toNat n) < 2 ^ (natL l).length := sumTo_lt _ _
  have hE256 := lt256 hE (by rw [natL_length]; exact g3)
  have eP : prL l d = prTo (natL l) d.toNat (2 ^ l.length) := if_pos h0
  rw [eW, eE, eV, eP, h0]
  have hlen := natL_length l
  generalize natL l = L at *
  generalize d.toNat = D at *
  have hcc := com_com (d := D) hn
  have hsub := gal1 (d := D) hn
  refine ⟨rfl, rfl, ?_, ?_, ?_⟩
  · rw [List.any_eq_true]
    refine ⟨(((eaS L D (comS L D n) : Nat) : Int), ((comS L D n : Nat) : Int)), ?_, by simp⟩
    unfold prTo
    refine List.mem_map.2 ⟨eaS L D (comS L D n), List.mem_filter.2 ⟨List.mem_range.2 ?_, ?_⟩, by rw [hcc]⟩
    · rw [← hlen]; exact hE
    · unfold whole; rw [hcc]; simp
  · rw [and_nat _ _ (by omega) (by omega), sub_and hsub]; simp
  · intro x hx h1
    unfold prTo at hx
    obtain ⟨q, hq, rfl⟩ := List.mem_map.1 hx
    obtain ⟨hqr, hqw⟩ := List.mem_filter.1 hq
    have hq256 : q < 256 := by
      have := List.mem_range.1 hqr
      exact lt256 this g3
    have hqe : eaS L D (comS L D q) = q := by simpa [whole] using hqw
    rw [and_nat _ _ (by omega) (by omega)] at h1
    have h2 : q &&& n = n := by
      have : ((q &&& n : Nat) : Int) = (n : Int) := by simpa using h1
      omega
    rw [and_nat _ _ (by omega) (by omega)]
    have h3 : q &&& eaS L D (comS L D n) = eaS L D (comS L D n) := by
      refine sub_and fun i hi => ?_
      have := eaS_less (fun j hj => comS_less (d := D) (l := L) (and_sub h2) j hj) i hi
      rwa [hqe] at this
    rw [h3]; simp

set_option maxRecDepth 100000 in
set_option maxHeartbeats 4000000 in
theorem law_pairs (A : Option Addr) (c : Nat) (l : List Int) (d ch : Int) (w : World) (h : IntsAt w.heap.size w A l) (hT : Tab w) :
    Calls Tryd.prog 10 #[.slice A l.length c, .int .i64 d, .int .i64 ch] w fun e w' => e = .returned (.bool true) ∧ Below w.heap.size w w' := by
  by_cases hl : 60 < l.length
  · have ck := Lib.hid (known_any w hT)
    have hld : decide ((60 : Int) < (l.length : Int)) = true := by simp; omega
    clear h hT
    go_enter Tryd.func10, Tryd.ntmps10
    go_wp2_with (go_at_call 18; refine ck.out.mono ?_; rintro e w1 ⟨rfl, hd⟩)
    go_ret
    exact ⟨rfl, hd⟩
  · have hld : decide ((60 : Int) < (l.length : Int)) = false := by simp; omega
    have hI := fun W (hW : Below w.heap.size w W) => h.below hW (Nat.le_refl _)
    have c1 := Lib.hid (Pairs_any A c w.heap.size l d w (Nat.le_refl _) h (by omega) hT)
    have c2 := Lib.hid (fun W (hW : Below w.heap.size w W) => Pairs_ref A c w.heap.size l d W hW.size (hI W hW) (by omega))
    have c3 := Lib.hid (fun W (hW : Below w.heap.size w W) => Dishes_any A c w.heap.size l d ch W hW.size (hI W hW) (by omega) (hT.below hW hT.2))
    have c4 := Lib.hid (fun W (hW : Below w.heap.size w W) => Children_any A c w.heap.size l d (dsV l d ch) W hW.size (hI W hW) (by omega))
    have ck := Lib.hid (fun W (hW : Below w.heap.size w W) => known_any W (hT.below hW hT.2))
    have HF := Lib.hid (fun h : dsE l d ch = 0 => pairs_facts h)
    have hP := prL_length l d
    clear h hT hI
    generalize prL l d = P at *
    generalize dsV l d ch = v1 at *
    generalize dsE l d ch = e1 at *
    generalize cdE l d v1 = e2 at *
    generalize cdV l d v1 = v2 at *
    generalize vtR l d = e0 at *
    have tok := Lib.hid (Nat.le_refl 0)
    have g62 := eqGuard62
    have r62 := run_equalIn62
    go_enter Tryd.func10, Tryd.ntmps10
    go_wp2_with (first
      | (have tk := tok; clear tok; go_at_call 44; refine c1.out.mono ?_; rintro e w1 ⟨A1, k1, rfl, i1, hb1⟩; have tok2 := tk)
      | (have tk := tok2; clear tok2; go_at_call 45; refine (c2.out _ hb1).mono ?_; rintro e w2 ⟨A2, k2, rfl, i2, hb⟩; have hb2 := hb1.trans (hb.mono hb1.size); have j1 := i1.below hb hb.size; clear hb i1; have tok3 := tk))
    have H1 := Lib.hid j1
    have H2 := Lib.hid i2
    clear i2 j1
    go_loopw [11] (fun i wr => ∃ k : Nat, k ≤ P.length ∧ i = .int .i64 k ∧ Below w2.heap.size w2 wr) (fun i _ => P.length - (intOf i).toNat)
    case atStart => exact ⟨0, Nat.zero_le _, rfl, Below.refl _ _⟩
    case round =>
      obtain ⟨k, hk, rfl, hb3⟩ := hrel
      by_cases hlt : k < P.length
      · obtain ⟨b, off, rfl, hbB, q0, q1⟩ := H1.out.at hlt
        obtain ⟨b', off', rfl, hbB', q0', q1'⟩ := H2.out.at hlt
        have r0 := (hb3.cell (p := ⟨b, off + k * 2, none⟩) hbB).trans q0
        have r1 := (hb3.cell (p := ⟨b, off + k * 2 + 1, none⟩) hbB).trans q1
        have r0' := (hb3.cell (p := ⟨b', off' + k * 2, none⟩) hbB').trans q0'
        have r1' := (hb3.cell (p := ⟨b', off' + k * 2 + 1, none⟩) hbB').trans q1'
        clear q0 q1 q0' q1'
        go_wp2_with fail
        go_quiet (fail)
        go_wp2_with fail
        go_roundw
        case rel => exact ⟨k + 1, by omega, by go_num, below_drewN hb3 _⟩
        case measure => simp [intOf]; omega
      · obtain rfl : k = P.length := by omega
        have hb4 := hb2.trans (hb3.mono hb2.size)
        by_cases he : e1 = 0
        · obtain ⟨rfl, rfl, F1, F2, F3⟩ := HF.out he
          have HF1 := Lib.hid F1
          have HF3 := Lib.hid (fun k (hk : k < P.length) => F3 P[k] (List.getElem_mem hk))
          subst he
          clear HF F1 F3
          go_wp2_with (first
            | (have tk := tok3; clear tok3; go_at_call 35; refine (c3.out _ hb4).mono ?_; rintro e w5 ⟨rfl, hb⟩; have hb5 := hb4.trans (hb.mono hb4.size); have hb35 := hb3.trans (hb.mono hb3.size); clear hb; have tok4 := tk)
            | (have tk := tok4; clear tok4; go_at_call 37; refine (c4.out _ hb5).mono ?_; rintro e w6 ⟨rfl, hb⟩; have hb6 := hb5.trans (hb.mono hb5.size); have hb36 := hb35.trans (hb.mono hb35.size); clear hb; have tok5 := tk))
          go_loopw [16, 17] (fun f i wr => ∃ k : Nat, k ≤ P.length ∧ i = .int .i64 k ∧ f = .bool ((P.take k).any fun x => x.1 == v2 && x.2 == v1) ∧ Below w2.heap.size w2 wr) (fun _ i _ => P.length - (intOf i).toNat)
          case atStart => exact ⟨0, Nat.zero_le _, rfl, rfl, hb36⟩
          case round =>
            obtain ⟨k, hk, rfl, rfl, hb7⟩ := hrel
            by_cases hlt : k < P.length
            · obtain ⟨b, off, rfl, hbB, q0, q1⟩ := H1.out.at hlt
              have r0 := (hb7.cell (p := ⟨b, off + k * 2, none⟩) hbB).trans q0
              have r1 := (hb7.cell (p := ⟨b, off + k * 2 + 1, none⟩) hbB).trans q1
              have Hs := Lib.hid (show (P.take (k + 1)).any (fun x => x.1 == v2 && x.2 == v1) = ((P.take k).any (fun x => x.1 == v2 && x.2 == v1) || (P[k].1 == v2 && P[k].2 == v1)) by rw [List.take_succ_eq_append_getElem hlt, List.any_append]; simp)
              have F3 := HF3.out k hlt
              clear q0 q1
              generalize (P.take k).any (fun x => x.1 == v2 && x.2 == v1) = f at Hs ⊢
              generalize P[k] = x at r0 r1 Hs F3
              cases hx : (x.1 == v2 && x.2 == v1) with
              | true =>
                go_wp2_with fail
                go_roundw
                case rel => exact ⟨k + 1, by omega, by go_num, by rw [Hs.out, hx]; simp, hb7⟩
                case measure => simp [intOf]; omega
              | false =>
                cases hy : (bits BinOp.and IntKind.i64 x.1 ch == ch) with
                | false =>
                  go_wp2_with fail
                  go_roundw
                  case rel => exact ⟨k + 1, by omega, by go_num, by rw [Hs.out, hx]; simp, hb7⟩
                  case measure => simp [intOf]; omega
                | true =>
                  have hz := F3 hy
                  clear F3
                  go_wp2_with fail
                  go_roundw
                  case rel => exact ⟨k + 1, by omega, by go_num, by rw [Hs.out, hx]; simp, hb7⟩
                  case measure => simp [intOf]; omega
            · obtain rfl : k = P.length := by omega
              have hb8 := hb2.trans (hb7.mono hb2.size)
              rw [List.take_length, HF1.out]
              go_wp2_with (go_at_call 18; refine (ck.out _ hb8).mono ?_; rintro e w9 ⟨rfl, hd9⟩)
              go_ret
              exact ⟨rfl, hb8.trans (hd9.mono hb8.size)⟩
        · have hx : (e0 != 0) = true ∨ ((e0 != 0) = false ∧ (e1 != 0) = true) := by
            by_cases h1 : e0 = 0
            · exact .inr ⟨by simp [h1], by simpa using he⟩
            · exact .inl (by simpa using h1)
          clear HF he
          rcases hx with hx | ⟨hx, hx2⟩
          all_goals
            go_wp2_with (first
              | (have tk := tok3; clear tok3; go_at_call 35; refine (c3.out _ hb4).mono ?_; rintro e w5 ⟨rfl, hb⟩; have hb5 := hb4.trans (hb.mono hb4.size); have hb35 := hb3.trans (hb.mono hb3.size); clear hb; have tok4 := tk)
              | (have tk := tok4; clear tok4; go_at_call 37; refine (c4.out _ hb5).mono ?_; rintro e w6 ⟨rfl, hb⟩; have hb6 := hb5.trans (hb.mono hb5.size); have hb36 := hb35.trans (hb.mono hb35.size); clear hb; have tok5 := tk)
              | (have tk := tok5; clear tok5; go_at_call 18; refine (ck.out _ hb6).mono ?_; rintro e w9 ⟨rfl, hd9⟩))
            go_ret
            exact ⟨rfl, hb6.trans (hd9.mono hb6.size)⟩
end Go.Proofs.YtgoojcjfhghmgaaDoor
