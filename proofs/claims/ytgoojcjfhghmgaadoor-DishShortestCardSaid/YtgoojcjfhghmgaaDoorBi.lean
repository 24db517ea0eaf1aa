/- CheckProof of the reference. -/
import Derived.Test.YtgoojcjfhghmgaaDoorBh

namespace Go.Proofs.YtgoojcjfhghmgaaDoor
open Go.RowKit

set_option maxRecDepth 100000 in
set_option maxHeartbeats 8000000 in
theorem CheckProof_ref (AI AR A : Option Addr) (cI cR c B : Nat) (b : Bk) (item prop : Int) (l : List St) (w : World) (hB : B ≤ w.heap.size) (h : ItsAt B w AI b.its) (h' : RusAt B w AR b.rus) (hl : StAt B w A l) (hs : Short b) :
    Calls Tryd.prog 43 #[.agg #[.int .i64 b.p, .slice AI b.its.length cI, .slice AR b.rus.length cR], .int .i64 item, .int .i64 prop, .slice A l.length c] w fun e w' => e = .returned (.int .i64 (cpR b item prop l)) ∧ Below w.heap.size w w' := by
  obtain ⟨W0, hW0⟩ : ∃ W0, W0 = w.alloc (.cells #[.int .i64 b.p, .slice AI b.its.length cI, .slice AR b.rus.length cR] 25) := ⟨_, rfl⟩
  have hw0 : Below w.heap.size w W0 := by rw [hW0]; exact balloc (Below.refl _ _) _
  have hb0 : Blk W0 w.heap.size 25 #[.int .i64 b.p, .slice AI b.its.length cI, .slice AR b.rus.length cR] := by rw [hW0]; exact Blk.new w 25 _
  have hlt : w.heap.size < W0.heap.size := hb0.lt
  have hI := (h.below (Below.refl _ _) hB).below hw0 (Nat.le_of_lt hlt)
  have hR := (h'.below (Below.refl _ _) hB).below hw0 (Nat.le_of_lt hlt)
  have hL := Lib.hid ((hl.below (Below.refl _ _) hB).below hw0 (Nat.le_of_lt hlt))
  have ca := Lib.hid (asked_ref AI AR cI cR W0.heap.size b item prop W0 (Nat.le_refl _) hI hR hs)
  have Hw := Lib.hid hw0
  have HX := Lib.hid (fun W (hW : Below W0.heap.size W0 W) => blk3 (hb0.below hW hlt))
  have tok := Lib.hid (Nat.le_refl 0)
  by_cases h0 : akR b item prop = 0
  · by_cases h40 : 40 < l.length
    · have Hr := Lib.hid (cp_long h0 h40)
      rw [Hr.out]
      rw [h0] at ca
      have hd : decide ((40 : Int) < (l.length : Int)) = true := by simp; omega
      clear h h' hI hR hl hs hb0 hw0 h0 hL
      go_enter Tryd.func43, Tryd.ntmps43
      go_wp2_with (go_at_call 87; rw [← hW0]; clear hW0; refine ca.out.mono ?_; rintro e w1 ⟨rfl, hd1⟩)
      go_ret
      exact ⟨rfl, Hw.out.trans (hd1.mono Hw.out.size)⟩
    · have hv := vl_zero (nm_zero (ak_zero h0).1).1
      obtain ⟨hn0, hp0, hp1⟩ := ak_zero h0
      obtain ⟨_, hi0, hi1⟩ := nm_zero hn0
      obtain ⟨m, rfl⟩ := Int.eq_ofNat_of_zero_le hi0
      obtain ⟨n, hn⟩ := Int.eq_ofNat_of_zero_le hv.p0
      have hn10 : n ≤ 10 := by have := hv.p1; omega
      have hl40 : l.length ≤ 40 := by omega
      have Hbad := Lib.hid (fun k (hk : k < l.length) hb => cp_bad (k := k) h0 hl40 hk hb)
      have Hgood := Lib.hid (fun hp hq => cp_good (l := l) h0 hl40 hp hq)
      have Hother := Lib.hid (fun hq => cp_other (l := l) h0 hl40 hq)
      have cr := Lib.hid (fun g c' K p f r W (hW : Below W0.heap.size W0 W) (hbr : BR g n K W) => right_ref AI AR cI cR W0.heap.size g c' n b m p f r K W hn hW.size (hI.below hW (Nat.le_refl _)) (hR.below hW (Nat.le_refl _)) hbr hs hv (by omega))
      have Hpb := Lib.hid (fun p f r K (h : rgR b m (p, f, r) K = true) => rg_prop h)
      have hd : decide ((40 : Int) < (l.length : Int)) = false := by simp; omega
      obtain ⟨cs, hsz, hz, mk0⟩ := make_bools n (by omega)
      rw [h0] at ca
      have hm : ((m : Int)).toNat = m := by omega
      rw [hm] at Hbad Hgood
      generalize cpR b (m : Int) prop l = out at Hbad Hgood Hother ⊢
      rw [hn] at HX cr ca hW0 Hpb ⊢
      clear h h' hI hR hl hs hb0 hw0 h0 hv hn hi0 hi1 hn0 hm
      go_enter Tryd.func43, Tryd.ntmps43
      go_wp2_with (go_at_call 87; rw [← hW0]; clear hW0; refine ca.out.mono ?_; rintro e w1 ⟨rfl, hd1⟩; obtain ⟨z0, z1, z2, _⟩ := HX.out _ hd1)
      have HB0 := Lib.hid (BB.made w1 hsz hz)
      have hb1 := balloc hd1 (.cells cs 4)
      clear z0 z1 z2 hsz hz mk0
      go_loopw [11, 12] (fun s11 s12 wr => ∃ k : Nat, k ≤ l.length ∧ s12 = .int .i64 k ∧ s11 = .int .i64 (lastP (l.take k)) ∧ Aside (Prf b m (l.take k)) ∧ Aside (BB w1.heap.size n (kS (l.take k)) wr) ∧ Below W0.heap.size W0 wr) (fun _ s12 _ => l.length - (intOf s12).toNat)
      case atStart => exact ⟨0, Nat.zero_le _, rfl, rfl, Prf.nil _ _, HB0.out, hb1⟩
      case round =>
        obtain ⟨k, hk, rfl, rfl, hpf, hbb, hbk⟩ := hrel
        have HP := Lib.hid hpf.out
        have HB := Lib.hid hbb.out
        have Hbk := Lib.hid hbk
        clear hpf hbb HB0 hb1
        by_cases hlt2 : k < l.length
        · obtain ⟨bb, off, rfl, hbB, q0, q1, q2⟩ := hL.out k hlt2
          have crk := Lib.hid (fun W (hW : Below wr.heap.size wr W) => cr.out w1.heap.size n (kS (l.take k)) l[k].1 l[k].2.1 l[k].2.2 W (hbk.trans (hW.mono hbk.size)) (HB.out.below hW HB.out.lt).br)
          have Hb2 := Lib.hid (Hbad.out k hlt2)
          have Hp2 := Lib.hid (fun h => HP.out.take_succ hlt2 h)
          have Hlp := Lib.hid (lastP_take hlt2)
          have Hks := Lib.hid (kS_take hlt2)
          have Hpk := Lib.hid (fun (h : rgR b m (l[k].1, l[k].2.1, l[k].2.2) (kS (l.take k)) = true) => Hpb.out l[k].1 l[k].2.1 l[k].2.2 (kS (l.take k)) h)
          generalize hst : l[k] = st at q0 q1 q2 crk Hb2 Hp2 Hlp Hks Hpk
          obtain ⟨p, f, r⟩ := st
          simp only at q0 q1 q2 crk Hb2 Hp2 Hlp Hks Hpk
          generalize lastP (l.take k) = lp
          have Keep := Lib.hid (fun W (hW : Below wr.heap.size wr W) => show W.cell? ⟨w.heap.size, 0, none⟩ = some (.int .i64 n) ∧ W.cell? ⟨w.heap.size, 1, none⟩ = some (.slice AI b.its.length cI) ∧ W.cell? ⟨w.heap.size, 2, none⟩ = some (.slice AR b.rus.length cR) ∧ W.cell? ⟨bb, off + k * 3, none⟩ = some (.int .i64 p) ∧ W.cell? ⟨bb, off + k * 3 + 1, none⟩ = some (.int .i64 f) ∧ W.cell? ⟨bb, off + k * 3 + 2, none⟩ = some (.int .i64 r) ∧ Below wr.heap.size wr W from by
            have hB := hbk.trans (hW.mono hbk.size)
            obtain ⟨z0, z1, z2, _⟩ := HX.out W hB
            exact ⟨z0, z1, z2, (hB.cell (p := ⟨bb, off + k * 3, none⟩) hbB).trans q0, (hB.cell (p := ⟨bb, off + k * 3 + 1, none⟩) hbB).trans q1, (hB.cell (p := ⟨bb, off + k * 3 + 2, none⟩) hbB).trans q2, hW⟩)
          have k0 : (0 : Int) ≤ (k : Int) := by omega
          have k1 : (k : Int) < (l.length : Int) := by omega
          clear q0 q1 q2 hbk hst
          generalize hrg : rgR b m (p, f, r) (kS (l.take k)) = rg at crk Hb2 Hp2 Hpk
          clear hrg
          go_wp2_with fail
          go_region_held3 (fun W => W.cell? ⟨w.heap.size, 0, none⟩ = some (.int .i64 n) ∧ W.cell? ⟨w.heap.size, 1, none⟩ = some (.slice AI b.its.length cI) ∧ W.cell? ⟨w.heap.size, 2, none⟩ = some (.slice AR b.rus.length cR) ∧ W.cell? ⟨bb, off + k * 3, none⟩ = some (.int .i64 p) ∧ W.cell? ⟨bb, off + k * 3 + 1, none⟩ = some (.int .i64 f) ∧ W.cell? ⟨bb, off + k * 3 + 2, none⟩ = some (.int .i64 r) ∧ Below wr.heap.size wr W)
            ((refine Keep.out _ ?_; repeat (first | exact Below.refl _ _ | assumption | refine Below.drew ?_)))
            (first
              | (go_at_call 88; refine (crk.out _ (by repeat (first | exact Below.refl _ _ | assumption | refine Below.drew ?_))).mono ?_; rintro e w5 ⟨rfl, hd⟩; have hb5 : Below wr.heap.size wr w5 := Below.trans (by repeat (first | exact Below.refl _ _ | assumption | refine Below.drew ?_)) (hd.mono (Below.size (w := wr) (B := wr.heap.size) (by repeat (first | exact Below.refl _ _ | assumption | refine Below.drew ?_)))); clear hd))
          all_goals
            have hb05 := Hbk.out.trans (hb5.mono Hbk.out.size)
            cases rg with
            | false =>
              have Ho := Lib.hid (Hb2.out rfl)
              clear Keep crk Hp2 Hpk
              go_wp2_with fail
              go_ret
              exact ⟨by rw [Ho.out]; rfl, Hw.out.trans (hb05.mono Hw.out.size)⟩
            | true =>
              obtain ⟨g0, g1⟩ := Hpk.out rfl
              obtain ⟨q, rfl⟩ := Int.eq_ofNat_of_zero_le g0
              have hqn : q < n := by omega
              obtain ⟨_, _, _, d0, d1, d2, _⟩ := Keep.out _ hb5
              have HB5 := Lib.hid (HB.out.below hb5 HB.out.lt)
              have y0 := HB5.out.cell hqn
              have y1 := HB5.out.frozen q
              have HPn := Lib.hid (Hp2.out rfl)
              have HBn := Lib.hid (HB5.out.put q)
              clear Keep crk Hp2 Hpk Hb2 HB
              go_wp2_with fail
              go_roundw
              case rel => exact ⟨k + 1, by omega, by go_num, by rw [Hlp.out], HPn.out, by rw [Hks.out]; exact HBn.out, below_put hb05 hd1.size _ _⟩
              case measure => simp [intOf]; omega
        · obtain rfl : k = l.length := by omega
          rw [List.take_length] at HP
          rw [List.take_length]
          have HO := Lib.hid (Hgood.out HP.out)
          generalize lastP l = lp at HO Hother
          by_cases hq : lp = prop
          · have Ho := Lib.hid (HO.out hq)
            have hqd : (lp == prop) = true := by simpa using hq
            have hqe : (lp != prop) = false := by simpa using hq
            go_wp2_with fail
            go_ret
            exact ⟨by rw [Ho.out]; rfl, Hw.out.trans (Hbk.out.mono Hw.out.size)⟩
          · have Ho := Lib.hid (Hother.out hq)
            have hqd : (lp == prop) = false := by simpa using hq
            have hqe : (lp != prop) = true := by simpa using hq
            go_wp2_with fail
            go_ret
            exact ⟨by rw [Ho.out]; rfl, Hw.out.trans (Hbk.out.mono Hw.out.size)⟩
  · have Hr := Lib.hid (cp_ak (l := l) h0)
    rw [Hr.out]
    generalize akR b item prop = e0 at h0 ca ⊢
    have he1 : (e0 == 0) = false := by simpa using h0
    have he2 : (e0 != 0) = true := by simpa using h0
    clear h h' hI hR hl hs hb0 hw0 hL Hr
    go_enter Tryd.func43, Tryd.ntmps43
    go_wp2_with (go_at_call 87; rw [← hW0]; clear hW0; refine ca.out.mono ?_; rintro e w1 ⟨rfl, hd1⟩)
    go_ret
    exact ⟨rfl, Hw.out.trans (hd1.mono Hw.out.size)⟩
end Go.Proofs.YtgoojcjfhghmgaaDoor

/- CheckProof. -/
set_option linter.unusedSimpArgs false
namespace Go.Proofs.YtgoojcjfhghmgaaDoor
open Go.RowKit

theorem andNot_bits (m r : Nat) (hm : m < 9223372036854775808) (hr : r < 9223372036854775808) : bits .andNot .i64 (m : Int) (r : Int) = ((m &&& (2 ^ 64 - (r + 1)) : Nat) : Int) := by
  have hx : m &&& (2 ^ 64 - (r + 1)) ≤ m := Nat.and_le_left
  show IntKind.i64.wrap ((BitVec.ofInt 64 (m : Int) &&& ~~~BitVec.ofInt 64 (r : Int)).toNat : Int) = _
  rw [BitVec.toNat_and, BitVec.toNat_not, ofInt_nat m hm, ofInt_nat r hr, IntKind.wrap_i64, Nat.sub_sub, Nat.add_comm 1 r]
  generalize m &&& (2 ^ 64 - (r + 1)) = z at hx
  omega
theorem andNot_all {l : List Nat} {r : Nat} (hm : mk l < 2 ^ 10) (hr : r < 2 ^ 10) : (bits BinOp.andNot IntKind.i64 (mk l : Int) (r : Int) == 0) = allB r l := by
  rw [andNot_bits _ r (Nat.lt_of_lt_of_le hm (by decide)) (Nat.lt_of_lt_of_le hr (by decide)), Bool.eq_iff_iff, beq_iff_eq]
  have hb : ∀ i, (mk l &&& (2 ^ 64 - (r + 1))).testBit i = ((mk l).testBit i && !r.testBit i) := by
    intro i
    rw [Nat.testBit_and, Nat.testBit_two_pow_sub_succ (Nat.lt_of_lt_of_le hr (by decide))]
    by_cases hi : i < 64
    · simp [hi]
    · have : (mk l).testBit i = false := Nat.testBit_lt_two_pow (Nat.lt_of_lt_of_le hm (Nat.pow_le_pow_right (by decide) (by omega)))
      simp [this]
  have hml : ∀ q, (mk l).testBit q = true ↔ q ∈ l := fun q => by rw [mk_bit, List.contains_iff_mem]
  rw [allB, List.all_eq_true]
  constructor
  · intro h q hq
    have h0 := hb q
    rw [show mk l &&& (2 ^ 64 - (r + 1)) = 0 by omega, (hml q).2 hq] at h0
    simpa using h0
  · intro h
    have hz : mk l &&& (2 ^ 64 - (r + 1)) = 0 := by
      apply Nat.eq_of_testBit_eq
      intro q
      rw [hb q]
      cases hq : (mk l).testBit q with
      | false => simp
      | true => rw [h q ((hml q).1 hq)]; simp
    rw [hz]; rfl
theorem wrap_pred {n j : Nat} (h : n = j + 1) (hn : n ≤ 40) : wrap64 ((n : Int) - 1) = (j : Int) := by
  have e : (n : Int) - 1 = (j : Int) := by omega
  rw [e]
  have : (j : Int) < 40 := by omega
  unfold wrap64
  omega
theorem rg_far {b : Bk} (hv : VBk b) {item K : Nat} {p f : Int} (hi : item < b.its.length) (h : ¬ (p < 0 ∨ b.p ≤ p)) (hf : (item : Int) < f) : rgR b item (p, f, -1) K = false := by
  rw [rg_own h rfl]
  have : (cnS b item).testBit f.toNat = false := Nat.testBit_lt_two_pow (Nat.lt_of_lt_of_le (cnS_lt hv hi) (Nat.pow_le_pow_right (by decide) (by omega)))
  rw [this]
  simp

set_option maxRecDepth 100000 in
set_option maxHeartbeats 8000000 in
theorem CheckProof_any (AI AR A : Option Addr) (cI cR c B : Nat) (b : Bk) (item prop : Int) (l : List St) (w : World) (hB : B ≤ w.heap.size) (h : ItsAt B w AI b.its) (h' : RusAt B w AR b.rus) (hl : StAt B w A l) (hs : Short b) :
    Calls Tryd.prog 46 #[.agg #[.int .i64 b.p, .slice AI b.its.length cI, .slice AR b.rus.length cR], .int .i64 item, .int .i64 prop, .slice A l.length c] w fun e w' => e = .returned (.int .i64 (cpR b item prop l)) ∧ Below w.heap.size w w' := by
  obtain ⟨W0, hW0⟩ : ∃ W0, W0 = w.alloc (.cells #[.int .i64 b.p, .slice AI b.its.length cI, .slice AR b.rus.length cR] 25) := ⟨_, rfl⟩
  have hw0 : Below w.heap.size w W0 := by rw [hW0]; exact balloc (Below.refl _ _) _
  have hb0 : Blk W0 w.heap.size 25 #[.int .i64 b.p, .slice AI b.its.length cI, .slice AR b.rus.length cR] := by rw [hW0]; exact Blk.new w 25 _
  have hlt : w.heap.size < W0.heap.size := hb0.lt
  have hI := (h.below (Below.refl _ _) hB).below hw0 (Nat.le_of_lt hlt)
  have hR := (h'.below (Below.refl _ _) hB).below hw0 (Nat.le_of_lt hlt)
  have hL := Lib.hid ((hl.below (Below.refl _ _) hB).below hw0 (Nat.le_of_lt hlt))
  have ca := Lib.hid (asked_any AI AR cI cR W0.heap.size b item prop W0 (Nat.le_refl _) hI hR hs)
  have Hw := Lib.hid hw0
  have HX := Lib.hid (fun W (hW : Below W0.heap.size W0 W) => blk3 (hb0.below hW hlt))
  have tok := Lib.hid (Nat.le_refl 0)
  by_cases h0 : akR b item prop = 0
  · by_cases h40 : 40 < l.length
    · have Hr := Lib.hid (cp_long h0 h40)
      rw [Hr.out]
      rw [h0] at ca
      have hd : decide ((40 : Int) < (l.length : Int)) = true := by simp; omega
      clear h h' hI hR hl hs hb0 hw0 h0 hL
      go_enter Tryd.func46, Tryd.ntmps46
      go_wp2_with (go_at_call 85; rw [← hW0]; clear hW0; refine ca.out.mono ?_; rintro e w1 ⟨rfl, hd1⟩)
      go_ret
      exact ⟨rfl, Hw.out.trans (hd1.mono Hw.out.size)⟩
    · have hv := vl_zero (nm_zero (ak_zero h0).1).1
      obtain ⟨hn0, hp0, hp1⟩ := ak_zero h0
      obtain ⟨_, hi0, hi1⟩ := nm_zero hn0
      obtain ⟨m, rfl⟩ := Int.eq_ofNat_of_zero_le hi0
      obtain ⟨n, hn⟩ := Int.eq_ofNat_of_zero_le hv.p0
      have hn10 : n ≤ 10 := by have := hv.p1; omega
      have hl40 : l.length ≤ 40 := by omega
      have hm : ((m : Int)).toNat = m := by omega
      have Hbad := Lib.hid (fun k (hk : k < l.length) hb => cp_bad (k := k) h0 hl40 hk hb)
      have Hgood := Lib.hid (fun hp hq => cp_good (l := l) h0 hl40 hp hq)
      have Hother := Lib.hid (fun hq => cp_other (l := l) h0 hl40 hq)
      have c68 := Lib.hid (fun W (hW : Below W0.heap.size W0 W) => contained_any AI AR cI cR W0.heap.size b m W hW.size (hI.below hW (Nat.le_refl _)) hv (by omega))
      have Hout := Lib.hid (fun p f r K h => rg_out (b := b) (item := m) (K := K) (p := p) (f := f) (r := r) h)
      have Hown := Lib.hid (fun p f K h => rg_own (b := b) (item := m) (K := K) (p := p) (f := f) (r := -1) h rfl)
      have Hrul := Lib.hid (fun p f r K h hr => rg_rule (b := b) (item := m) (K := K) (p := p) (f := f) (r := r) h hr)
      have Hfar := Lib.hid (fun p f K h hf => rg_far (K := K) (p := p) (f := f) hv (show m < b.its.length by omega) h hf)
      have HV := Lib.hid hv
      have HS := Lib.hid hs
      have HI := Lib.hid hI
      have HR := Lib.hid hR
      have hml : m < b.its.length := by omega
      have hd : decide ((40 : Int) < (l.length : Int)) = false := by simp; omega
      rw [h0] at ca
      rw [hm] at Hbad Hgood
      generalize cpR b (m : Int) prop l = out at Hbad Hgood Hother ⊢
      rw [hn] at HX c68 ca hW0 Hout Hown Hrul Hfar ⊢
      have HN := Lib.hid hn
      clear h h' hI hR hl hs hb0 hw0 h0 hv hn hi0 hi1 hn0 hm
      go_enter Tryd.func46, Tryd.ntmps46
      go_wp2_with (first
        | (have tk := tok; clear tok; go_at_call 85; rw [← hW0]; clear hW0; refine ca.out.mono ?_; rintro e w1 ⟨rfl, hd1⟩; obtain ⟨z0, z1, z2, _⟩ := HX.out _ hd1; have tok2 := tk)
        | (have tk := tok2; clear tok2; go_at_call 68; refine (c68.out _ hd1).mono ?_; rintro e w2 ⟨rfl, hC, hd⟩; have hd2 := hd1.trans (hd.mono hd1.size); clear hd z0 z1 z2))
      generalize hCe : cnS b m = C at *
      go_loopw [11, 30] (fun s11 s30 wr => ∃ k : Nat, k ≤ l.length ∧ s30 = .int .i64 k ∧ s11 = .int .i64 (kS (l.take k)) ∧ Aside (Prf b m (l.take k)) ∧ Below W0.heap.size W0 wr) (fun _ s30 _ => l.length - (intOf s30).toNat)
      case atStart => exact ⟨0, Nat.zero_le _, rfl, rfl, Prf.nil _ _, hd2⟩
      case round =>
        obtain ⟨k, hk, rfl, rfl, hpf, hbk⟩ := hrel
        have HP := Lib.hid hpf.out
        clear hpf
        by_cases hlt2 : k < l.length
        · obtain ⟨bb, off, rfl, hbB, q0, q1, q2⟩ := hL.out k hlt2
          have d0 := (hbk.cell (p := ⟨bb, off + k * 3, none⟩) hbB).trans q0
          have d1 := (hbk.cell (p := ⟨bb, off + k * 3 + 1, none⟩) hbB).trans q1
          have d2 := (hbk.cell (p := ⟨bb, off + k * 3 + 2, none⟩) hbB).trans q2
          have Hb2 := Lib.hid (Hbad.out k hlt2)
          have Hp2 := Lib.hid (fun h => HP.out.take_succ hlt2 h)
          have Hks := Lib.hid (kS_take hlt2)
          have hK := kS_lt' HP.out
          have hKn : kS (l.take k) < 2 ^ n := by rw [HN.out] at hK; exact hK
          generalize kS (l.take k) = K at Hb2 Hp2 Hks hKn hK ⊢
          generalize l[k] = st at q0 q1 q2 d0 d1 d2 Hb2 Hp2 Hks
          obtain ⟨p, f, r⟩ := st
          simp only at q0 q1 q2 d0 d1 d2 Hb2 Hp2 Hks
          have k0 : (0 : Int) ≤ (k : Int) := by omega
          have k1 : (k : Int) < (l.length : Int) := by omega
          have hba := balloc hbk (.cells #[.int .i64 p, .int .i64 f, .int .i64 r] 73)
          obtain ⟨x0, x1, x2, _⟩ := HX.out _ hba
          have HBA := Lib.hid hba
          have HY := Lib.hid (Blk.new wr 73 #[.int .i64 p, .int .i64 f, .int .i64 r])
          obtain ⟨y0, y1, y2, f0, f1, f2⟩ := blk3 HY.out
          clear q0 q1 q2 hba hK
          have Bad := Lib.hid (fun (h : rgR b m (p, f, r) K = false) => show out = 8 from Hb2.out h)
          by_cases h1 : p < 0
          · have Ho := Lib.hid (Bad.out (Hout.out p f r K (.inl h1)))
            have h1d : decide (p < 0) = true := by simpa using h1
            go_wp2_with fail
            go_ret
            exact ⟨by rw [Ho.out]; rfl, Hw.out.trans (HBA.out.mono Hw.out.size)⟩
          have h1d : decide (p < 0) = false := by simpa using h1
          by_cases h2 : (n : Int) ≤ p
          · have Ho := Lib.hid (Bad.out (Hout.out p f r K (.inr h2)))
            have h2d : decide ((n : Int) ≤ p) = true := by simpa using h2
            go_wp2_with fail
            go_ret
            exact ⟨by rw [Ho.out]; rfl, Hw.out.trans (HBA.out.mono Hw.out.size)⟩
          have h2d : decide ((n : Int) ≤ p) = false := by simpa using h2
          have h12 : ¬ (p < 0 ∨ (n : Int) ≤ p) := by omega
          obtain ⟨q, rfl⟩ := Int.eq_ofNat_of_zero_le (show 0 ≤ p by omega)
          have hqn : q < n := by omega
          have hK60 : K < 2 ^ 60 := Nat.lt_of_lt_of_le hKn (Nat.pow_le_pow_right (by decide) (by omega))
          have key := or_pow hK60 (show q < 60 by omega)
          have hqt : ((q : Int)).toNat = q := by omega
          rw [hqt] at Hks
          have hmq : min q 64 = q := by omega
          by_cases h3 : r = -1
          · subst h3
            by_cases h4 : f < 0
            · have h4d : decide (0 ≤ f) = false := by simp; omega
              have Ho := Lib.hid (Bad.out (by rw [Hown.out _ f K h12, h4d]; rfl))
              by_cases h5 : f = -1
              · subst h5
                go_wp2_with fail
                go_ret
                exact ⟨by rw [Ho.out]; rfl, Hw.out.trans (HBA.out.mono Hw.out.size)⟩
              · have h5d : (f == -1) = false := by simpa using h5
                have h5e : decide (f = -1) = false := by simpa using h5
                go_wp2_with fail
                go_ret
                exact ⟨by rw [Ho.out]; rfl, Hw.out.trans (HBA.out.mono Hw.out.size)⟩
            have h4d : decide (0 ≤ f) = true := by simp; omega
            by_cases h5 : (m : Int) < f
            · have h5d : decide (f ≤ (m : Int)) = false := by simp; omega
              have h6d : (f == -1) = false := by simp; omega
              have h6e : decide (f = -1) = false := by simp; omega
              have Ho := Lib.hid (Bad.out (Hfar.out _ f K h12 h5))
              go_wp2_with fail
              go_ret
              exact ⟨by rw [Ho.out]; rfl, Hw.out.trans (HBA.out.mono Hw.out.size)⟩
            obtain ⟨fk, rfl⟩ := Int.eq_ofNat_of_zero_le (show 0 ≤ f by omega)
            have h5d : decide ((fk : Int) ≤ (m : Int)) = true := by simp; omega
            have hfl : fk < b.its.length := by omega
            have e2 : decide ((fk : Int) < (b.its.length : Int)) = true := by simp; omega
            have Ho := Lib.hid (Hown.out (q : Int) (fk : Int) K h12)
            rw [h4d, e2, Bool.true_and, Bool.true_and, show ((fk : Int)).toNat = fk from rfl, List.getElem?_eq_getElem hfl, Option.getD_some] at Ho
            obtain ⟨bi, oi, A1, c1, A2, c2, rfl, hbi, _, e1, _, i2⟩ := HI.out fk hfl
            have hl2 := (HS.out.2.2.1 b.its[fk] (List.getElem_mem hfl)).2
            have hC60 : C < 2 ^ 60 := Nat.lt_of_lt_of_le hC (by decide)
            have kt := bit_test hC60 (i := fk)
            have c89 := Lib.hid (fun W (hW : Below W0.heap.size W0 W) => contains_any A2 c2 W0.heap.size b.its[fk].2 (q : Int) W (by omega) (i2.below hW (Nat.le_refl _)))
            generalize hhz : b.its[fk].2.contains (q : Int) = hz at c89 Ho
            generalize b.its[fk].2.length = n2 at c89 e1 hl2
            obtain ⟨W1, hW1⟩ : ∃ W1, W1 = wr.alloc (.cells #[.int .i64 q, .int .i64 fk, .int .i64 (-1)] 73) := ⟨_, rfl⟩
            have HB1 := Lib.hid (show Below W0.heap.size W0 W1 from by rw [hW1]; exact HBA.out)
            have HY1 := Lib.hid (show Blk W1 wr.heap.size 73 #[.int .i64 q, .int .i64 fk, .int .i64 (-1)] from by rw [hW1]; exact HY.out)
            obtain ⟨x0', x1', _⟩ := HX.out W1 HB1.out
            obtain ⟨y0', y1', _⟩ := blk3 HY1.out
            have Keep := Lib.hid (fun W (hW : Below W1.heap.size W1 W) => show W.cell? ⟨w.heap.size, 1, none⟩ = some (.slice (some ⟨bi, oi, none⟩) b.its.length cI) ∧ W.cell? ⟨wr.heap.size, 0, none⟩ = some (.int .i64 q) ∧ W.cell? ⟨wr.heap.size, 1, none⟩ = some (.int .i64 fk) ∧ W.cell? ⟨bi, oi + fk * 2 + 1, none⟩ = some (.slice A2 n2 c2) ∧ Below W1.heap.size W1 W from
              ⟨(hW.cell (p := ⟨w.heap.size, 1, none⟩) (Nat.lt_of_lt_of_le hlt HB1.out.size)).trans x1', (hW.cell (p := ⟨wr.heap.size, 0, none⟩) HY1.out.lt).trans y0', (hW.cell (p := ⟨wr.heap.size, 1, none⟩) HY1.out.lt).trans y1', (hW.cell (p := ⟨bi, oi + fk * 2 + 1, none⟩) (Nat.lt_of_lt_of_le hbi HB1.out.size)).trans ((HB1.out.cell (p := ⟨bi, oi + fk * 2 + 1, none⟩) hbi).trans e1), hW⟩)
            have Hin := Lib.hid (c89.out _ (HB1.out.trans (((Below.refl W1.heap.size W1).drew).mono HB1.out.size)))
            have j0 : (0 : Int) ≤ (fk : Int) := by omega
            have j1 : (fk : Int) < (b.its.length : Int) := by omega
            have hS := Keep.out _ (Below.refl W1.heap.size W1).drew
            have hmn : min fk 64 = fk := by have := HS.out.1; omega
            have hbe := HB1.out.trans (((Below.refl W1.heap.size W1).drew).mono HB1.out.size)
            clear x0' x1' y0' y1' f0 f1 f2 e1 i2 c89 Hout Hown Hrul Hfar Hb2 Keep HX HI HR
            cases hbit : C.testBit fk with
            | false =>
              rw [hbit] at kt Ho
              have Ho2 := Lib.hid (Bad.out (by rw [Ho.out]; rfl))
              simp only [Bool.false_eq_true, if_false] at kt
              go_wp2_with fail
              rw [← hW1]
              clear hW1
              refine wp_region_E (S := fun W => W.cell? ⟨w.heap.size, 1, none⟩ = some (.slice (some ⟨bi, oi, none⟩) b.its.length cI) ∧ W.cell? ⟨wr.heap.size, 0, none⟩ = some (.int .i64 q) ∧ W.cell? ⟨wr.heap.size, 1, none⟩ = some (.int .i64 fk) ∧ W.cell? ⟨bi, oi + fk * 2 + 1, none⟩ = some (.slice A2 n2 c2) ∧ Below W1.heap.size W1 W) (E := fun _ => false) (by kernel_rfl) ?_
              refine anyE_tk 0 60 (oi := ?oi1) (v := ?v1) ?hi1 ?hd1 (by kernel_rfl) (by kernel_rfl) (by kernel_rfl) ?hQ1 ?hy1 hS ?rest1
              case hi1 => simp only [List.getElem?_toArray, List.getElem?_cons_zero, List.getElem?_cons_succ]; rfl
              case hd1 => rfl
              case hQ1 => exact fun _ _ _ h => h
              case hy1 => (refine Or.inl ⟨by rfl, ?_⟩; intro w hSw; (try dsimp only at hSw); go_simp; try with_reducible rfl)
              simp only [List.setIfInBounds_toArray, List.set_cons_zero, List.set_cons_succ]
              refine anyE_tk 1 61 (oi := ?oi2) (v := ?v2) ?hi2 ?hd2 (by kernel_rfl) (by kernel_rfl) (by kernel_rfl) ?hQ2 ?hy2 hS ?rest2
              case hi2 => simp only [List.getElem?_toArray, List.getElem?_cons_zero, List.getElem?_cons_succ]; rfl
              case hd2 => rfl
              case hQ2 => exact fun _ _ _ h => h
              case hy2 => (refine Or.inl ⟨by rfl, ?_⟩; intro w hSw; (try dsimp only at hSw); go_simp; try with_reducible rfl)
              simp only [List.setIfInBounds_toArray, List.set_cons_zero, List.set_cons_succ]
              refine anyE_tk 2 62 (oi := ?oi3) (v := ?v3) ?hi3 ?hd3 (by kernel_rfl) (by kernel_rfl) (by kernel_rfl) ?hQ3 ?hy3 hS ?rest3
              case hi3 => simp only [List.getElem?_toArray, List.getElem?_cons_zero, List.getElem?_cons_succ]; rfl
              case hd3 => rfl
              case hQ3 => exact fun _ _ _ h => h
              case hy3 => (refine Or.inl ⟨by rfl, ?_⟩; intro w hSw; (try dsimp only at hSw); go_simp; try with_reducible rfl)
              simp only [List.setIfInBounds_toArray, List.set_cons_zero, List.set_cons_succ]
              refine anyE_tk 3 63 (oi := ?oi4) (v := ?v4) ?hi4 ?hd4 (by kernel_rfl) (by kernel_rfl) (by kernel_rfl) ?hQ4 ?hy4 hS ?rest4
              case hi4 => simp only [List.getElem?_toArray, List.getElem?_cons_zero, List.getElem?_cons_succ]; rfl
              case hd4 => rfl
              case hQ4 => exact fun _ _ _ h => h
              case hy4 => (refine Or.inl ⟨by rfl, ?_⟩; intro w hSw; (try dsimp only at hSw); go_simp; try with_reducible rfl)
              simp only [List.setIfInBounds_toArray, List.set_cons_zero, List.set_cons_succ]
              refine anyE_tk 4 64 (oi := ?oi5) (v := ?v5) ?hi5 ?hd5 (by kernel_rfl) (by kernel_rfl) (by kernel_rfl) ?hQ5 ?hy5 hS ?rest5
              case hi5 => simp only [List.getElem?_toArray, List.getElem?_cons_zero, List.getElem?_cons_succ]; rfl
              case hd5 => rfl
              case hQ5 => exact fun _ _ _ h => h
              case hy5 => (refine Or.inl ⟨by rfl, ?_⟩; intro w hSw; (try dsimp only at hSw); go_simp; try with_reducible rfl)
              simp only [List.setIfInBounds_toArray, List.set_cons_zero, List.set_cons_succ]
              refine anyE_tk 5 65 (oi := ?oi6) (v := ?v6) ?hi6 ?hd6 (by kernel_rfl) (by kernel_rfl) (by kernel_rfl) ?hQ6 ?hy6 hS ?rest6
              case hi6 => simp only [List.getElem?_toArray, List.getElem?_cons_zero, List.getElem?_cons_succ]; rfl
              case hd6 => rfl
              case hQ6 => exact fun _ _ _ h => h
              case hy6 => (refine Or.inl ⟨by rfl, ?_⟩; intro w hSw; (try dsimp only at hSw); go_simp; try with_reducible rfl)
              simp only [List.setIfInBounds_toArray, List.set_cons_zero, List.set_cons_succ]
              refine anyE_tk 6 66 (oi := ?oi7) (v := ?v7) ?hi7 ?hd7 (by kernel_rfl) (by kernel_rfl) (by kernel_rfl) ?hQ7 ?hy7 hS ?rest7
              case hi7 => simp only [List.getElem?_toArray, List.getElem?_cons_zero, List.getElem?_cons_succ]; rfl
              case hd7 => rfl
              case hQ7 => exact fun _ _ _ h => h
              case hy7 => (refine Or.inl ⟨by rfl, ?_⟩; intro w hSw; (try dsimp only at hSw); go_simp; try with_reducible rfl)
              simp only [List.setIfInBounds_toArray, List.set_cons_zero, List.set_cons_succ]
              refine anyE_tk 7 67 (oi := ?oi8) (v := undef) ?hi8 ?hd8 (by kernel_rfl) (by kernel_rfl) (by kernel_rfl) ?hQ8 ?hy8 hS ?rest8
              case hi8 => simp only [List.getElem?_toArray, List.getElem?_cons_zero, List.getElem?_cons_succ]; rfl
              case hd8 => rfl
              case hQ8 => exact fun _ _ _ h => h
              case hy8 => exact Or.inr ⟨by rfl, rfl⟩
              simp only [List.setIfInBounds_toArray, List.set_cons_zero, List.set_cons_succ]
              refine anyE_tk 8 68 (oi := ?oi9) (v := undef) ?hi9 ?hd9 (by kernel_rfl) (by kernel_rfl) (by kernel_rfl) ?hQ9 ?hy9 hS ?rest9
              case hi9 => simp only [List.getElem?_toArray, List.getElem?_cons_zero, List.getElem?_cons_succ]; rfl
              case hd9 => rfl
              case hQ9 => exact fun _ _ _ h => h
              case hy9 => exact Or.inr ⟨by rfl, rfl⟩
              simp only [List.setIfInBounds_toArray, List.set_cons_zero, List.set_cons_succ]
              refine anyE_tk 9 69 (oi := ?oi10) (v := undef) ?hi10 ?hd10 (by kernel_rfl) (by kernel_rfl) (by kernel_rfl) ?hQ10 ?hy10 hS ?rest10
              case hi10 => simp only [List.getElem?_toArray, List.getElem?_cons_zero, List.getElem?_cons_succ]; rfl
              case hd10 => rfl
              case hQ10 => exact fun _ _ _ h => h
              case hy10 => exact Or.inr ⟨by rfl, rfl⟩
              simp only [List.setIfInBounds_toArray, List.set_cons_zero, List.set_cons_succ]
              refine anyE_tk 10 70 (oi := ?oi11) (v := undef) ?hi11 ?hd11 (by kernel_rfl) (by kernel_rfl) (by kernel_rfl) ?hQ11 ?hy11 hS ?rest11
              case hi11 => simp only [List.getElem?_toArray, List.getElem?_cons_zero, List.getElem?_cons_succ]; rfl
              case hd11 => rfl
              case hQ11 => exact fun _ _ _ h => h
              case hy11 => exact Or.inr ⟨by rfl, rfl⟩
              simp only [List.setIfInBounds_toArray, List.set_cons_zero, List.set_cons_succ]
              refine anyE_tk 11 71 (oi := ?oi12) (v := undef) ?hi12 ?hd12 (by kernel_rfl) (by kernel_rfl) (by kernel_rfl) ?hQ12 ?hy12 hS ?rest12
              case hi12 => simp only [List.getElem?_toArray, List.getElem?_cons_zero, List.getElem?_cons_succ]; rfl
              case hd12 => rfl
              case hQ12 => exact fun _ _ _ h => h
              case hy12 => exact Or.inr ⟨by rfl, rfl⟩
              simp only [List.setIfInBounds_toArray, List.set_cons_zero, List.set_cons_succ]
              refine anyE_tk 12 72 (oi := ?oi13) (v := undef) ?hi13 ?hd13 (by kernel_rfl) (by kernel_rfl) (by kernel_rfl) ?hQ13 ?hy13 hS ?rest13
              case hi13 => simp only [List.getElem?_toArray, List.getElem?_cons_zero, List.getElem?_cons_succ]; rfl
              case hd13 => rfl
              case hQ13 => exact fun _ _ _ h => h
              case hy13 => exact Or.inr ⟨by rfl, rfl⟩
              simp only [List.setIfInBounds_toArray, List.set_cons_zero, List.set_cons_succ]
              refine anyE_tk 13 73 (oi := ?oi14) (v := undef) ?hi14 ?hd14 (by kernel_rfl) (by kernel_rfl) (by kernel_rfl) ?hQ14 ?hy14 hS ?rest14
              case hi14 => simp only [List.getElem?_toArray, List.getElem?_cons_zero, List.getElem?_cons_succ]; rfl
              case hd14 => rfl
              case hQ14 => exact fun _ _ _ h => h
              case hy14 => exact Or.inr ⟨by rfl, rfl⟩
              simp only [List.setIfInBounds_toArray, List.set_cons_zero, List.set_cons_succ]
              refine anyE_tk 14 74 (oi := ?oi15) (v := undef) ?hi15 ?hd15 (by kernel_rfl) (by kernel_rfl) (by kernel_rfl) ?hQ15 ?hy15 hS ?rest15
              case hi15 => simp only [List.getElem?_toArray, List.getElem?_cons_zero, List.getElem?_cons_succ]; rfl
              case hd15 => rfl
              case hQ15 => exact fun _ _ _ h => h
              case hy15 => exact Or.inr ⟨by rfl, rfl⟩
              simp only [List.setIfInBounds_toArray, List.set_cons_zero, List.set_cons_succ]
              refine anyE_tk 15 75 (oi := ?oi16) (v := undef) ?hi16 ?hd16 (by kernel_rfl) (by kernel_rfl) (by kernel_rfl) ?hQ16 ?hy16 hS ?rest16
              case hi16 => simp only [List.getElem?_toArray, List.getElem?_cons_zero, List.getElem?_cons_succ]; rfl
              case hd16 => rfl
              case hQ16 => exact fun _ _ _ h => h
              case hy16 => exact Or.inr ⟨by rfl, rfl⟩
              simp only [List.setIfInBounds_toArray, List.set_cons_zero, List.set_cons_succ]
              refine anyE_tk 16 76 (oi := ?oi17) (v := undef) ?hi17 ?hd17 (by kernel_rfl) (by kernel_rfl) (by kernel_rfl) ?hQ17 ?hy17 hS ?rest17
              case hi17 => simp only [List.getElem?_toArray, List.getElem?_cons_zero, List.getElem?_cons_succ]; rfl
              case hd17 => rfl
              case hQ17 => exact fun _ _ _ h => h
              case hy17 => exact Or.inr ⟨by rfl, rfl⟩
              simp only [List.setIfInBounds_toArray, List.set_cons_zero, List.set_cons_succ]
              refine anyE_tk 17 77 (oi := ?oi18) (v := undef) ?hi18 ?hd18 (by kernel_rfl) (by kernel_rfl) (by kernel_rfl) ?hQ18 ?hy18 hS ?rest18
              case hi18 => simp only [List.getElem?_toArray, List.getElem?_cons_zero, List.getElem?_cons_succ]; rfl
              case hd18 => rfl
              case hQ18 => exact fun _ _ _ h => h
              case hy18 => exact Or.inr ⟨by rfl, rfl⟩
              simp only [List.setIfInBounds_toArray, List.set_cons_zero, List.set_cons_succ]
              refine anyE_tk 18 78 (oi := ?oi19) (v := ?v19) ?hi19 ?hd19 (by kernel_rfl) (by kernel_rfl) (by kernel_rfl) ?hQ19 ?hy19 hS ?rest19
              case hi19 => simp only [List.getElem?_toArray, List.getElem?_cons_zero, List.getElem?_cons_succ]; rfl
              case hd19 => rfl
              case hQ19 => exact fun _ _ _ h => h
              case hy19 => (refine Or.inl ⟨by rfl, ?_⟩; intro w hSw; (try dsimp only at hSw); go_simp; try with_reducible rfl)
              simp only [List.setIfInBounds_toArray, List.set_cons_zero, List.set_cons_succ]
              refine anyE_done (by kernel_rfl) ?_ _
              go_wp2_with fail
              go_ret
              exact ⟨by rw [Ho2.out]; rfl, Hw.out.trans (hbe.mono Hw.out.size)⟩
            | true =>
              rw [hbit] at kt Ho
              simp only [if_true] at kt
              rw [Bool.true_and] at Ho
              go_wp2_with fail
              rw [← hW1]
              clear hW1
              refine wp_region_E (S := fun W => W.cell? ⟨w.heap.size, 1, none⟩ = some (.slice (some ⟨bi, oi, none⟩) b.its.length cI) ∧ W.cell? ⟨wr.heap.size, 0, none⟩ = some (.int .i64 q) ∧ W.cell? ⟨wr.heap.size, 1, none⟩ = some (.int .i64 fk) ∧ W.cell? ⟨bi, oi + fk * 2 + 1, none⟩ = some (.slice A2 n2 c2) ∧ Below W1.heap.size W1 W) (E := fun _ => false) (by kernel_rfl) ?_
              refine anyE_tk 0 60 (oi := ?oi20) (v := ?v20) ?hi20 ?hd20 (by kernel_rfl) (by kernel_rfl) (by kernel_rfl) ?hQ20 ?hy20 hS ?rest20
              case hi20 => simp only [List.getElem?_toArray, List.getElem?_cons_zero, List.getElem?_cons_succ]; rfl
              case hd20 => rfl
              case hQ20 => exact fun _ _ _ h => h
              case hy20 => (refine Or.inl ⟨by rfl, ?_⟩; intro w hSw; (try dsimp only at hSw); go_simp; try with_reducible rfl)
              simp only [List.setIfInBounds_toArray, List.set_cons_zero, List.set_cons_succ]
              refine anyE_tk 1 61 (oi := ?oi21) (v := ?v21) ?hi21 ?hd21 (by kernel_rfl) (by kernel_rfl) (by kernel_rfl) ?hQ21 ?hy21 hS ?rest21
              case hi21 => simp only [List.getElem?_toArray, List.getElem?_cons_zero, List.getElem?_cons_succ]; rfl
              case hd21 => rfl
              case hQ21 => exact fun _ _ _ h => h
              case hy21 => (refine Or.inl ⟨by rfl, ?_⟩; intro w hSw; (try dsimp only at hSw); go_simp; try with_reducible rfl)
              simp only [List.setIfInBounds_toArray, List.set_cons_zero, List.set_cons_succ]
              refine anyE_tk 2 62 (oi := ?oi22) (v := ?v22) ?hi22 ?hd22 (by kernel_rfl) (by kernel_rfl) (by kernel_rfl) ?hQ22 ?hy22 hS ?rest22
              case hi22 => simp only [List.getElem?_toArray, List.getElem?_cons_zero, List.getElem?_cons_succ]; rfl
              case hd22 => rfl
              case hQ22 => exact fun _ _ _ h => h
              case hy22 => (refine Or.inl ⟨by rfl, ?_⟩; intro w hSw; (try dsimp only at hSw); go_simp; try with_reducible rfl)
              simp only [List.setIfInBounds_toArray, List.set_cons_zero, List.set_cons_succ]
              refine anyE_tk 3 63 (oi := ?oi23) (v := ?v23) ?hi23 ?hd23 (by kernel_rfl) (by kernel_rfl) (by kernel_rfl) ?hQ23 ?hy23 hS ?rest23
              case hi23 => simp only [List.getElem?_toArray, List.getElem?_cons_zero, List.getElem?_cons_succ]; rfl
              case hd23 => rfl
              case hQ23 => exact fun _ _ _ h => h
              case hy23 => (refine Or.inl ⟨by rfl, ?_⟩; intro w hSw; (try dsimp only at hSw); go_simp; try with_reducible rfl)
              simp only [List.setIfInBounds_toArray, List.set_cons_zero, List.set_cons_succ]
              refine anyE_tk 4 64 (oi := ?oi24) (v := ?v24) ?hi24 ?hd24 (by kernel_rfl) (by kernel_rfl) (by kernel_rfl) ?hQ24 ?hy24 hS ?rest24
              case hi24 => simp only [List.getElem?_toArray, List.getElem?_cons_zero, List.getElem?_cons_succ]; rfl
              case hd24 => rfl
              case hQ24 => exact fun _ _ _ h => h
              case hy24 => (refine Or.inl ⟨by rfl, ?_⟩; intro w hSw; (try dsimp only at hSw); go_simp; try with_reducible rfl)
              simp only [List.setIfInBounds_toArray, List.set_cons_zero, List.set_cons_succ]
              refine anyE_tk 5 65 (oi := ?oi25) (v := ?v25) ?hi25 ?hd25 (by kernel_rfl) (by kernel_rfl) (by kernel_rfl) ?hQ25 ?hy25 hS ?rest25
              case hi25 => simp only [List.getElem?_toArray, List.getElem?_cons_zero, List.getElem?_cons_succ]; rfl
              case hd25 => rfl
              case hQ25 => exact fun _ _ _ h => h
              case hy25 => (refine Or.inl ⟨by rfl, ?_⟩; intro w hSw; (try dsimp only at hSw); go_simp; try with_reducible rfl)
              simp only [List.setIfInBounds_toArray, List.set_cons_zero, List.set_cons_succ]
              refine anyE_tk 6 66 (oi := ?oi26) (v := ?v26) ?hi26 ?hd26 (by kernel_rfl) (by kernel_rfl) (by kernel_rfl) ?hQ26 ?hy26 hS ?rest26
              case hi26 => simp only [List.getElem?_toArray, List.getElem?_cons_zero, List.getElem?_cons_succ]; rfl
              case hd26 => rfl
              case hQ26 => exact fun _ _ _ h => h
              case hy26 => (refine Or.inl ⟨by rfl, ?_⟩; intro w hSw; (try dsimp only at hSw); go_simp; try with_reducible rfl)
              simp only [List.setIfInBounds_toArray, List.set_cons_zero, List.set_cons_succ]
              refine anyE_tk 7 67 (oi := ?oi27) (v := ?v27) ?hi27 ?hd27 (by kernel_rfl) (by kernel_rfl) (by kernel_rfl) ?hQ27 ?hy27 hS ?rest27
              case hi27 => simp only [List.getElem?_toArray, List.getElem?_cons_zero, List.getElem?_cons_succ]; rfl
              case hd27 => rfl
              case hQ27 => exact fun _ _ _ h => h
              case hy27 => (refine Or.inl ⟨by rfl, ?_⟩; intro w hSw; (try dsimp only at hSw); go_simp; try with_reducible rfl)
              simp only [List.setIfInBounds_toArray, List.set_cons_zero, List.set_cons_succ]
              refine anyE_tk 8 68 (oi := ?oi28) (v := ?v28) ?hi28 ?hd28 (by kernel_rfl) (by kernel_rfl) (by kernel_rfl) ?hQ28 ?hy28 hS ?rest28
              case hi28 => simp only [List.getElem?_toArray, List.getElem?_cons_zero, List.getElem?_cons_succ]; rfl
              case hd28 => rfl
              case hQ28 => exact fun _ _ _ h => h
              case hy28 => (refine Or.inl ⟨by rfl, ?_⟩; intro w hSw; (try dsimp only at hSw); go_simp; try with_reducible rfl)
              simp only [List.setIfInBounds_toArray, List.set_cons_zero, List.set_cons_succ]
              refine anyE_tk 9 69 (oi := ?oi29) (v := ?v29) ?hi29 ?hd29 (by kernel_rfl) (by kernel_rfl) (by kernel_rfl) ?hQ29 ?hy29 hS ?rest29
              case hi29 => simp only [List.getElem?_toArray, List.getElem?_cons_zero, List.getElem?_cons_succ]; rfl
              case hd29 => rfl
              case hQ29 => exact fun _ _ _ h => h
              case hy29 => (refine Or.inl ⟨by rfl, ?_⟩; intro w hSw; (try dsimp only at hSw); go_simp; try with_reducible rfl)
              simp only [List.setIfInBounds_toArray, List.set_cons_zero, List.set_cons_succ]
              refine anyE_tk 10 70 (oi := ?oi30) (v := ?v30) ?hi30 ?hd30 (by kernel_rfl) (by kernel_rfl) (by kernel_rfl) ?hQ30 ?hy30 hS ?rest30
              case hi30 => simp only [List.getElem?_toArray, List.getElem?_cons_zero, List.getElem?_cons_succ]; rfl
              case hd30 => rfl
              case hQ30 => exact fun _ _ _ h => h
              case hy30 => (refine Or.inl ⟨by rfl, ?_⟩; intro w hSw; (try dsimp only at hSw); go_simp; try with_reducible rfl)
              simp only [List.setIfInBounds_toArray, List.set_cons_zero, List.set_cons_succ]
              refine anyE_tk 11 71 (oi := ?oi31) (v := ?v31) ?hi31 ?hd31 (by kernel_rfl) (by kernel_rfl) (by kernel_rfl) ?hQ31 ?hy31 hS ?rest31
              case hi31 => simp only [List.getElem?_toArray, List.getElem?_cons_zero, List.getElem?_cons_succ]; rfl
              case hd31 => rfl
              case hQ31 => exact fun _ _ _ h => h
              case hy31 => (refine Or.inl ⟨by rfl, ?_⟩; intro w hSw; (try dsimp only at hSw); go_simp; try with_reducible rfl)
              simp only [List.setIfInBounds_toArray, List.set_cons_zero, List.set_cons_succ]
              refine anyE_tk 12 72 (oi := ?oi32) (v := ?v32) ?hi32 ?hd32 (by kernel_rfl) (by kernel_rfl) (by kernel_rfl) ?hQ32 ?hy32 hS ?rest32
              case hi32 => simp only [List.getElem?_toArray, List.getElem?_cons_zero, List.getElem?_cons_succ]; rfl
              case hd32 => rfl
              case hQ32 => exact fun _ _ _ h => h
              case hy32 => (refine Or.inl ⟨by rfl, ?_⟩; intro w hSw; (try dsimp only at hSw); go_simp; try with_reducible rfl)
              simp only [List.setIfInBounds_toArray, List.set_cons_zero, List.set_cons_succ]
              refine anyE_tk 13 73 (oi := ?oi33) (v := ?v33) ?hi33 ?hd33 (by kernel_rfl) (by kernel_rfl) (by kernel_rfl) ?hQ33 ?hy33 hS ?rest33
              case hi33 => simp only [List.getElem?_toArray, List.getElem?_cons_zero, List.getElem?_cons_succ]; rfl
              case hd33 => rfl
              case hQ33 => exact fun _ _ _ h => h
              case hy33 => (refine Or.inl ⟨by rfl, ?_⟩; intro w hSw; (try dsimp only at hSw); go_simp; try with_reducible rfl)
              simp only [List.setIfInBounds_toArray, List.set_cons_zero, List.set_cons_succ]
              refine anyE_tk 14 74 (oi := ?oi34) (v := ?v34) ?hi34 ?hd34 (by kernel_rfl) (by kernel_rfl) (by kernel_rfl) ?hQ34 ?hy34 hS ?rest34
              case hi34 => simp only [List.getElem?_toArray, List.getElem?_cons_zero, List.getElem?_cons_succ]; rfl
              case hd34 => rfl
              case hQ34 => exact fun _ _ _ h => h
              case hy34 => (refine Or.inl ⟨by rfl, ?_⟩; intro w hSw; (try dsimp only at hSw); go_simp; try with_reducible rfl)
              simp only [List.setIfInBounds_toArray, List.set_cons_zero, List.set_cons_succ]
              refine anyE_tk 15 75 (oi := ?oi35) (v := ?v35) ?hi35 ?hd35 (by kernel_rfl) (by kernel_rfl) (by kernel_rfl) ?hQ35 ?hy35 hS ?rest35
              case hi35 => simp only [List.getElem?_toArray, List.getElem?_cons_zero, List.getElem?_cons_succ]; rfl
              case hd35 => rfl
              case hQ35 => exact fun _ _ _ h => h
              case hy35 => (refine Or.inl ⟨by rfl, ?_⟩; intro w hSw; (try dsimp only at hSw); go_simp; try with_reducible rfl)
              simp only [List.setIfInBounds_toArray, List.set_cons_zero, List.set_cons_succ]
              refine anyE_one (i := 16) (o := ?oi36) (by kernel_rfl) ?hi36 (fun K hK => ?step36)
              case hi36 => simp only [List.getElem?_toArray, List.getElem?_cons_zero, List.getElem?_cons_succ]; rfl
              go_simp
              refine Hin.out.mono ?_
              rintro e w6 ⟨rfl, rfl⟩
              go_wp2_with fail
              refine hK.out _ _ (fun _ => hS) ?_
              clear hK K
              try simp only [Act.put, List.setIfInBounds_toArray, List.set_cons_zero, List.set_cons_succ]
              cases hz with
              | false =>
                have Ho2 := Lib.hid (Bad.out Ho.out)
                refine anyE_tk 17 77 (oi := ?oi37) (v := ?v37) ?hi37 ?hd37 (by kernel_rfl) (by kernel_rfl) (by kernel_rfl) ?hQ37 ?hy37 hS ?rest37
                case hi37 => simp only [List.getElem?_toArray, List.getElem?_cons_zero, List.getElem?_cons_succ]; rfl
                case hd37 => rfl
                case hQ37 => exact fun _ _ _ h => h
                case hy37 => (refine Or.inl ⟨by rfl, ?_⟩; intro w hSw; (try dsimp only at hSw); go_simp; try with_reducible rfl)
                simp only [List.setIfInBounds_toArray, List.set_cons_zero, List.set_cons_succ]
                refine anyE_tk 18 78 (oi := ?oi38) (v := ?v38) ?hi38 ?hd38 (by kernel_rfl) (by kernel_rfl) (by kernel_rfl) ?hQ38 ?hy38 hS ?rest38
                case hi38 => simp only [List.getElem?_toArray, List.getElem?_cons_zero, List.getElem?_cons_succ]; rfl
                case hd38 => rfl
                case hQ38 => exact fun _ _ _ h => h
                case hy38 => (refine Or.inl ⟨by rfl, ?_⟩; intro w hSw; (try dsimp only at hSw); go_simp; try with_reducible rfl)
                simp only [List.setIfInBounds_toArray, List.set_cons_zero, List.set_cons_succ]
                refine anyE_done (by kernel_rfl) ?_ _
                go_wp2_with fail
                go_ret
                exact ⟨by rw [Ho2.out]; rfl, Hw.out.trans (hbe.mono Hw.out.size)⟩
              | true =>
                have HPn := Lib.hid (Hp2.out Ho.out)
                refine anyE_tk 17 77 (oi := ?oi39) (v := ?v39) ?hi39 ?hd39 (by kernel_rfl) (by kernel_rfl) (by kernel_rfl) ?hQ39 ?hy39 hS ?rest39
                case hi39 => simp only [List.getElem?_toArray, List.getElem?_cons_zero, List.getElem?_cons_succ]; rfl
                case hd39 => rfl
                case hQ39 => exact fun _ _ _ h => h
                case hy39 => (refine Or.inl ⟨by rfl, ?_⟩; intro w hSw; (try dsimp only at hSw); go_simp; try with_reducible rfl)
                simp only [List.setIfInBounds_toArray, List.set_cons_zero, List.set_cons_succ]
                refine anyE_tk 18 78 (oi := ?oi40) (v := ?v40) ?hi40 ?hd40 (by kernel_rfl) (by kernel_rfl) (by kernel_rfl) ?hQ40 ?hy40 hS ?rest40
                case hi40 => simp only [List.getElem?_toArray, List.getElem?_cons_zero, List.getElem?_cons_succ]; rfl
                case hd40 => rfl
                case hQ40 => exact fun _ _ _ h => h
                case hy40 => (refine Or.inl ⟨by rfl, ?_⟩; intro w hSw; (try dsimp only at hSw); go_simp; try with_reducible rfl)
                simp only [List.setIfInBounds_toArray, List.set_cons_zero, List.set_cons_succ]
                refine anyE_done (by kernel_rfl) ?_ _
                obtain ⟨_, y0', _, _, _⟩ := hS
                go_wp2_with fail
                go_roundw
                case rel => exact ⟨k + 1, by omega, by go_num, by rw [Hks.out], HPn.out, hbe⟩
                case measure => simp [intOf]; omega
          · have h3d : decide (r = -1) = false := by simpa using h3
            have h3e : (r == -1) = false := by simpa using h3
            have Ho := Lib.hid (Hrul.out (q : Int) f r K h12 h3)
            by_cases h4 : f = -1
            case neg =>
              have e1 : decide (f = -1) = false := by simpa using h4
              have e2 : (f == -1) = false := by simpa using h4
              have Ho2 := Lib.hid (Bad.out (by rw [Ho.out, e1]; rfl))
              go_wp2_with fail
              go_ret
              exact ⟨by rw [Ho2.out]; rfl, Hw.out.trans (HBA.out.mono Hw.out.size)⟩
            subst h4
            by_cases h5 : r < 0
            · have e1 : decide (0 ≤ r) = false := by simp; omega
              have Ho2 := Lib.hid (Bad.out (by rw [Ho.out, e1]; simp))
              go_wp2_with fail
              go_ret
              exact ⟨by rw [Ho2.out]; rfl, Hw.out.trans (HBA.out.mono Hw.out.size)⟩
            have e1 : decide (0 ≤ r) = true := by simp; omega
            by_cases h6 : (b.rus.length : Int) ≤ r
            · have e2 : decide (r < (b.rus.length : Int)) = false := by simp; omega
              have Ho2 := Lib.hid (Bad.out (by rw [Ho.out, e2]; simp))
              go_wp2_with fail
              go_ret
              exact ⟨by rw [Ho2.out]; rfl, Hw.out.trans (HBA.out.mono Hw.out.size)⟩
            obtain ⟨rk, rfl⟩ := Int.eq_ofNat_of_zero_le (show 0 ≤ r by omega)
            have e2 : decide ((rk : Int) < (b.rus.length : Int)) = true := by simp; omega
            have hrl : rk < b.rus.length := by omega
            rw [e1, e2, decide_eq_true (show (-1 : Int) = -1 from rfl), Bool.true_and, Bool.true_and, Bool.true_and, show ((rk : Int)).toNat = rk from rfl, List.getElem?_eq_getElem hrl, Option.getD_some] at Ho
            obtain ⟨bi, oi, A1, c1, rfl, hbi, u0, u1, i1⟩ := HR.out rk hrl
            have hl2 := HS.out.2.2.2 b.rus[rk] (List.getElem_mem hrl)
            obtain ⟨hset, _, _⟩ := ruOk_mem (HV.out.rules b.rus[rk] (List.getElem_mem hrl))
            rw [HN.out] at hset
            have hin : intL (natL b.rus[rk].1) = b.rus[rk].1 := int_nat fun x hx => (isS_mem hset x hx).1
            have hqn2 : ∀ z ∈ natL b.rus[rk].1, z < n := natL_lt (isS_mem hset)
            have hlen : b.rus[rk].1.length = (natL b.rus[rk].1).length := by rw [natL_length]
            rw [← hin] at i1
            rw [hlen] at u0 hl2
            generalize b.rus[rk].2 = t at u1 Ho
            generalize natL b.rus[rk].1 = L at i1 hqn2 u0 hl2 Ho
            have v0 := (HBA.out.cell (p := ⟨bi, oi + rk * 2, none⟩) hbi).trans u0
            have v1 := (HBA.out.cell (p := ⟨bi, oi + rk * 2 + 1, none⟩) hbi).trans u1
            have hbc := balloc HBA.out (.cells #[.slice A1 L.length c1, .int .i64 t] 42)
            have HBC := Lib.hid hbc
            obtain ⟨g0, g1, g2, _⟩ := blk3 (HY.out.alloc (.cells #[.slice A1 L.length c1, .int .i64 t] 42))
            have c76 := Lib.hid (mask_any A1 c1 W0.heap.size L _ (i1.below hbc (Nat.le_refl _)) (by omega) (fun z hz => by have := hqn2 z hz; omega))
            have hmk := mk_lt hqn2
            have p10 : (2 : Nat) ^ n ≤ 2 ^ 10 := Nat.pow_le_pow_right (by decide) hn10
            have ka := andNot_all (l := L) (r := K) (by omega) (by omega)
            have kb : (bits BinOp.andNot IntKind.i64 (mk L : Int) (K : Int) != 0) = !allB K L := by rw [← ka]; rfl
            have j0 : (0 : Int) ≤ (rk : Int) := by omega
            have j1 : (rk : Int) < (b.rus.length : Int) := by omega
            generalize allB K L = al at ka kb Ho
            clear u0 u1 i1 hin hqn2 hset hlen hl2 hmk p10 hbc HX HI HR Hout Hown Hrul Hfar Hb2
            by_cases h7 : t = (q : Int)
            case neg =>
              have e3 : decide (t = (q : Int)) = false := by simpa using h7
              have e4 : (t == (q : Int)) = false := by simpa using h7
              have e5 : (t != (q : Int)) = true := by simpa using h7
              rw [e3, Bool.false_and] at Ho
              have Ho2 := Lib.hid (Bad.out Ho.out)
              go_wp2_with fail
              go_ret
              exact ⟨by rw [Ho2.out]; rfl, Hw.out.trans (HBC.out.mono Hw.out.size)⟩
            subst h7
            rw [decide_eq_true (show (q : Int) = (q : Int) from rfl), Bool.true_and] at Ho
            cases al with
            | false =>
              have Ho2 := Lib.hid (Bad.out Ho.out)
              go_wp2_with (go_at_call 76; refine c76.out.mono ?_; rintro e w3 ⟨rfl, rfl⟩)
              go_ret
              exact ⟨by rw [Ho2.out]; rfl, Hw.out.trans (HBC.out.mono Hw.out.size)⟩
            | true =>
              have HPn := Lib.hid (Hp2.out Ho.out)
              go_wp2_with (go_at_call 76; refine c76.out.mono ?_; rintro e w3 ⟨rfl, rfl⟩)
              go_roundw
              case rel => exact ⟨k + 1, by omega, by go_num, by rw [Hks.out], HPn.out, HBC.out⟩
              case measure => simp [intOf]; omega
        · obtain rfl : k = l.length := by omega
          rw [List.take_length] at HP
          rw [List.take_length]
          by_cases hz0 : l.length = 0
          · have hl0 : l = [] := List.eq_nil_of_length_eq_zero hz0
            have Ho := Lib.hid (Hother.out (by rw [hl0]; show (-1 : Int) ≠ prop; omega))
            have hzd : ((l.length : Int) == 0) = true := by simp [hl0]
            go_wp2_with fail
            go_ret
            exact ⟨by rw [Ho.out]; rfl, Hw.out.trans (hbk.mono Hw.out.size)⟩
          obtain ⟨j, hj⟩ : ∃ j, l.length = j + 1 := ⟨l.length - 1, by omega⟩
          obtain ⟨bb, off, rfl, hbB, q0, _, _⟩ := hL.out j (by omega)
          have d0 := (hbk.cell (p := ⟨bb, off + j * 3, none⟩) hbB).trans q0
          have hla := lastP_at (l := l) (i := j) hj.symm
          have HG := Lib.hid (Hgood.out HP.out)
          rw [hla] at HG Hother
          have hzd : ((l.length : Int) == 0) = false := by rw [beq_eq_false_iff_ne]; omega
          have hw1 : wrap64 ((l.length : Int) - 1) = (j : Int) := wrap_pred hj hl40
          have hw2 : IntKind.i64.wrap ((l.length : Int) - 1) = (j : Int) := by rw [IntKind.wrap_i64, hj]; omega
          have j0 : (0 : Int) ≤ (j : Int) := by omega
          have j1 : (j : Int) < (l.length : Int) := by omega
          generalize l[j].1 = lp at d0 HG Hother
          by_cases hq : lp = prop
          · have Ho := Lib.hid (HG.out hq)
            have hqd : (lp == prop) = true := by simpa using hq
            have hqe : (lp != prop) = false := by simpa using hq
            go_wp2_with fail
            go_ret
            exact ⟨by rw [Ho.out]; rfl, Hw.out.trans (hbk.mono Hw.out.size)⟩
          · have Ho := Lib.hid (Hother.out hq)
            have hqd : (lp == prop) = false := by simpa using hq
            have hqe : (lp != prop) = true := by simpa using hq
            go_wp2_with fail
            go_ret
            exact ⟨by rw [Ho.out]; rfl, Hw.out.trans (hbk.mono Hw.out.size)⟩
  · have Hr := Lib.hid (cp_ak (l := l) h0)
    rw [Hr.out]
    generalize akR b item prop = e0 at h0 ca ⊢
    have he1 : (e0 == 0) = false := by simpa using h0
    have he2 : (e0 != 0) = true := by simpa using h0
    clear h h' hI hR hl hs hb0 hw0 hL Hr
    go_enter Tryd.func46, Tryd.ntmps46
    go_wp2_with (go_at_call 85; rw [← hW0]; clear hW0; refine ca.out.mono ?_; rintro e w1 ⟨rfl, hd1⟩)
    go_ret
    exact ⟨rfl, Hw.out.trans (hd1.mono Hw.out.size)⟩
end Go.Proofs.YtgoojcjfhghmgaaDoor

/- The law of proofs. -/
namespace Go.Proofs.YtgoojcjfhghmgaaDoor
open Go.RowKit

set_option maxRecDepth 100000 in
set_option maxHeartbeats 4000000 in
theorem law_proofs (AI AR A : Option Addr) (cI cR c : Nat) (b : Bk) (item prop : Int) (l : List St) (w : World) (h : ItsAt w.heap.size w AI b.its) (h' : RusAt w.heap.size w AR b.rus) (hl : StAt w.heap.size w A l) (hT : Tab w) :
    Calls Tryd.prog 11 #[.agg #[.int .i64 b.p, .slice AI b.its.length cI, .slice AR b.rus.length cR], .agg #[.int .i64 item, .int .i64 prop], .slice A l.length c] w fun e w' => e = .returned (.bool true) ∧ Below w.heap.size w w' := by
  obtain ⟨W0, hW0⟩ : ∃ W0, W0 = (w.alloc (.cells #[.int .i64 b.p, .slice AI b.its.length cI, .slice AR b.rus.length cR] 25)).alloc (.cells #[.int .i64 item, .int .i64 prop] 52) := ⟨_, rfl⟩
  have hw0 : Below w.heap.size w W0 := by rw [hW0]; exact balloc (balloc (Below.refl _ _) _) _
  have hb0 : Blk W0 w.heap.size 25 #[.int .i64 b.p, .slice AI b.its.length cI, .slice AR b.rus.length cR] := by rw [hW0]; exact (Blk.new w 25 _).alloc _
  have hb1 : Blk W0 (w.heap.size + 1) 52 #[.int .i64 item, .int .i64 prop] := by rw [hW0]; exact blk_new' (by simp only [World.size_alloc])
  have hlt : w.heap.size < W0.heap.size := hb0.lt
  have hI := h.below hw0 (Nat.le_of_lt hlt)
  have hR := h'.below hw0 (Nat.le_of_lt hlt)
  have hL := hl.below hw0 (Nat.le_of_lt hlt)
  have hT0 := hT.below hw0 hT.2
  have clg := Lib.hid (Long_any AI AR cI cR _ b W0 (Nat.le_refl _) hI hR)
  have ck := Lib.hid (fun W (hW : Below W0.heap.size W0 W) => known_any W (hT0.below hW hT0.2))
  have Hw := Lib.hid hw0
  have HX := Lib.hid (fun W (hW : Below W0.heap.size W0 W) => And.intro (blk3 (hb0.below hW hlt)) (blk2 (hb1.below hW hb1.lt)))
  have tok := Lib.hid (Nat.le_refl 0)
  cases hlg : lgR b with
  | true =>
    rw [hlg] at clg
    clear h h' hl hI hR hL hT hT0 hb0 hb1 hw0 hlg
    go_enter Tryd.func11, Tryd.ntmps11
    go_wp2_with (first
      | (have tk := tok; clear tok; go_at_call 17; rw [← hW0]; clear hW0; refine clg.out.mono ?_; rintro e w1 ⟨rfl, hd1⟩; have tok2 := tk; obtain ⟨⟨z0, z1, z2, _⟩, y0, y1, _⟩ := HX.out _ hd1)
      | (have tk := tok2; clear tok2; go_at_call 18; refine (ck.out _ hd1).mono ?_; rintro e w2 ⟨rfl, hd2⟩; have hb2 := hd1.trans (hd2.mono hd1.size)))
    go_ret
    exact ⟨rfl, Hw.out.trans (hb2.mono Hw.out.size)⟩
  | false =>
    rw [hlg] at clg
    by_cases h100 : 100 < l.length
    · have hld : decide ((100 : Int) < (l.length : Int)) = true := by simp; omega
      clear h h' hl hI hR hL hT hT0 hb0 hb1 hw0 hlg
      go_enter Tryd.func11, Tryd.ntmps11
      go_wp2_with (first
        | (have tk := tok; clear tok; go_at_call 17; rw [← hW0]; clear hW0; refine clg.out.mono ?_; rintro e w1 ⟨rfl, hd1⟩; have tok2 := tk; obtain ⟨⟨z0, z1, z2, _⟩, y0, y1, _⟩ := HX.out _ hd1)
        | (have tk := tok2; clear tok2; go_at_call 18; refine (ck.out _ hd1).mono ?_; rintro e w2 ⟨rfl, hd2⟩; have hb2 := hd1.trans (hd2.mono hd1.size)))
      go_ret
      exact ⟨rfl, Hw.out.trans (hb2.mono Hw.out.size)⟩
    · have hld : decide ((100 : Int) < (l.length : Int)) = false := by simp; omega
      have hs := lg_short hlg
      have c1 := Lib.hid (fun W (hW : Below W0.heap.size W0 W) => CheckProof_any AI AR A cI cR c W0.heap.size b item prop l W hW.size (hI.below hW (Nat.le_refl _)) (hR.below hW (Nat.le_refl _)) (hL.below hW (Nat.le_refl _)) hs)
      have c2 := Lib.hid (fun W (hW : Below W0.heap.size W0 W) => CheckProof_ref AI AR A cI cR c W0.heap.size b item prop l W hW.size (hI.below hW (Nat.le_refl _)) (hR.below hW (Nat.le_refl _)) (hL.below hW (Nat.le_refl _)) hs)
      have c3 := fun W (hW : Below W0.heap.size W0 W) => Label_any AI AR cI cR W0.heap.size b item W hW.size (hI.below hW (Nat.le_refl _)) (hR.below hW (Nat.le_refl _)) hs (hT0.below hW hT0.2)
      have HP := Lib.hid (fun (h0 : cpR b item prop l = 0) => proof_label h0)
      by_cases h0 : cpR b item prop l = 0
      · obtain ⟨hn, hhas⟩ := HP.out h0
        rw [hn] at c3
        rw [h0] at c1 c2
        have C3 := Lib.hid c3
        have Hhas := Lib.hid hhas
        clear h h' hl hI hR hL hT hT0 hb0 hb1 hw0 hlg hs HP h0 hn hhas c3
        go_enter Tryd.func11, Tryd.ntmps11
        go_wp2_with (first
          | (have tk := tok; clear tok; go_at_call 17; rw [← hW0]; clear hW0; refine clg.out.mono ?_; rintro e w1 ⟨rfl, hd1⟩; have tok2 := tk; obtain ⟨⟨z0, z1, z2, _⟩, y0, y1, _⟩ := HX.out _ hd1)
          | (have tk := tok2; clear tok2; go_at_call 46; refine (c1.out _ hd1).mono ?_; rintro e w2 ⟨rfl, hd⟩; have hb2 := hd1.trans (hd.mono hd1.size); have tok3 := tk; clear hd z0 z1 z2 y0 y1; obtain ⟨⟨z0, z1, z2, _⟩, y0, y1, _⟩ := HX.out _ hb2)
          | (have tk := tok3; clear tok3; go_at_call 43; refine (c2.out _ hb2).mono ?_; rintro e w3 ⟨rfl, hd⟩; have hb3 := hb2.trans (hd.mono hb2.size); have tok4 := tk; clear hd z0 z1 z2 y0 y1; obtain ⟨⟨z0, z1, z2, _⟩, y0, y1, _⟩ := HX.out _ hb3)
          | (have tk := tok4; clear tok4; go_at_call 28; refine (C3.out _ hb3).mono ?_; rintro e w4 ⟨v4, rfl, hv4, hd⟩; have hb4 := hb3.trans (hd.mono hb3.size); obtain ⟨L4, A4, k4, rfl, i4, hL4, hs4⟩ := hv4.ints; have Hc4 := Has_ref A4 k4 _ L4 prop w4 i4 (by omega); rw [Hhas.out L4 hL4] at Hc4; have H4 := Lib.hid Hc4; have tok5 := tk; clear hd hv4 hL4 i4 Hc4 z0 z1 z2 y0 y1; obtain ⟨⟨z0, z1, z2, _⟩, y0, y1, _⟩ := HX.out _ hb4)
          | (have tk := tok5; clear tok5; go_at_call 30; refine H4.out.mono ?_; rintro e w5 ⟨rfl, rfl⟩; have tok6 := tk)
          | (have tk := tok6; clear tok6; go_at_call 18; refine (ck.out _ hb4).mono ?_; rintro e w6 ⟨rfl, hd2⟩; have hb6 := hb4.trans (hd2.mono hb4.size)))
        go_ret
        exact ⟨rfl, Hw.out.trans (hb6.mono Hw.out.size)⟩
      · have h0d : (cpR b item prop l == 0) = false := by simpa using h0
        have h0e : (cpR b item prop l != 0) = true := by simpa using h0
        have C3 := Lib.hid c3
        generalize cpR b item prop l = e0 at c1 c2 h0d h0e
        generalize nmR b item = e1 at C3
        clear h h' hl hI hR hL hT hT0 hb0 hb1 hw0 hlg hs HP h0 c3
        go_enter Tryd.func11, Tryd.ntmps11
        go_wp2_with (first
          | (have tk := tok; clear tok; go_at_call 17; rw [← hW0]; clear hW0; refine clg.out.mono ?_; rintro e w1 ⟨rfl, hd1⟩; have tok2 := tk; obtain ⟨⟨z0, z1, z2, _⟩, y0, y1, _⟩ := HX.out _ hd1)
          | (have tk := tok2; clear tok2; go_at_call 46; refine (c1.out _ hd1).mono ?_; rintro e w2 ⟨rfl, hd⟩; have hb2 := hd1.trans (hd.mono hd1.size); have tok3 := tk; clear hd z0 z1 z2 y0 y1; obtain ⟨⟨z0, z1, z2, _⟩, y0, y1, _⟩ := HX.out _ hb2)
          | (have tk := tok3; clear tok3; go_at_call 43; refine (c2.out _ hb2).mono ?_; rintro e w3 ⟨rfl, hd⟩; have hb3 := hb2.trans (hd.mono hb2.size); have tok4 := tk; clear hd z0 z1 z2 y0 y1; obtain ⟨⟨z0, z1, z2, _⟩, y0, y1, _⟩ := HX.out _ hb3)
          | (have tk := tok4; clear tok4; go_at_call 28; refine (C3.out _ hb3).mono ?_; rintro e w4 ⟨v4, rfl, hv4, hd⟩; have hb4 := hb3.trans (hd.mono hb3.size); obtain ⟨L4, A4, k4, rfl, i4, hL4, hs4⟩ := hv4.ints; have tok5 := tk; clear hd hv4 hL4 i4 z0 z1 z2 y0 y1; obtain ⟨⟨z0, z1, z2, _⟩, y0, y1, _⟩ := HX.out _ hb4)
          | (have tk := tok5; clear tok5; go_at_call 18; refine (ck.out _ hb4).mono ?_; rintro e w6 ⟨rfl, hd2⟩; have hb6 := hb4.trans (hd2.mono hb4.size)))
        go_ret
        exact ⟨rfl, Hw.out.trans (hb6.mono Hw.out.size)⟩
end Go.Proofs.YtgoojcjfhghmgaaDoor
