/- DishFewest returns true for every input, and its arguments read as they did; the library's tables start as its text lays them. -/
import Derived.Test.YtgoojcjfhghmgaaDoorDisEb
import Derived.Test.YtgoojcjfhghmgaaDoorDisFa
import Derived.Test.YtgoojcjfhghmgaaDoorM3
import Derived.Test.YtgoojcjfhghmgaaDoorM4
import Derived.Test.YtgoojcjfhghmgaaDoorM1
import Derived.Test.YtgoojcjfhghmgaaDoorDisY
import Derived.Test.YtgoojcjfhghmgaaDoorDisQ
import Derived.Test.YtgoojcjfhghmgaaDoorDisEe
import Derived.Test.YtgoojcjfhghmgaaDoorOpen
import Derived.Test.YtgoojcjfhghmgaaDoorDisI
import Derived.Test.YtgoojcjfhghmgaaDoorRows
import Derived.Test.YtgoojcjfhghmgaaDoorCards
import Derived.Test.YtgoojcjfhghmgaaDoorTie
import Derived.Test.YtgoojcjfhghmgaaDoorOpen4
import Derived.Test.YtgoojcjfhghmgaaDoorOpenM
import Derived.Carry
import Derived.ShutString

set_option linter.unusedSimpArgs false
namespace Go.Proofs.YtgoojcjfhghmgaaDoor
open Go.RowKit

theorem shr_nat (n k : Nat) : (n : Int) / (2 : Int) ^ k = ((n / 2 ^ k : Nat) : Int) := by rw [Int.natCast_ediv]; simp

set_option maxRecDepth 100000 in
set_option maxHeartbeats 1000000 in
theorem bits_ref (n : Nat) (hn : n < 2 ^ 10) (w : World) :
    Calls Tryd.prog 93 #[.int .i64 n] w fun e w' => ∃ A c, e = .returned (.slice A (bl n).length c) ∧ w'.ownsRow w.heap.size 3 1 (.slice A (bl n).length c) (bl n).length (natV (bl n)) ∧ Below w.heap.size w w' := by
  obtain ⟨j0, hj, hy0, hy1, hy2⟩ := info_parts info3
  have Hn := Lib.hid hn
  have Hkt := Lib.hid (fun k => bit_test (m := n) (i := k) (Nat.lt_trans hn (by decide)))
  clear hn
  go_enter Tryd.func93, Tryd.ntmps93
  go_wp2_with fail
  go_loopw [3, 4] (fun out i wr => ∃ k : Nat, k ≤ 10 ∧ i = .int .i64 k ∧ wr.ownsRow w.heap.size 3 1 out (plTo n k).length (natV (plTo n k)) ∧ Below w.heap.size w wr) (fun _ i _ => 11 - (intOf i).toNat)
  case atStart => exact ⟨0, Nat.zero_le _, rfl, World.ownsRow_nil _ _ _ _, Below.refl _ _⟩
  case round =>
    obtain ⟨k, hk, rfl, hown, hb⟩ := hrel
    have hlen := plTo_length n k
    by_cases hz : n / 2 ^ k = 0
    · have Hf := Lib.hid (show plTo n k = bl n from plTo_all (by
        rcases Nat.div_eq_zero_iff.1 hz with h | h
        · exact absurd h (Nat.pos_iff_ne_zero.1 (Nat.two_pow_pos k))
        · exact h) (by omega))
      rw [Hf.out] at hown
      obtain ⟨A, c, rfl⟩ := own_sl hown
      have hgt : (n : Int) / (2 : Int) ^ k = 0 := by rw [shr_nat, hz]; rfl
      clear hz hlen
      go_wp2_with fail
      go_ret
      exact ⟨A, c, rfl, hown, hb⟩
    · have hk9 : k < 10 := by
        rcases Nat.lt_or_ge k 10 with h | h
        · exact h
        · exact absurd (Nat.div_eq_of_lt (Nat.lt_of_lt_of_le Hn.out (Nat.pow_le_pow_right (by decide) h))) hz
      have hgt : 0 < (n : Int) / (2 : Int) ^ k := by rw [shr_nat]; exact Int.natCast_pos.2 (Nat.pos_of_ne_zero hz)
      have HO := Lib.hid hown
      have Hb := Lib.hid hb
      have kt := Hkt.out k
      have Hs := Lib.hid (plTo_succ n k)
      clear hz hown hb
      cases ht : n.testBit k with
      | false =>
        rw [ht] at kt
        simp only [Bool.false_eq_true, if_false] at kt
        have Hf := Lib.hid (show plTo n (k + 1) = plTo n k by rw [Hs.out, ht]; simp)
        clear ht
        go_wp2_with fail
        go_roundw
        case rel => exact ⟨k + 1, by omega, by go_num, by rw [Hf.out]; exact HO.out, Hb.out⟩
        case measure => simp [intOf]; omega
      | true =>
        rw [ht] at kt
        simp only [if_true] at kt
        have Hf := Lib.hid (show plTo n (k + 1) = plTo n k ++ [k] by rw [Hs.out, ht]; simp)
        clear ht
        go_wp2_with (at_builtin; refine wpList_append_own _ rfl _ _ 32 rfl w.heap.size 3 j0 _ 1 8 Tryd.underlying32 hj hy0 hy1 hy2 rfl (by decide) _ _ _ rfl (HO.out.alloc _) ⟨wr.heap.size, 0, none⟩ 1 1 _ rfl rfl (cell_one_new _ _ _) (by simp [Value.oneCell']) (by simp only [maxLen]; omega) (by omega) (Hb.out.alloc Hb.out.size _).size ?_; intro v' w7 hown7 hg7 _)
        have b7 : Below w.heap.size w w7 := (Hb.out.alloc Hb.out.size _).grown hg7 (Hb.out.alloc Hb.out.size _).size (fun x hx => (HO.out.lt x hx).1)
        go_roundw
        case rel => exact ⟨k + 1, by omega, by go_num, by rw [Hf.out, List.length_append, natV, List.map_append]; exact hown7, b7⟩
        case measure => simp [intOf]; omega

theorem bits_ref' (n : Nat) (hn : n < 2 ^ 10) (w : World) :
    Calls Tryd.prog 93 #[.int .i64 n] w fun e w' => ∃ A c, e = .returned (.slice A (bl n).length c) ∧ IntsAt w'.heap.size w' A (intL (bl n)) ∧ Below w.heap.size w w' :=
  (bits_ref n hn w).mono (by
    rintro e w' ⟨A, c, rfl, hown, hb⟩
    obtain ⟨A', c', hv, hI⟩ := IntsAt.of_nat hown
    injection hv with h1 h2 h3
    subst h1
    exact ⟨A, c, rfl, hI, hb⟩)
end Go.Proofs.YtgoojcjfhghmgaaDoor


set_option linter.unusedSimpArgs false
set_option linter.unusedVariables false
namespace Go.Proofs.YtgoojcjfhghmgaaDoor
open Go Go.RowKit

/-- None of the first k is marked. -/
def frF (al : List Nat) (x k : Nat) : Bool := (al.take k).all fun q => !x.testBit q
theorem frF_succ {al : List Nat} {x k : Nat} (hk : k < al.length) : frF al x (k + 1) = (frF al x k && !x.testBit al[k]) := by
  unfold frF
  rw [List.take_succ_eq_append_getElem hk, List.all_append]
  simp
theorem frF_all {al : List Nat} {x : Nat} : frF al x al.length = true ↔ ∀ q ∈ al, x.testBit q = false := by
  unfold frF
  rw [List.take_length, List.all_eq_true]
  simp

set_option maxRecDepth 100000 in
set_option maxHeartbeats 16000000 in
theorem Fewest_refg (AI AR : Option Addr) (cI cR : Nat) (A : Option Addr) (c : Nat) (A2 : Option Addr) (c2 B : Nat) (b : Bk) (item : Int) (av : List Int) (ss : List (Int × Int)) (w : World) (hB : B ≤ w.heap.size) (h : ItsAt B w AI b.its) (h' : RusAt B w AR b.rus) (hs : Short b) (hi : IntsAt B w A av) (hal : av.length ≤ 100) (hp : PairsAt B w A2 ss) (hm : ss.length ≤ 1000) (hT : Tab w) (h0 : nmR b item = 0) (hS : isS av b.p = true) (h2 : swE b.its.length ss = 0) :
    Calls Tryd.prog 56 #[.agg #[.int .i64 b.p, .slice AI b.its.length cI, .slice AR b.rus.length cR], .int .i64 item, .slice A av.length c, .slice A2 ss.length c2] w fun e w' =>
      ∃ A' c', e = .returned (.tuple #[.slice A' ((feV b item av ss).getD []).length c', .bool (feV b item av ss).isSome, .int .i64 (feE b item av ss)]) ∧ IntsAt w'.heap.size w' A' (intL ((feV b item av ss).getD [])) ∧ Below w.heap.size w w' := by
  have hb0 := Blk.new w 25 #[.int .i64 b.p, .slice AI b.its.length cI, .slice AR b.rus.length cR]
  have hw0 : Below w.heap.size w (w.alloc (.cells #[.int .i64 b.p, .slice AI b.its.length cI, .slice AR b.rus.length cR] 25)) := (Below.refl _ _).alloc (Nat.le_refl _) _
  obtain ⟨W0, hW0⟩ : ∃ W0, W0 = w.alloc (.cells #[.int .i64 b.p, .slice AI b.its.length cI, .slice AR b.rus.length cR] 25) := ⟨_, rfl⟩
  rw [← hW0] at hb0 hw0
  have hlt : w.heap.size < W0.heap.size := hb0.lt
  have hI := (h.below (Below.refl _ _) hB).below hw0 (Nat.le_of_lt hlt)
  have hR := (h'.below (Below.refl _ _) hB).below hw0 (Nat.le_of_lt hlt)
  have hA := (hi.below (Below.refl _ _) hB).below hw0 (Nat.le_of_lt hlt)
  have hP := (hp.below (Below.refl _ _) hB).below hw0 (Nat.le_of_lt hlt)
  have hT0 := hT.below hw0 hT.2
  have cn := Lib.hid (named_ref AI AR cI cR _ b item W0 (Nat.le_refl _) hI hR hs)
  have cS := Lib.hid (fun W (hW : Below W0.heap.size W0 W) => show Calls Tryd.prog 61 #[.slice A av.length c, .int .i64 (b.p - 1)] W fun e w' => e = .returned (.bool (isS av b.p)) ∧ Drew W w' by have := IsSet_ref A c W0.heap.size av (b.p - 1) W (hA.below hW (Nat.le_refl _)) (by omega); rwa [Int.sub_add_cancel] at this)
  have cw := Lib.hid (fun W (hW : Below W0.heap.size W0 W) => swapsOK_ref AI AR cI cR A2 c2 W0.heap.size b ss W hW.size (hP.below hW (Nat.le_refl _)) hs.1 hm)
  have HX := Lib.hid (fun W (hW : Below W0.heap.size W0 W) => blk3 (hb0.below hW hlt))
  have Hw := Lib.hid hw0
  have tok := Lib.hid (Nat.le_refl 0)
  obtain ⟨hv0, hi0, hi1⟩ := nm_zero h0
  have hv := vl_zero hv0
  have HE := Lib.hid (show feE b item av ss = 0 by unfold feE; rw [if_pos h0, if_pos hS, h2])
  obtain ⟨m, rfl⟩ : ∃ m : Nat, item = (m : Int) := ⟨item.toNat, (Int.toNat_of_nonneg hi0).symm⟩
  have hav := isS_mem hS
  have hp10 := hv.p1
  have hp0 := hv.p0
  obtain ⟨al, rfl, hal10⟩ : ∃ al : List Nat, av = intL al ∧ ∀ x ∈ al, x < 10 := ⟨natL av, (int_nat fun x hx => (hav x hx).1).symm, fun x hx => by obtain ⟨y, hy, rfl⟩ := List.mem_map.1 hx; have := hav y hy; omega⟩
  have HV := Lib.hid (show feV b (m : Int) (intL al) ss = feN b m al ss (2 ^ ss.length) by unfold feV; rw [if_pos HE.out, Int.toNat_natCast, natL_intL])
  obtain ⟨h8, hsw⟩ := sw_zero h2
  rw [il] at hal cS ⊢
  rw [h0] at cn
  rw [hS] at cS
  rw [h2] at cw
  have hmi : m < b.its.length := by omega
  have HC := Lib.hid (fun n (hn : n < 2 ^ ss.length) => chS_facts h8 hn)
  have HCt := Lib.hid (fun n => chTo_all ss n)
  have HCs := Lib.hid (fun n k (hk : k < (bl n).length) (hi : (bl n)[k] < ss.length) => chTo_succ hk hi)
  have cl := Lib.hid (fun n (hn : n < 2 ^ ss.length) W => bits_ref' n (Nat.lt_trans (set_small h8 hn) (by decide)) W)
  have cc := Lib.hid (fun (A1 A3 : Option Addr) (c1 c3 : Nat) (l l' : List Nat) (hl : l.length ≤ 8) (hl' : l'.length ≤ 8) W (h1 : IntsAt W.heap.size W A1 (intL l)) (h3 : IntsAt W.heap.size W A3 (intL l')) => show Calls Tryd.prog 103 #[.slice A1 l.length c1, .slice A3 l'.length c3] W fun e w' => e = .returned (.bool (frB (intL l) (intL l'))) ∧ Drew W w' by
    have := first_ref A1 A3 c1 c3 W.heap.size (intL l) (intL l') W h1 h3 (by rw [il]; omega) (by rw [il]; omega)
    rwa [il, il] at this)
  have ce := Lib.hid (fun (A3 : Option Addr) (c3 n : Nat) (hn : n < 2 ^ ss.length) W (hW : Below W0.heap.size W0 W) (h3 : PairsAt W.heap.size W A3 (chS ss n)) => show Calls Tryd.prog 97 #[.agg #[.int .i64 b.p, .slice AI b.its.length cI, .slice AR b.rus.length cR], .slice A3 (bl n).length c3] W fun e w' =>
      ((∃ mm AI' AR' cI' cR', exN b.its (chS ss n) = some mm ∧ e = .returned (.tuple #[.agg #[.int .i64 b.p, .slice AI' b.its.length cI', .slice AR' b.rus.length cR'], .bool true]) ∧ ItsAt w'.heap.size w' AI' mm ∧ RusAt w'.heap.size w' AR' b.rus) ∨
        (¬ feG b m al ss n ∧ e = .returned (.tuple #[.agg #[.int .i64 b.p, .slice AI b.its.length cI, .slice AR b.rus.length cR], .bool false]))) ∧ Below W.heap.size W w' by
    obtain ⟨f1, f2, f3⟩ := chS_facts h8 hn
    have := exchanged_ref AI AR cI cR A3 c3 W.heap.size b (chS ss n) W (Nat.le_refl _) (hI.below hW hW.size) (hR.below hW hW.size) hs (vl_ord hv) h3 (by rw [chS_length]; exact f2) (fun s hs => hsw s (f3 s hs))
    rw [chS_length] at this
    refine this.mono ?_
    rintro e w' ⟨⟨mm, AI', AR', cI', cR', hex, rfl, g1, g2⟩ | ⟨hex, rfl⟩, hd⟩
    · exact ⟨.inl ⟨mm, AI', AR', cI', cR', hex, rfl, g1.at, g2.at⟩, hd⟩
    · exact ⟨.inr ⟨feG_none hex, rfl⟩, hd⟩)
  have cb := Lib.hid (fun (n : Nat) (mm : List It) (AI' AR' : Option Addr) (cI' cR' : Nat) (hn : n < 2 ^ ss.length) (hex : exN b.its (chS ss n) = some mm) W (hW : Below W0.heap.size W0 W) (g1 : ItsAt W.heap.size W AI' mm) =>
      show Calls Tryd.prog 74 #[.agg #[.int .i64 b.p, .slice AI' b.its.length cI', .slice AR' b.rus.length cR'], .int .i64 m] W fun e w' => e = .returned (.slice (some ⟨W.heap.size + 1, 0, none⟩) b.p.toNat b.p.toNat) ∧ BB (W.heap.size + 1) b.p.toNat (bsS ⟨b.p, mm, b.rus⟩ m) w' ∧ Below W.heap.size W w' by
    obtain ⟨f1, f2, f3⟩ := chS_facts h8 hn
    obtain ⟨hv', hml⟩ := exN_vbk hv (fun s hs => (hsw s (f3 s hs)).2.2.1) hex
    have := base_ref AI' AR' cI' cR' W.heap.size ⟨b.p, mm, b.rus⟩ m W (Nat.le_refl _) g1 (vbk_short hv') hv' (by show m < mm.length; omega)
    dsimp only at this
    rwa [hml] at this)
  have cd := Lib.hid (fun (n : Nat) (mm : List It) (g0 : Nat) (hn : n < 2 ^ ss.length) (hex : exN b.its (chS ss n) = some mm) W (hW : Below W0.heap.size W0 W) (hbr : BR g0 b.p.toNat (bsS ⟨b.p, mm, b.rus⟩ m) W) =>
      show Calls Tryd.prog 73 #[.slice AR b.rus.length cR, .slice (some ⟨g0, 0, none⟩) b.p.toNat b.p.toNat] W fun e w' => ∃ g' k' x, e = .returned (.slice (some ⟨g', 0, none⟩) b.p.toNat k') ∧ ((∀ q ∈ al, x.testBit q = false) ↔ feG b m al ss n) ∧ BB g' b.p.toNat x w' ∧ Below W.heap.size W w' by
    obtain ⟨f1, f2, f3⟩ := chS_facts h8 hn
    obtain ⟨hv', hml⟩ := exN_vbk hv (fun s hs => (hsw s (f3 s hs)).2.2.1) hex
    refine (closed_ref AR cR W0.heap.size g0 b.p.toNat b.p.toNat (bsS ⟨b.p, mm, b.rus⟩ m) b.rus W hW.size (hR.below hW (Nat.le_refl _)) hbr hs.2.1 hs.2.2.2 (fun x hx => by have := hv.rules x hx; rwa [Int.toNat_of_nonneg hv.p0]) (by omega) (bsS_lt hv' (by show m < mm.length; omega))).mono ?_
    rintro e w' ⟨g', k', x, rfl, hcl, hxl, hbb, _, hd⟩
    exact ⟨g', k', x, rfl, (feG_iff (av := al) hex ⟨hcl, hxl⟩).symm, hbb, hd⟩)
  have HAl := Lib.hid (show ∀ q ∈ al, q < b.p.toNat from fun q hq => by have := hav (q : Int) (List.mem_map.2 ⟨q, hq, rfl⟩); omega)
  have HAi := Lib.hid (fun W (hW : Below W0.heap.size W0 W) => hA.below hW (Nat.le_refl _))
  have HF0 := Lib.hid (show feN b m al ss 0 = none from rfl)
  have HFt := Lib.hid (fun n => feN_take (b := b) (item := m) (av := al) (ss := ss) (n := n))
  have HFl := Lib.hid (fun n l => feN_late (b := b) (item := m) (av := al) (ss := ss) (n := n) (l := l))
  have HFb := Lib.hid (fun n => feN_bad (b := b) (item := m) (av := al) (ss := ss) (n := n))
  have HFs := Lib.hid (fun n l (h : feN b m al ss n = some l) (hn : n ≤ 2 ^ ss.length) => show l.length ≤ 8 by obtain ⟨k, hk, rfl, _⟩ := feN_some h; exact (chS_facts h8 (by omega)).2.1)
  have HP := Lib.hid hP
  have hNN : 2 ^ ss.length ≤ 256 := Nat.le_trans (Nat.pow_le_pow_right (by decide) h8) (by decide)
  have hpw : wrap64 ((2 : Int) ^ ss.length) = ((2 ^ ss.length : Nat) : Int) := by rw [pow_wrap (show ss.length < 63 by omega)]; simp
  clear hi0 hi1 hv hv0 hS h0 h2 h h' hi hp hs hI hR hA hP hb0 hw0 hT hT0 hB hav hal10 hsw hmi
  generalize hNe : 2 ^ ss.length = NN at *
  clear hNe
  generalize feN b m al ss = fn at *
  generalize feG b m al ss = fg at *
  obtain ⟨j0, hj, hy0, hy1, hy2⟩ := info_parts info79
  go_enter Tryd.func56, Tryd.ntmps56
  go_wp2_with (first
    | (have tk := tok; clear tok; go_at_call 69; rw [← hW0]; clear hW0; refine cn.out.mono ?_; rintro e w1 ⟨rfl, hd1⟩; have tok2 := tk; obtain ⟨z0, z1, z2, _⟩ := HX.out _ hd1)
    | (have tk := tok2; clear tok2; go_at_call 61; refine (cS.out _ hd1).mono ?_; rintro e w2 ⟨rfl, hq2⟩; have hd2 := hq2.below W0.heap.size; have hb2 := hd1.trans hd2; clear z0 z1 z2; obtain ⟨z0, z1, z2, _⟩ := HX.out _ hb2; have tok3 := tk)
    | (have tk := tok3; clear tok3; go_at_call 96; refine (cw.out _ hb2).mono ?_; rintro e w3 ⟨rfl, hd3⟩; have hb3 := hb2.trans (hd3.mono hb2.size)))
  have HB3 := Lib.hid hb3
  clear hb3 hb2 hd1 hd2 hd3 z0 z1 z2
  go_loopw [13, 14, 15] (fun bv fv nv wr => ∃ (n : Nat) (o : Option (List Nat)) (A1 : Option Addr) (c1 : Nat), n ≤ NN ∧ nv = .int .i64 n ∧ bv = .slice A1 (o.getD []).length c1 ∧ fv = .bool o.isSome ∧ Aside (fn n = o) ∧ Aside (IntsAt wr.heap.size wr A1 (intL (o.getD []))) ∧ Aside (Below W0.heap.size W0 wr)) (fun _ _ nv _ => NN - (intOf nv).toNat)
  case atStart => exact ⟨0, none, none, 0, Nat.zero_le _, rfl, rfl, rfl, HF0.out, IntsAt.nil _ _ _, HB3.out⟩
  case round =>
    clear HB3
    obtain ⟨n, o, A1, c1, hn, rfl, rfl, rfl, hf, hin, hbr⟩ := hrel
    have HF := Lib.hid hf.out
    have HIn := Lib.hid hin.out
    have HBr := Lib.hid hbr.out
    clear hf hin hbr
    by_cases hltn : n < NN
    · have hnI : (n : Int) < (NN : Int) := by omega
      obtain ⟨hii, hl8, _⟩ := HC.out n hltn
      have HII := Lib.hid hii
      have cl0 := Lib.hid (cl.out n hltn wr)
      clear hii
      cases o with
      | none =>
        simp only [Option.getD_none, List.length_nil, Option.isSome_none] at HIn ⊢
        have HTk := Lib.hid (fun h => HFt.out n (fun l hl => by rw [HF.out] at hl; cases hl) h)
        go_wp2_with ((go_at_call 93; refine cl0.out.mono ?_; rintro e w4 ⟨A4, c4, rfl, hI4, hd4⟩; have HI4 := Lib.hid hI4; have hd4 := Lib.hid hd4; clear hI4))
        go_loopw [17, 18] (fun lv iv wi => ∃ k : Nat, k ≤ (bl n).length ∧ iv = .int .i64 k ∧ Aside (wi.ownsRow w4.heap.size 79 2 lv k (flat2 (chTo ss n k))) ∧ Aside (Below w4.heap.size w4 wi)) (fun _ iv _ => (bl n).length - (intOf iv).toNat)
        case atStart => exact ⟨0, Nat.zero_le _, rfl, World.ownsRow_nil _ _ _ _, Below.refl _ _⟩
        case round =>
          obtain ⟨k, hk, rfl, hown, hbi⟩ := hrel
          have HO := Lib.hid hown.out
          have Hbi := Lib.hid hbi.out
          clear hown hbi
          by_cases hkl : k < (bl n).length
          · have hkI : (k : Int) < ((bl n).length : Int) := by omega
            obtain ⟨b1, o1, rfl, _, y0⟩ := IntsAt.at (IntsAt.below HI4.out Hbi.out Hbi.out.size) (k := k) (by rw [il]; exact hkl)
            rw [show (intL (bl n))[k]'(by rw [il]; exact hkl) = (((bl n)[k] : Nat) : Int) by simp [intL]] at y0
            have hi' : (bl n)[k] < ss.length := HII.out _ (List.getElem_mem hkl)
            have HS := Lib.hid (HCs.out n k hkl hi')
            obtain ⟨b2, o2, rfl, _, p0, p1⟩ := PairsAt.at (HP.out.below (HBr.out.trans ((hd4.out.trans (Hbi.out.mono hd4.out.size)).mono HBr.out.size)) (HBr.out.trans ((hd4.out.trans (Hbi.out.mono hd4.out.size)).mono HBr.out.size)).size) hi'
            generalize ss[(bl n)[k]] = s at *
            generalize (bl n)[k] = i at *
            obtain ⟨x, y⟩ := s
            simp only at p0 p1
            have hiI : (i : Int) < (ss.length : Int) := by omega
            go_wp2_with (at_builtin; refine wpList_append_own _ rfl _ _ 67 rfl w4.heap.size 79 j0 _ 2 16 Tryd.underlying67 hj hy0 hy1 hy2 rfl (by decide) _ _ _ rfl (HO.out.alloc _) ⟨_, 0, none⟩ 1 1 _ rfl rfl (cells_new _ [.int .i64 x, .int .i64 y] 79) (by simp [Value.oneCell']) (by simp only [maxLen]; omega) (by omega) (Hbi.out.alloc Hbi.out.size _).size ?_; intro v' w7 hown7 hg7 _)
            obtain ⟨A7, c7, rfl⟩ := own_sl hown7
            have b7 : Below w4.heap.size w4 w7 := (Hbi.out.alloc Hbi.out.size _).grown hg7 (Hbi.out.alloc Hbi.out.size _).size (fun x hx => (HO.out.lt x hx).1)
            go_roundw
            case rel => exact ⟨k + 1, by omega, by go_num, by rw [HS.out, flat2_append]; exact hown7, b7⟩
            case measure => simp [intOf]; omega
          · obtain rfl : k = (bl n).length := by omega
            have hkI : ((bl n).length : Int) ≤ ((bl n).length : Int) := Int.le_refl _
            have hown := HO.out
            rw [HCt.out n] at hown
            obtain ⟨A5, c5, rfl⟩ := own_sl hown
            have h5 := Lib.hid (show PairsAt wr.heap.size wr A5 (chS ss n) from PairsAt.of_own (by rw [chS_length]; exact hown))
            have HBw := Lib.hid (HBr.out.trans ((hd4.out.trans (Hbi.out.mono hd4.out.size)).mono HBr.out.size))
            have HBn := Lib.hid (hd4.out.trans (Hbi.out.mono hd4.out.size))
            have HI4w := Lib.hid (IntsAt.below HI4.out Hbi.out Hbi.out.size)
            obtain ⟨z0, z1, z2, _⟩ := HX.out _ HBw.out
            clear hown HO
            go_wp2_with fail
            go_at_call 97
            refine (ce.out A5 c5 n hltn wr HBw.out h5.out).mono ?_
            rintro e w6 ⟨⟨mm, AI', AR', cI', cR', hex, rfl, hI6, hR6⟩ | ⟨hng, rfl⟩, hd6⟩
            · have hba : Below w6.heap.size w6 (w6.alloc (.cells #[.int .i64 b.p, .slice AI' b.its.length cI', .slice AR' b.rus.length cR'] 25)) := balloc (Below.refl _ _) _
              have HI7 := Lib.hid (hI6.below hba hba.size)
              have HR7 := Lib.hid (hR6.below hba hba.size)
              have hbw7 := HBw.out.trans ((hd6.trans (hba.mono hd6.size)).mono HBw.out.size)
              have HB7 := Lib.hid hbw7
              have HD7 := Lib.hid (HBn.out.trans ((hd6.trans (hba.mono hd6.size)).mono HBn.out.size))
              have HD6 := Lib.hid (hd6.trans (hba.mono hd6.size))
              have HEx := Lib.hid hex
              have HK7 := Lib.hid (Blk.new w6 25 #[.int .i64 b.p, .slice AI' b.its.length cI', .slice AR' b.rus.length cR'])
              clear hI6 hR6 hex hd6 hbw7 hba z0 z1 z2
              go_wp2_with fail
              generalize w6.alloc (.cells #[.int .i64 b.p, .slice AI' b.its.length cI', .slice AR' b.rus.length cR'] 25) = w7 at *
              obtain ⟨z0, z1, z2, _⟩ := blk3 HK7.out
              go_wp2_with fail
              refine wp_region_E (S := fun W => W.cell? ⟨w.heap.size, 0, none⟩ = some (.int .i64 b.p) ∧ W.cell? ⟨w.heap.size, 1, none⟩ = some (.slice AI b.its.length cI) ∧ W.cell? ⟨w.heap.size, 2, none⟩ = some (.slice AR b.rus.length cR) ∧ W.cell? ⟨w6.heap.size, 0, none⟩ = some (.int .i64 b.p) ∧ W.cell? ⟨w6.heap.size, 1, none⟩ = some (.slice AI' b.its.length cI') ∧ W.cell? ⟨w6.heap.size, 2, none⟩ = some (.slice AR' b.rus.length cR')) (E := fun _ => false) (by kernel_rfl) ?_
              have HBi := Lib.hid (show Below w7.heap.size w7 w7.drew from (Below.refl _ _).drew)
              generalize w7.drew = wi0 at HBi ⊢
              have HB0i := Lib.hid (HB7.out.trans (HBi.out.mono HB7.out.size))
              have Keep := Lib.hid (show ∀ W, Below w7.heap.size w7 W → W.cell? ⟨w.heap.size, 0, none⟩ = some (.int .i64 b.p) ∧ W.cell? ⟨w.heap.size, 1, none⟩ = some (.slice AI b.its.length cI) ∧ W.cell? ⟨w.heap.size, 2, none⟩ = some (.slice AR b.rus.length cR) ∧ W.cell? ⟨w6.heap.size, 0, none⟩ = some (.int .i64 b.p) ∧ W.cell? ⟨w6.heap.size, 1, none⟩ = some (.slice AI' b.its.length cI') ∧ W.cell? ⟨w6.heap.size, 2, none⟩ = some (.slice AR' b.rus.length cR') from fun W hW => by
                obtain ⟨q0, q1, q2, _⟩ := HX.out W (HB7.out.trans (hW.mono HB7.out.size))
                obtain ⟨r0, r1, r2, _⟩ := blk3 (HK7.out.below hW HK7.out.lt)
                exact ⟨q0, q1, q2, r0, r1, r2⟩)
              have hS := Keep.out _ HBi.out
              refine anyE_tk 0 82 (oi := ?oi1) (v := ?v1) ?hi1 ?hd1 (by kernel_rfl) (by kernel_rfl) (by kernel_rfl) ?hQ1 ?hy1 hS ?rest1
              case hi1 => simp only [List.getElem?_toArray, List.getElem?_cons_zero, List.getElem?_cons_succ]; rfl
              case hd1 => rfl
              case hQ1 => exact fun _ _ _ h => h
              case hy1 => (refine Or.inl ⟨by rfl, ?_⟩; intro w hSw; (try dsimp only at hSw); go_simp; try with_reducible rfl)
              simp only [List.setIfInBounds_toArray, List.set_cons_zero, List.set_cons_succ]
              refine anyE_tk 1 83 (oi := ?oi2) (v := ?v2) ?hi2 ?hd2 (by kernel_rfl) (by kernel_rfl) (by kernel_rfl) ?hQ2 ?hy2 hS ?rest2
              case hi2 => simp only [List.getElem?_toArray, List.getElem?_cons_zero, List.getElem?_cons_succ]; rfl
              case hd2 => rfl
              case hQ2 => exact fun _ _ _ h => h
              case hy2 => (refine Or.inl ⟨by rfl, ?_⟩; intro w hSw; (try dsimp only at hSw); go_simp; try with_reducible rfl)
              simp only [List.setIfInBounds_toArray, List.set_cons_zero, List.set_cons_succ]
              refine anyE_tk 2 84 (oi := ?oi3) (v := ?v3) ?hi3 ?hd3 (by kernel_rfl) (by kernel_rfl) (by kernel_rfl) ?hQ3 ?hy3 hS ?rest3
              case hi3 => simp only [List.getElem?_toArray, List.getElem?_cons_zero, List.getElem?_cons_succ]; rfl
              case hd3 => rfl
              case hQ3 => exact fun _ _ _ h => h
              case hy3 => (refine Or.inl ⟨by rfl, ?_⟩; intro w hSw; (try dsimp only at hSw); go_simp; try with_reducible rfl)
              simp only [List.setIfInBounds_toArray, List.set_cons_zero, List.set_cons_succ]
              refine anyE_tk 3 85 (oi := ?oi4) (v := ?v4) ?hi4 ?hd4 (by kernel_rfl) (by kernel_rfl) (by kernel_rfl) ?hQ4 ?hy4 hS ?rest4
              case hi4 => simp only [List.getElem?_toArray, List.getElem?_cons_zero, List.getElem?_cons_succ]; rfl
              case hd4 => rfl
              case hQ4 => exact fun _ _ _ h => h
              case hy4 => (refine Or.inl ⟨by rfl, ?_⟩; intro w hSw; (try dsimp only at hSw); go_simp; try with_reducible rfl)
              simp only [List.setIfInBounds_toArray, List.set_cons_zero, List.set_cons_succ]
              refine anyE_one (i := 4) (o := ?oi5) (by kernel_rfl) ?hi5 (fun K hK => ?step5)
              case hi5 => simp only [List.getElem?_toArray, List.getElem?_cons_zero, List.getElem?_cons_succ]; rfl
              go_simp
              refine (cb.out n mm AI' AR' cI' cR' hltn HEx.out _ HB0i.out (HI7.out.below HBi.out HBi.out.size)).mono ?_
              rintro e w8 ⟨rfl, hbb8, hd8⟩
              have hb78 : Below w7.heap.size w7 w8 := HBi.out.trans (hd8.mono HBi.out.size)
              have hb8 := HB7.out.trans (hb78.mono HB7.out.size)
              go_wp2_with fail
              have hS5 := Keep.out _ hb78
              refine hK.out _ _ (fun _ => hS5) ?_
              clear hK K hS
              try simp only [Act.put, List.setIfInBounds_toArray, List.set_cons_zero, List.set_cons_succ]
              refine anyE_one (i := 5) (o := ?oi6) (by kernel_rfl) ?hi6 (fun K hK => ?step6)
              case hi6 => simp only [List.getElem?_toArray, List.getElem?_cons_zero, List.getElem?_cons_succ]; rfl
              go_simp
              refine (cd.out n mm _ hltn HEx.out w8 hb8 hbb8.br).mono ?_
              rintro e w9 ⟨g9, k9, x, rfl, hG9, hbb9, hd9⟩
              have hb79 := hb78.trans (hd9.mono hb78.size)
              have hb9 := HB7.out.trans (hb79.mono HB7.out.size)
              go_wp2_with fail
              refine hK.out _ _ (fun _ => Keep.out _ hb79) ?_
              clear hK K hS5
              try simp only [Act.put, List.setIfInBounds_toArray, List.set_cons_zero, List.set_cons_succ]
              have hS := Keep.out _ hb79
              refine anyE_tk 6 21 (oi := ?oi7) (v := ?v7) ?hi7 ?hd7 (by kernel_rfl) (by kernel_rfl) (by kernel_rfl) ?hQ7 ?hy7 hS ?rest7
              case hi7 => simp only [List.getElem?_toArray, List.getElem?_cons_zero, List.getElem?_cons_succ]; rfl
              case hd7 => rfl
              case hQ7 => exact fun _ _ _ h => h
              case hy7 => (refine Or.inl ⟨by rfl, ?_⟩; intro w hSw; (try dsimp only at hSw); go_simp; try with_reducible rfl)
              simp only [List.setIfInBounds_toArray, List.set_cons_zero, List.set_cons_succ]
              refine anyE_done (by kernel_rfl) ?_ _
              have HB9 := Lib.hid hb9
              have HD9 := Lib.hid (HD6.out.trans (hb79.mono HD6.out.size))
              have HE9 := Lib.hid (HD7.out.trans (hb79.mono HD7.out.size))
              have HBB9 := Lib.hid hbb9
              have HG9 := Lib.hid (frF_all.trans hG9)
              have HK0 := Lib.hid (show frF al x 0 = true from rfl)
              have HKs := Lib.hid (fun k (hk : k < al.length) => frF_succ (x := x) hk)
              clear hb9 hb79 hb78 hb8 hbb9 hbb8 hG9 hd8 hd9 hS z0 z1 z2
              go_wp2_with fail
              go_loopw [22, 23] (fun fv iv wx => ∃ k : Nat, k ≤ al.length ∧ iv = .int .i64 k ∧ fv = .bool (frF al x k) ∧ Aside (Below w9.heap.size w9 wx)) (fun _ iv _ => al.length - (intOf iv).toNat)
              case atStart => exact ⟨0, Nat.zero_le _, rfl, rfl, Below.refl _ _⟩
              case round =>
                obtain ⟨k, hk, rfl, rfl, hbx⟩ := hrel
                have HBx := Lib.hid hbx.out
                clear hbx
                by_cases hka : k < al.length
                · have hkI : (k : Int) < (al.length : Int) := by omega
                  obtain ⟨b3, o3, rfl, _, y0⟩ := IntsAt.at (HAi.out _ (HB9.out.trans (HBx.out.mono HB9.out.size))) (k := k) (by rw [il]; exact hka)
                  rw [show (intL al)[k]'(by rw [il]; exact hka) = ((al[k] : Nat) : Int) by simp [intL]] at y0
                  have hap := HAl.out _ (List.getElem_mem hka)
                  have y1 := (HBB9.out.below HBx.out HBB9.out.lt).cell hap
                  have HS2 := Lib.hid (HKs.out k hka)
                  generalize al[k] = q at *
                  have hqI : (q : Int) < (b.p.toNat : Int) := by omega
                  generalize x.testBit q = t at *
                  cases hfr : frF al x k with
                  | false =>
                    rw [hfr] at HS2
                    have HS3 := Lib.hid (show frF al x (k + 1) = false by rw [HS2.out]; rfl)
                    clear hfr
                    go_wp2_with fail
                    go_roundw
                    case rel => exact ⟨k + 1, by omega, by go_num, by rw [HS3.out], HBx.out⟩
                    case measure => simp [intOf]; omega
                  | true =>
                    rw [hfr] at HS2
                    have HS3 := Lib.hid (show frF al x (k + 1) = !t by rw [HS2.out]; rfl)
                    clear hfr
                    go_wp2_with fail
                    go_roundw
                    case rel => exact ⟨k + 1, by omega, by go_num, by rw [HS3.out], HBx.out⟩
                    case measure => simp [intOf]; omega
                · obtain rfl : k = al.length := by omega
                  have hkI : (al.length : Int) ≤ (al.length : Int) := Int.le_refl _
                  cases hfr : frF al x al.length with
                  | true =>
                    have HTG := Lib.hid (HTk.out (HG9.out.1 hfr))
                    clear hfr
                    go_wp2_with fail
                    go_roundw
                    case rel => exact ⟨n + 1, some (bl n), A4, c4, by omega, by go_num, rfl, rfl, HTG.out, IntsAt.below HI4w.out (HD9.out.trans (HBx.out.mono HD9.out.size)) (HD9.out.trans (HBx.out.mono HD9.out.size)).size, HB9.out.trans (HBx.out.mono HB9.out.size)⟩
                    case measure => simp [intOf]; omega
                  | false =>
                    have HTG := Lib.hid ((HFb.out n (fun h => by have := HG9.out.2 h; rw [hfr] at this; cases this)).trans HF.out)
                    clear hfr
                    go_wp2_with fail
                    go_roundw
                    case rel => exact ⟨n + 1, none, A1, c1, by omega, by go_num, rfl, rfl, HTG.out, IntsAt.below HIn.out (HE9.out.trans (HBx.out.mono HE9.out.size)) (HE9.out.trans (HBx.out.mono HE9.out.size)).size, HB9.out.trans (HBx.out.mono HB9.out.size)⟩
                    case measure => simp [intOf]; omega
            · go_wp2_with fail
              go_roundw
              case rel => exact ⟨n + 1, none, A1, c1, by omega, by go_num, rfl, rfl, (HFb.out n hng).trans HF.out, IntsAt.below HIn.out (HBn.out.trans ((balc hd6).mono HBn.out.size)) (HBn.out.trans ((balc hd6).mono HBn.out.size)).size, HBw.out.trans ((balc hd6).mono HBw.out.size)⟩
              case measure => simp [intOf]; omega
      | some l =>
        simp only [Option.getD_some, Option.isSome_some] at HIn ⊢
        have hll8 := HFs.out n l HF.out hn
        have cc0 := Lib.hid (fun A4 c4 => cc.out A4 A1 c4 c1 (bl n) l hl8 hll8)
        cases hz : frB (intL (bl n)) (intL l) with
        | false =>
          have HQ := Lib.hid hz
          rw [hz] at cc0
          clear hz
          go_wp2_with (first
            | (go_at_call 93; refine cl0.out.mono ?_; rintro e w4 ⟨A4, c4, rfl, hI4, hd4⟩; have HI4 := Lib.hid hI4; have hd4 := Lib.hid hd4; clear hI4)
            | (go_at_call 103; refine (cc0.out A4 c4 _ HI4.out (IntsAt.below HIn.out hd4.out hd4.out.size)).mono ?_; rintro e w5 ⟨rfl, hq5⟩; have HI5 := Lib.hid (IntsAt.below HI4.out (hq5.below _) (hq5.below w4.heap.size).size); have hd5 := Lib.hid (hd4.out.trans (hq5.below wr.heap.size)); clear hq5))
          go_roundw
          case rel => exact ⟨n + 1, some l, A1, c1, by omega, by go_num, rfl, rfl, HFl.out n l HF.out HQ.out, IntsAt.below HIn.out hd5.out hd5.out.size, HBr.out.trans (hd5.out.mono HBr.out.size)⟩
          case measure => simp [intOf]; omega
        | true =>
          have HTk := Lib.hid (fun h => HFt.out n (fun l' hl => by rw [HF.out] at hl; injection hl with hl; subst hl; exact hz) h)
          rw [hz] at cc0
          clear hz
          go_wp2_with (first
            | (go_at_call 93; refine cl0.out.mono ?_; rintro e w4 ⟨A4, c4, rfl, hI4, hd4⟩; have HI4 := Lib.hid hI4; have hd4 := Lib.hid hd4; clear hI4)
            | (go_at_call 103; refine (cc0.out A4 c4 _ HI4.out (IntsAt.below HIn.out hd4.out hd4.out.size)).mono ?_; rintro e w5 ⟨rfl, hq5⟩; have HI5 := Lib.hid (IntsAt.below HI4.out (hq5.below _) (hq5.below w4.heap.size).size); have hd5 := Lib.hid (hd4.out.trans (hq5.below wr.heap.size)); clear hq5))
          have hd4 := hd5
          have HI4 := HI5
          go_loopw [17, 18] (fun lv iv wi => ∃ k : Nat, k ≤ (bl n).length ∧ iv = .int .i64 k ∧ Aside (wi.ownsRow w5.heap.size 79 2 lv k (flat2 (chTo ss n k))) ∧ Aside (Below w5.heap.size w5 wi)) (fun _ iv _ => (bl n).length - (intOf iv).toNat)
          case atStart => exact ⟨0, Nat.zero_le _, rfl, World.ownsRow_nil _ _ _ _, Below.refl _ _⟩
          case round =>
            obtain ⟨k, hk, rfl, hown, hbi⟩ := hrel
            have HO := Lib.hid hown.out
            have Hbi := Lib.hid hbi.out
            clear hown hbi
            by_cases hkl : k < (bl n).length
            · have hkI : (k : Int) < ((bl n).length : Int) := by omega
              obtain ⟨b1, o1, rfl, _, y0⟩ := IntsAt.at (IntsAt.below HI4.out Hbi.out Hbi.out.size) (k := k) (by rw [il]; exact hkl)
              rw [show (intL (bl n))[k]'(by rw [il]; exact hkl) = (((bl n)[k] : Nat) : Int) by simp [intL]] at y0
              have hi' : (bl n)[k] < ss.length := HII.out _ (List.getElem_mem hkl)
              have HS := Lib.hid (HCs.out n k hkl hi')
              obtain ⟨b2, o2, rfl, _, p0, p1⟩ := PairsAt.at (HP.out.below (HBr.out.trans ((hd4.out.trans (Hbi.out.mono hd4.out.size)).mono HBr.out.size)) (HBr.out.trans ((hd4.out.trans (Hbi.out.mono hd4.out.size)).mono HBr.out.size)).size) hi'
              generalize ss[(bl n)[k]] = s at *
              generalize (bl n)[k] = i at *
              obtain ⟨x, y⟩ := s
              simp only at p0 p1
              have hiI : (i : Int) < (ss.length : Int) := by omega
              go_wp2_with (at_builtin; refine wpList_append_own _ rfl _ _ 67 rfl w5.heap.size 79 j0 _ 2 16 Tryd.underlying67 hj hy0 hy1 hy2 rfl (by decide) _ _ _ rfl (HO.out.alloc _) ⟨_, 0, none⟩ 1 1 _ rfl rfl (cells_new _ [.int .i64 x, .int .i64 y] 79) (by simp [Value.oneCell']) (by simp only [maxLen]; omega) (by omega) (Hbi.out.alloc Hbi.out.size _).size ?_; intro v' w7 hown7 hg7 _)
              obtain ⟨A7, c7, rfl⟩ := own_sl hown7
              have b7 : Below w5.heap.size w5 w7 := (Hbi.out.alloc Hbi.out.size _).grown hg7 (Hbi.out.alloc Hbi.out.size _).size (fun x hx => (HO.out.lt x hx).1)
              go_roundw
              case rel => exact ⟨k + 1, by omega, by go_num, by rw [HS.out, flat2_append]; exact hown7, b7⟩
              case measure => simp [intOf]; omega
            · obtain rfl : k = (bl n).length := by omega
              have hkI : ((bl n).length : Int) ≤ ((bl n).length : Int) := Int.le_refl _
              have hown := HO.out
              rw [HCt.out n] at hown
              obtain ⟨A5, c5, rfl⟩ := own_sl hown
              have h5 := Lib.hid (show PairsAt wr.heap.size wr A5 (chS ss n) from PairsAt.of_own (by rw [chS_length]; exact hown))
              have HBw := Lib.hid (HBr.out.trans ((hd4.out.trans (Hbi.out.mono hd4.out.size)).mono HBr.out.size))
              have HBn := Lib.hid (hd4.out.trans (Hbi.out.mono hd4.out.size))
              have HI4w := Lib.hid (IntsAt.below HI4.out Hbi.out Hbi.out.size)
              obtain ⟨z0, z1, z2, _⟩ := HX.out _ HBw.out
              clear hown HO
              go_wp2_with fail
              go_at_call 97
              refine (ce.out A5 c5 n hltn wr HBw.out h5.out).mono ?_
              rintro e w6 ⟨⟨mm, AI', AR', cI', cR', hex, rfl, hI6, hR6⟩ | ⟨hng, rfl⟩, hd6⟩
              · have hba : Below w6.heap.size w6 (w6.alloc (.cells #[.int .i64 b.p, .slice AI' b.its.length cI', .slice AR' b.rus.length cR'] 25)) := balloc (Below.refl _ _) _
                have HI7 := Lib.hid (hI6.below hba hba.size)
                have HR7 := Lib.hid (hR6.below hba hba.size)
                have hbw7 := HBw.out.trans ((hd6.trans (hba.mono hd6.size)).mono HBw.out.size)
                have HB7 := Lib.hid hbw7
                have HD7 := Lib.hid (HBn.out.trans ((hd6.trans (hba.mono hd6.size)).mono HBn.out.size))
                have HD6 := Lib.hid (hd6.trans (hba.mono hd6.size))
                have HEx := Lib.hid hex
                have HK7 := Lib.hid (Blk.new w6 25 #[.int .i64 b.p, .slice AI' b.its.length cI', .slice AR' b.rus.length cR'])
                clear hI6 hR6 hex hd6 hbw7 hba z0 z1 z2
                go_wp2_with fail
                generalize w6.alloc (.cells #[.int .i64 b.p, .slice AI' b.its.length cI', .slice AR' b.rus.length cR'] 25) = w7 at *
                obtain ⟨z0, z1, z2, _⟩ := blk3 HK7.out
                go_wp2_with fail
                refine wp_region_E (S := fun W => W.cell? ⟨w.heap.size, 0, none⟩ = some (.int .i64 b.p) ∧ W.cell? ⟨w.heap.size, 1, none⟩ = some (.slice AI b.its.length cI) ∧ W.cell? ⟨w.heap.size, 2, none⟩ = some (.slice AR b.rus.length cR) ∧ W.cell? ⟨w6.heap.size, 0, none⟩ = some (.int .i64 b.p) ∧ W.cell? ⟨w6.heap.size, 1, none⟩ = some (.slice AI' b.its.length cI') ∧ W.cell? ⟨w6.heap.size, 2, none⟩ = some (.slice AR' b.rus.length cR')) (E := fun _ => false) (by kernel_rfl) ?_
                have HBi := Lib.hid (show Below w7.heap.size w7 w7.drew from (Below.refl _ _).drew)
                generalize w7.drew = wi0 at HBi ⊢
                have HB0i := Lib.hid (HB7.out.trans (HBi.out.mono HB7.out.size))
                have Keep := Lib.hid (show ∀ W, Below w7.heap.size w7 W → W.cell? ⟨w.heap.size, 0, none⟩ = some (.int .i64 b.p) ∧ W.cell? ⟨w.heap.size, 1, none⟩ = some (.slice AI b.its.length cI) ∧ W.cell? ⟨w.heap.size, 2, none⟩ = some (.slice AR b.rus.length cR) ∧ W.cell? ⟨w6.heap.size, 0, none⟩ = some (.int .i64 b.p) ∧ W.cell? ⟨w6.heap.size, 1, none⟩ = some (.slice AI' b.its.length cI') ∧ W.cell? ⟨w6.heap.size, 2, none⟩ = some (.slice AR' b.rus.length cR') from fun W hW => by
                  obtain ⟨q0, q1, q2, _⟩ := HX.out W (HB7.out.trans (hW.mono HB7.out.size))
                  obtain ⟨r0, r1, r2, _⟩ := blk3 (HK7.out.below hW HK7.out.lt)
                  exact ⟨q0, q1, q2, r0, r1, r2⟩)
                have hS := Keep.out _ HBi.out
                refine anyE_tk 0 82 (oi := ?oi8) (v := ?v8) ?hi8 ?hd8 (by kernel_rfl) (by kernel_rfl) (by kernel_rfl) ?hQ8 ?hy8 hS ?rest8
                case hi8 => simp only [List.getElem?_toArray, List.getElem?_cons_zero, List.getElem?_cons_succ]; rfl
                case hd8 => rfl
                case hQ8 => exact fun _ _ _ h => h
                case hy8 => (refine Or.inl ⟨by rfl, ?_⟩; intro w hSw; (try dsimp only at hSw); go_simp; try with_reducible rfl)
                simp only [List.setIfInBounds_toArray, List.set_cons_zero, List.set_cons_succ]
                refine anyE_tk 1 83 (oi := ?oi9) (v := ?v9) ?hi9 ?hd9 (by kernel_rfl) (by kernel_rfl) (by kernel_rfl) ?hQ9 ?hy9 hS ?rest9
                case hi9 => simp only [List.getElem?_toArray, List.getElem?_cons_zero, List.getElem?_cons_succ]; rfl
                case hd9 => rfl
                case hQ9 => exact fun _ _ _ h => h
                case hy9 => (refine Or.inl ⟨by rfl, ?_⟩; intro w hSw; (try dsimp only at hSw); go_simp; try with_reducible rfl)
                simp only [List.setIfInBounds_toArray, List.set_cons_zero, List.set_cons_succ]
                refine anyE_tk 2 84 (oi := ?oi10) (v := ?v10) ?hi10 ?hd10 (by kernel_rfl) (by kernel_rfl) (by kernel_rfl) ?hQ10 ?hy10 hS ?rest10
                case hi10 => simp only [List.getElem?_toArray, List.getElem?_cons_zero, List.getElem?_cons_succ]; rfl
                case hd10 => rfl
                case hQ10 => exact fun _ _ _ h => h
                case hy10 => (refine Or.inl ⟨by rfl, ?_⟩; intro w hSw; (try dsimp only at hSw); go_simp; try with_reducible rfl)
                simp only [List.setIfInBounds_toArray, List.set_cons_zero, List.set_cons_succ]
                refine anyE_tk 3 85 (oi := ?oi11) (v := ?v11) ?hi11 ?hd11 (by kernel_rfl) (by kernel_rfl) (by kernel_rfl) ?hQ11 ?hy11 hS ?rest11
                case hi11 => simp only [List.getElem?_toArray, List.getElem?_cons_zero, List.getElem?_cons_succ]; rfl
                case hd11 => rfl
                case hQ11 => exact fun _ _ _ h => h
                case hy11 => (refine Or.inl ⟨by rfl, ?_⟩; intro w hSw; (try dsimp only at hSw); go_simp; try with_reducible rfl)
                simp only [List.setIfInBounds_toArray, List.set_cons_zero, List.set_cons_succ]
                refine anyE_one (i := 4) (o := ?oi12) (by kernel_rfl) ?hi12 (fun K hK => ?step12)
                case hi12 => simp only [List.getElem?_toArray, List.getElem?_cons_zero, List.getElem?_cons_succ]; rfl
                go_simp
                refine (cb.out n mm AI' AR' cI' cR' hltn HEx.out _ HB0i.out (HI7.out.below HBi.out HBi.out.size)).mono ?_
                rintro e w8 ⟨rfl, hbb8, hd8⟩
                have hb78 : Below w7.heap.size w7 w8 := HBi.out.trans (hd8.mono HBi.out.size)
                have hb8 := HB7.out.trans (hb78.mono HB7.out.size)
                go_wp2_with fail
                have hS5 := Keep.out _ hb78
                refine hK.out _ _ (fun _ => hS5) ?_
                clear hK K hS
                try simp only [Act.put, List.setIfInBounds_toArray, List.set_cons_zero, List.set_cons_succ]
                refine anyE_one (i := 5) (o := ?oi13) (by kernel_rfl) ?hi13 (fun K hK => ?step13)
                case hi13 => simp only [List.getElem?_toArray, List.getElem?_cons_zero, List.getElem?_cons_succ]; rfl
                go_simp
                refine (cd.out n mm _ hltn HEx.out w8 hb8 hbb8.br).mono ?_
                rintro e w9 ⟨g9, k9, x, rfl, hG9, hbb9, hd9⟩
                have hb79 := hb78.trans (hd9.mono hb78.size)
                have hb9 := HB7.out.trans (hb79.mono HB7.out.size)
                go_wp2_with fail
                refine hK.out _ _ (fun _ => Keep.out _ hb79) ?_
                clear hK K hS5
                try simp only [Act.put, List.setIfInBounds_toArray, List.set_cons_zero, List.set_cons_succ]
                have hS := Keep.out _ hb79
                refine anyE_tk 6 21 (oi := ?oi14) (v := ?v14) ?hi14 ?hd14 (by kernel_rfl) (by kernel_rfl) (by kernel_rfl) ?hQ14 ?hy14 hS ?rest14
                case hi14 => simp only [List.getElem?_toArray, List.getElem?_cons_zero, List.getElem?_cons_succ]; rfl
                case hd14 => rfl
                case hQ14 => exact fun _ _ _ h => h
                case hy14 => (refine Or.inl ⟨by rfl, ?_⟩; intro w hSw; (try dsimp only at hSw); go_simp; try with_reducible rfl)
                simp only [List.setIfInBounds_toArray, List.set_cons_zero, List.set_cons_succ]
                refine anyE_done (by kernel_rfl) ?_ _
                have HB9 := Lib.hid hb9
                have HD9 := Lib.hid (HD6.out.trans (hb79.mono HD6.out.size))
                have HE9 := Lib.hid (HD7.out.trans (hb79.mono HD7.out.size))
                have HBB9 := Lib.hid hbb9
                have HG9 := Lib.hid (frF_all.trans hG9)
                have HK0 := Lib.hid (show frF al x 0 = true from rfl)
                have HKs := Lib.hid (fun k (hk : k < al.length) => frF_succ (x := x) hk)
                clear hb9 hb79 hb78 hb8 hbb9 hbb8 hG9 hd8 hd9 hS z0 z1 z2
                go_wp2_with fail
                go_loopw [22, 23] (fun fv iv wx => ∃ k : Nat, k ≤ al.length ∧ iv = .int .i64 k ∧ fv = .bool (frF al x k) ∧ Aside (Below w9.heap.size w9 wx)) (fun _ iv _ => al.length - (intOf iv).toNat)
                case atStart => exact ⟨0, Nat.zero_le _, rfl, rfl, Below.refl _ _⟩
                case round =>
                  obtain ⟨k, hk, rfl, rfl, hbx⟩ := hrel
                  have HBx := Lib.hid hbx.out
                  clear hbx
                  by_cases hka : k < al.length
                  · have hkI : (k : Int) < (al.length : Int) := by omega
                    obtain ⟨b3, o3, rfl, _, y0⟩ := IntsAt.at (HAi.out _ (HB9.out.trans (HBx.out.mono HB9.out.size))) (k := k) (by rw [il]; exact hka)
                    rw [show (intL al)[k]'(by rw [il]; exact hka) = ((al[k] : Nat) : Int) by simp [intL]] at y0
                    have hap := HAl.out _ (List.getElem_mem hka)
                    have y1 := (HBB9.out.below HBx.out HBB9.out.lt).cell hap
                    have HS2 := Lib.hid (HKs.out k hka)
                    generalize al[k] = q at *
                    have hqI : (q : Int) < (b.p.toNat : Int) := by omega
                    generalize x.testBit q = t at *
                    cases hfr : frF al x k with
                    | false =>
                      rw [hfr] at HS2
                      have HS3 := Lib.hid (show frF al x (k + 1) = false by rw [HS2.out]; rfl)
                      clear hfr
                      go_wp2_with fail
                      go_roundw
                      case rel => exact ⟨k + 1, by omega, by go_num, by rw [HS3.out], HBx.out⟩
                      case measure => simp [intOf]; omega
                    | true =>
                      rw [hfr] at HS2
                      have HS3 := Lib.hid (show frF al x (k + 1) = !t by rw [HS2.out]; rfl)
                      clear hfr
                      go_wp2_with fail
                      go_roundw
                      case rel => exact ⟨k + 1, by omega, by go_num, by rw [HS3.out], HBx.out⟩
                      case measure => simp [intOf]; omega
                  · obtain rfl : k = al.length := by omega
                    have hkI : (al.length : Int) ≤ (al.length : Int) := Int.le_refl _
                    cases hfr : frF al x al.length with
                    | true =>
                      have HTG := Lib.hid (HTk.out (HG9.out.1 hfr))
                      clear hfr
                      go_wp2_with fail
                      go_roundw
                      case rel => exact ⟨n + 1, some (bl n), A4, c4, by omega, by go_num, rfl, rfl, HTG.out, IntsAt.below HI4w.out (HD9.out.trans (HBx.out.mono HD9.out.size)) (HD9.out.trans (HBx.out.mono HD9.out.size)).size, HB9.out.trans (HBx.out.mono HB9.out.size)⟩
                      case measure => simp [intOf]; omega
                    | false =>
                      have HTG := Lib.hid ((HFb.out n (fun h => by have := HG9.out.2 h; rw [hfr] at this; cases this)).trans HF.out)
                      clear hfr
                      go_wp2_with fail
                      go_roundw
                      case rel => exact ⟨n + 1, some l, A1, c1, by omega, by go_num, rfl, rfl, HTG.out, IntsAt.below HIn.out (HE9.out.trans (HBx.out.mono HE9.out.size)) (HE9.out.trans (HBx.out.mono HE9.out.size)).size, HB9.out.trans (HBx.out.mono HB9.out.size)⟩
                      case measure => simp [intOf]; omega
              · go_wp2_with fail
                go_roundw
                case rel => exact ⟨n + 1, some l, A1, c1, by omega, by go_num, rfl, rfl, (HFb.out n hng).trans HF.out, IntsAt.below HIn.out (HBn.out.trans ((balc hd6).mono HBn.out.size)) (HBn.out.trans ((balc hd6).mono HBn.out.size)).size, HBw.out.trans ((balc hd6).mono HBw.out.size)⟩
                case measure => simp [intOf]; omega
    · obtain rfl : n = NN := by omega
      have hnI : (n : Int) ≤ (n : Int) := Int.le_refl _
      go_wp2_with fail
      refine bodyPost_ret (results_tmp3 rfl _ _ _) rfl ?_
      exact ⟨A1, c1, by rw [HV.out, HE.out, HF.out]; rfl, by rw [HV.out, HF.out]; exact HIn.out, Hw.out.trans (HBr.out.mono Hw.out.size)⟩

set_option maxRecDepth 100000 in
set_option maxHeartbeats 16000000 in
theorem Fewest_ref (AI AR : Option Addr) (cI cR : Nat) (A : Option Addr) (c : Nat) (A2 : Option Addr) (c2 B : Nat) (b : Bk) (item : Int) (av : List Int) (ss : List (Int × Int)) (w : World) (hB : B ≤ w.heap.size) (h : ItsAt B w AI b.its) (h' : RusAt B w AR b.rus) (hs : Short b) (hi : IntsAt B w A av) (hal : av.length ≤ 100) (hp : PairsAt B w A2 ss) (hm : ss.length ≤ 1000) (hT : Tab w) :
    Calls Tryd.prog 56 #[.agg #[.int .i64 b.p, .slice AI b.its.length cI, .slice AR b.rus.length cR], .int .i64 item, .slice A av.length c, .slice A2 ss.length c2] w fun e w' =>
      ∃ A' c', e = .returned (.tuple #[.slice A' ((feV b item av ss).getD []).length c', .bool (feV b item av ss).isSome, .int .i64 (feE b item av ss)]) ∧ IntsAt w'.heap.size w' A' (intL ((feV b item av ss).getD [])) ∧ Below w.heap.size w w' := by
  have hb0 := Blk.new w 25 #[.int .i64 b.p, .slice AI b.its.length cI, .slice AR b.rus.length cR]
  have hw0 : Below w.heap.size w (w.alloc (.cells #[.int .i64 b.p, .slice AI b.its.length cI, .slice AR b.rus.length cR] 25)) := (Below.refl _ _).alloc (Nat.le_refl _) _
  obtain ⟨W0, hW0⟩ : ∃ W0, W0 = w.alloc (.cells #[.int .i64 b.p, .slice AI b.its.length cI, .slice AR b.rus.length cR] 25) := ⟨_, rfl⟩
  rw [← hW0] at hb0 hw0
  have hlt : w.heap.size < W0.heap.size := hb0.lt
  have hI := (h.below (Below.refl _ _) hB).below hw0 (Nat.le_of_lt hlt)
  have hR := (h'.below (Below.refl _ _) hB).below hw0 (Nat.le_of_lt hlt)
  have hA := (hi.below (Below.refl _ _) hB).below hw0 (Nat.le_of_lt hlt)
  have hP := (hp.below (Below.refl _ _) hB).below hw0 (Nat.le_of_lt hlt)
  have hT0 := hT.below hw0 hT.2
  have cn := Lib.hid (named_ref AI AR cI cR _ b item W0 (Nat.le_refl _) hI hR hs)
  have cS := Lib.hid (fun W (hW : Below W0.heap.size W0 W) => show Calls Tryd.prog 61 #[.slice A av.length c, .int .i64 (b.p - 1)] W fun e w' => e = .returned (.bool (isS av b.p)) ∧ Drew W w' by have := IsSet_ref A c W0.heap.size av (b.p - 1) W (hA.below hW (Nat.le_refl _)) (by omega); rwa [Int.sub_add_cancel] at this)
  have cw := Lib.hid (fun W (hW : Below W0.heap.size W0 W) => swapsOK_ref AI AR cI cR A2 c2 W0.heap.size b ss W hW.size (hP.below hW (Nat.le_refl _)) hs.1 hm)
  have HX := Lib.hid (fun W (hW : Below W0.heap.size W0 W) => blk3 (hb0.below hW hlt))
  have Hw := Lib.hid hw0
  have tok := Lib.hid (Nat.le_refl 0)
  by_cases h0 : nmR b item = 0
  · obtain ⟨hv0, hi0, hi1⟩ := nm_zero h0
    have hv := vl_zero hv0
    have hp0 := hv.p0
    have hp10 := hv.p1
    cases hS : isS av b.p with
    | false =>
      have HE := Lib.hid (show feE b item av ss = 1 by unfold feE; rw [if_pos h0, if_neg (by rw [hS]; decide)])
      have HV := Lib.hid (show feV b item av ss = none from if_neg (by rw [HE.out]; decide))
      rw [h0] at cn
      rw [hS] at cS
      clear hi0 hi1 hv hv0 hS h0 h h' hi hp hs hI hR hA hP hb0 hw0 hT hT0 hB
      go_enter Tryd.func56, Tryd.ntmps56
      go_wp2_with (first
        | (have tk := tok; clear tok; go_at_call 69; rw [← hW0]; clear hW0; refine cn.out.mono ?_; rintro e w1 ⟨rfl, hd1⟩; have tok2 := tk; obtain ⟨z0, z1, z2, _⟩ := HX.out _ hd1)
        | (have tk := tok2; clear tok2; go_at_call 61; refine (cS.out _ hd1).mono ?_; rintro e w2 ⟨rfl, hq2⟩; have hd2 := hq2.below W0.heap.size; have hb2 := hd1.trans hd2; clear z0 z1 z2; obtain ⟨z0, z1, z2, _⟩ := HX.out _ hb2; have tok3 := tk))
      refine bodyPost_ret (results_tmp3 rfl _ _ _) rfl ?_
      exact ⟨none, 0, by rw [HV.out, HE.out]; rfl, by rw [HV.out]; exact IntsAt.nil _ _ _, Hw.out.trans (hb2.mono Hw.out.size)⟩
    | true =>
      by_cases h2 : swE b.its.length ss = 0
      · exact Fewest_refg AI AR cI cR A c A2 c2 B b item av ss w hB h h' hs hi hal hp hm hT h0 hS h2
      · have HE := Lib.hid (show feE b item av ss = swE b.its.length ss by unfold feE; rw [if_pos h0, if_pos hS])
        have HV := Lib.hid (show feV b item av ss = none from if_neg (by rw [HE.out]; exact h2))
        have he1 : (swE b.its.length ss == 0) = false := by simpa using h2
        have he2 : (swE b.its.length ss != 0) = true := by simpa using h2
        rw [h0] at cn
        rw [hS] at cS
        generalize swE b.its.length ss = r at *
        clear hi0 hi1 hv hv0 hS h0 h2 h h' hi hp hs hI hR hA hP hb0 hw0 hT hT0 hB
        go_enter Tryd.func56, Tryd.ntmps56
        go_wp2_with (first
          | (have tk := tok; clear tok; go_at_call 69; rw [← hW0]; clear hW0; refine cn.out.mono ?_; rintro e w1 ⟨rfl, hd1⟩; have tok2 := tk; obtain ⟨z0, z1, z2, _⟩ := HX.out _ hd1)
          | (have tk := tok2; clear tok2; go_at_call 61; refine (cS.out _ hd1).mono ?_; rintro e w2 ⟨rfl, hq2⟩; have hd2 := hq2.below W0.heap.size; have hb2 := hd1.trans hd2; clear z0 z1 z2; obtain ⟨z0, z1, z2, _⟩ := HX.out _ hb2; have tok3 := tk)
          | (have tk := tok3; clear tok3; go_at_call 96; refine (cw.out _ hb2).mono ?_; rintro e w3 ⟨rfl, hd3⟩; have hb3 := hb2.trans (hd3.mono hb2.size)))
        refine bodyPost_ret (results_tmp3 rfl _ _ _) rfl ?_
        exact ⟨none, 0, by rw [HV.out, HE.out]; rfl, by rw [HV.out]; exact IntsAt.nil _ _ _, Hw.out.trans (hb3.mono Hw.out.size)⟩
  · have HE := Lib.hid (show feE b item av ss = nmR b item from if_neg h0)
    have HV := Lib.hid (show feV b item av ss = none from if_neg (by rw [HE.out]; exact h0))
    have he1 : (nmR b item == 0) = false := by simpa using h0
    have he2 : (nmR b item != 0) = true := by simpa using h0
    generalize nmR b item = r at *
    clear h0 h h' hi hp hs hI hR hA hP hb0 hw0 hT hT0 hB
    go_enter Tryd.func56, Tryd.ntmps56
    go_wp2_with (first
      | (have tk := tok; clear tok; go_at_call 69; rw [← hW0]; clear hW0; refine cn.out.mono ?_; rintro e w1 ⟨rfl, hd1⟩; have tok2 := tk; obtain ⟨z0, z1, z2, _⟩ := HX.out _ hd1))
    refine bodyPost_ret (results_tmp3 rfl _ _ _) rfl ?_
    exact ⟨none, 0, by rw [HV.out, HE.out]; rfl, by rw [HV.out]; exact IntsAt.nil _ _ _, Hw.out.trans (hd1.mono Hw.out.size)⟩
end Go.Proofs.YtgoojcjfhghmgaaDoor


set_option linter.unusedSimpArgs false
set_option linter.unusedVariables false
namespace Go.Proofs.YtgoojcjfhghmgaaDoor
open Go Go.RowKit

/-- The error of exchanges in a book. -/
noncomputable def exE (b : Bk) (ss : List (Int × Int)) : Int := if vlR b ≠ 0 then vlR b else if swE b.its.length ss ≠ 0 then swE b.its.length ss else if exN b.its ss = none then 7 else 0
theorem exE_zero {b : Bk} {ss : List (Int × Int)} (h : exE b ss = 0) : vlR b = 0 ∧ swE b.its.length ss = 0 ∧ ∃ m, exN b.its ss = some m := by
  unfold exE at h
  split at h
  · contradiction
  · split at h
    · contradiction
    · split at h
      · cases h
      · rename_i h1 h2 h3
        exact ⟨by simpa using h1, by simpa using h2, Option.ne_none_iff_exists'.1 h3⟩

set_option maxRecDepth 100000 in
set_option maxHeartbeats 4000000 in
theorem Exchange_any (AI AR : Option Addr) (cI cR : Nat) (A : Option Addr) (c B : Nat) (b : Bk) (ss : List (Int × Int)) (w : World) (hB : B ≤ w.heap.size) (h : ItsAt B w AI b.its) (h' : RusAt B w AR b.rus) (hs : Short b) (hp : PairsAt B w A ss) (hm : ss.length ≤ 1000) :
    Calls Tryd.prog 51 #[.agg #[.int .i64 b.p, .slice AI b.its.length cI, .slice AR b.rus.length cR], .slice A ss.length c] w fun e w' =>
      ((∃ m AI' AR' cI' cR', exE b ss = 0 ∧ exN b.its ss = some m ∧ e = .returned (.tuple #[.agg #[.int .i64 b.p, .slice AI' b.its.length cI', .slice AR' b.rus.length cR'], .int .i64 0]) ∧ ItsAt w'.heap.size w' AI' m ∧ RusAt w'.heap.size w' AR' b.rus) ∨
        (exE b ss ≠ 0 ∧ e = .returned (.tuple #[.agg #[.int .i64 0, .slice none 0 0, .slice none 0 0], .int .i64 (exE b ss)]))) ∧ Below w.heap.size w w' := by
  have hT := h.below (Below.refl _ _) hB
  have hT' := h'.below (Below.refl _ _) hB
  have hP := hp.below (Below.refl _ _) hB
  have cv := Lib.hid (fun W (hW : Below w.heap.size w W) => Validate_any AI AR cI cR w.heap.size b W hW.size (hT.below hW (Nat.le_refl _)) (hT'.below hW (Nat.le_refl _)) hs)
  have cs := Lib.hid (fun W (hW : Below w.heap.size w W) => swappable_any AI AR cI cR A c w.heap.size b ss W hW.size (hP.below hW (Nat.le_refl _)) hs.1 hm)
  have HB0 := Lib.hid (show Below w.heap.size w ((w.alloc (.cells #[.int .i64 b.p, .slice AI b.its.length cI, .slice AR b.rus.length cR] 25)).alloc (.cells #[.int .i64 0, .slice none 0 0, .slice none 0 0] 25)) from balloc (balloc (Below.refl _ _) _) _)
  by_cases h0 : vlR b = 0
  · rw [h0] at cv
    by_cases h1 : swE b.its.length ss = 0
    · rw [h1] at cs
      obtain ⟨h8, hsw⟩ := sw_zero h1
      have ce := Lib.hid (fun W (hW : Below w.heap.size w W) => exchanged_any AI AR cI cR A c w.heap.size b ss W hW.size (hT.below hW (Nat.le_refl _)) (hT'.below hW (Nat.le_refl _)) hs (vl_ord (vl_zero h0)) (hP.below hW (Nat.le_refl _)) h8 (fun s hs => (hsw s hs).2.2.1))
      have HE := Lib.hid (show (∀ m, exN b.its ss = some m → exE b ss = 0) ∧ (exN b.its ss = none → exE b ss = 7) from by
        unfold exE
        rw [if_neg (by simpa using h0), if_neg (by simpa using h1)]
        exact ⟨fun m hm => by rw [if_neg (by rw [hm]; simp)], fun hm => by rw [if_pos hm]⟩)
      clear h h' hs hp hT hT' hP h0 h1 hsw hB
      go_enter Tryd.func51, Tryd.ntmps51
      go_wp2_with fail
      generalize hW0 : (w.alloc (.cells #[.int .i64 b.p, .slice AI b.its.length cI, .slice AR b.rus.length cR] 25)).alloc (.cells #[.int .i64 0, .slice none 0 0, .slice none 0 0] 25) = W0
      rw [hW0] at HB0
      have HK0 := Lib.hid (show Blk W0 w.heap.size 25 #[.int .i64 b.p, .slice AI b.its.length cI, .slice AR b.rus.length cR] by rw [← hW0]; exact (Blk.new _ _ _).alloc _)
      have HK1 := Lib.hid (show Blk W0 (w.heap.size + 1) 25 #[.int .i64 0, .slice none 0 0, .slice none 0 0] by rw [← hW0]; exact blk_new' (by simp))
      clear hW0
      obtain ⟨x0, x1, x2, _⟩ := blk3 HK0.out
      go_wp2_with (first
        | (go_at_call 20; refine (cv.out _ HB0.out).mono ?_; rintro e w1 ⟨rfl, hb1⟩; have hB1 := HB0.out.trans (hb1.mono HB0.out.size); clear x0 x1 x2; obtain ⟨x0, x1, x2, _⟩ := blk3 (HK0.out.below hb1 HK0.out.lt))
        | (go_at_call 94; refine (cs.out _ hB1).mono ?_; rintro e w2 ⟨rfl, hb2⟩; have hB2 := hB1.trans (hb2.mono hB1.size); have hd2 := hb1.trans (hb2.mono hb1.size); clear x0 x1 x2; obtain ⟨x0, x1, x2, _⟩ := blk3 (HK0.out.below hd2 HK0.out.lt)))
      go_at_call 95
      refine (ce.out _ hB2).mono ?_
      rintro e w3 ⟨⟨m, AI', AR', cI', cR', hex, rfl, hit, hru⟩ | ⟨hex, rfl⟩, hb3⟩
      · have hd3 := hd2.trans (hb3.mono hd2.size)
        have HR1 := Lib.hid ((HK1.out.below hd3 HK1.out.lt).alloc (.cells #[.int .i64 b.p, .slice AI' b.its.length cI', .slice AR' b.rus.length cR'] 25))
        have HR0 := Lib.hid ((HK1.out.below hd3 HK1.out.lt))
        have hB3 := hB2.trans (hb3.mono hB2.size)
        have HE0 := Lib.hid (HE.out.1 m hex)
        have HEx := Lib.hid hex
        have HIt := Lib.hid hit
        have HRu := Lib.hid hru
        have HS := Lib.hid (show w.heap.size + 1 < w3.heap.size from HR0.out.lt)
        have hlR : w.heap.size + 1 < (w3.alloc (.cells #[.int .i64 b.p, .slice AI' b.its.length cI', .slice AR' b.rus.length cR'] 25)).heap.size := HR1.out.lt
        obtain ⟨t0, t1, t2, g0, g1, g2⟩ := blk3 HR1.out
        clear hex hit hru x0 x1 x2 HE
        go_wp2_with fail
        have hBa := balloc (Below.refl w3.heap.size w3) (.cells #[.int .i64 b.p, .slice AI' b.its.length cI', .slice AR' b.rus.length cR'] 25)
        have HBa := Lib.hid (hB3.trans (hBa.mono hB3.size))
        have HI4 := Lib.hid ((HIt.out.below hBa))
        have HU4 := Lib.hid ((HRu.out.below hBa))
        have hR0 : w.heap.size + 1 < w2.heap.size := Nat.lt_of_lt_of_le HK1.out.lt hd2.size
        generalize w3.alloc (.cells #[.int .i64 b.p, .slice AI' b.its.length cI', .slice AR' b.rus.length cR'] 25) = w4 at *
        have HP := Lib.hid ((((Only.refl (w.heap.size + 1) w4).put 0 (.int .i64 b.p)).put 1 (.slice AI' b.its.length cI')).put 2 (.slice AR' b.rus.length cR'))
        have HB2 := Lib.hid (((HR1.out.put 0 (.int .i64 b.p)).put 1 (.slice AI' b.its.length cI')).put 2 (.slice AR' b.rus.length cR'))
        refine bodyPost_ret (results_cell_row2 rfl _ _ (w.heap.size + 1) 25 _ (0, 0) _ rfl HB2.out Tryd.underlying25 rfl (by kernel_rfl)) rfl ⟨.inl ⟨m, AI', AR', cI', cR', HE0.out, HEx.out, rfl, ?_, ?_⟩, HBa.out.trans (HP.out.below (Nat.le_succ _) HBa.out.size)⟩
        · exact (HI4.out.keep (fun q hq e => by omega) HP.out).at
        · exact (HU4.out.keep (fun q hq e => by omega) HP.out).at

      · have hd3 := hd2.trans (hb3.mono hd2.size)
        have HR1 := Lib.hid ((HK1.out.below hd3 HK1.out.lt).alloc (.cells #[.int .i64 0, .slice none 0 0, .slice none 0 0] 25))
        have hB3 := hB2.trans (hb3.mono hB2.size)
        have HE0 := Lib.hid (HE.out.2 hex)
        have hlR : w.heap.size + 1 < (w3.alloc (.cells #[.int .i64 0, .slice none 0 0, .slice none 0 0] 25)).heap.size := HR1.out.lt
        obtain ⟨t0, t1, t2, g0, g1, g2⟩ := blk3 HR1.out
        have hBa := balloc (Below.refl w3.heap.size w3) (.cells #[.int .i64 0, .slice none 0 0, .slice none 0 0] 25)
        have HBa := Lib.hid (hB3.trans (hBa.mono hB3.size))
        clear hex x0 x1 x2 HE hBa
        go_wp2_with fail
        generalize w3.alloc (.cells #[.int .i64 0, .slice none 0 0, .slice none 0 0] 25) = w4 at *
        have HP := Lib.hid ((((Only.refl (w.heap.size + 1) w4).put 0 (.int .i64 0)).put 1 (.slice none 0 0)).put 2 (.slice none 0 0))
        have HB2 := Lib.hid (((HR1.out.put 0 (.int .i64 0)).put 1 (.slice none 0 0)).put 2 (.slice none 0 0))
        refine bodyPost_ret (results_cell_row2 rfl _ _ (w.heap.size + 1) 25 _ (0, 0) _ rfl HB2.out Tryd.underlying25 rfl (by kernel_rfl)) rfl ⟨.inr ⟨by rw [HE0.out]; decide, by rw [HE0.out]; rfl⟩, HBa.out.trans (HP.out.below (Nat.le_succ _) HBa.out.size)⟩
    · have HE := Lib.hid (show exE b ss = swE b.its.length ss from by
        unfold exE
        rw [if_neg (by simpa using h0), if_pos h1])
      have HN := Lib.hid h1
      have hne : (swE b.its.length ss != 0) = true := by simpa using h1
      generalize swE b.its.length ss = e0 at *
      clear h h' hs hp hT hT' hP h0 h1 hB
      go_enter Tryd.func51, Tryd.ntmps51
      go_wp2_with fail
      generalize hW0 : (w.alloc (.cells #[.int .i64 b.p, .slice AI b.its.length cI, .slice AR b.rus.length cR] 25)).alloc (.cells #[.int .i64 0, .slice none 0 0, .slice none 0 0] 25) = W0
      rw [hW0] at HB0
      have HK0 := Lib.hid (show Blk W0 w.heap.size 25 #[.int .i64 b.p, .slice AI b.its.length cI, .slice AR b.rus.length cR] by rw [← hW0]; exact (Blk.new _ _ _).alloc _)
      have HK1 := Lib.hid (show Blk W0 (w.heap.size + 1) 25 #[.int .i64 0, .slice none 0 0, .slice none 0 0] by rw [← hW0]; exact blk_new' (by simp))
      clear hW0
      obtain ⟨x0, x1, x2, _⟩ := blk3 HK0.out
      go_wp2_with (first
        | (go_at_call 20; refine (cv.out _ HB0.out).mono ?_; rintro e w1 ⟨rfl, hb1⟩; have hB1 := HB0.out.trans (hb1.mono HB0.out.size); clear x0 x1 x2; obtain ⟨x0, x1, x2, _⟩ := blk3 (HK0.out.below hb1 HK0.out.lt))
        | (go_at_call 94; refine (cs.out _ hB1).mono ?_; rintro e w2 ⟨rfl, hb2⟩; have hB2 := hB1.trans (hb2.mono hB1.size); have hd2 := hb1.trans (hb2.mono hb1.size); obtain ⟨t0, t1, t2, g0, g1, g2⟩ := blk3 (HK1.out.below hd2 HK1.out.lt); have hlR : w.heap.size + 1 < w2.heap.size := (HK1.out.below hd2 HK1.out.lt).lt))
      have HR1 := Lib.hid (HK1.out.below hd2 HK1.out.lt)
      have HP := Lib.hid ((((Only.refl (w.heap.size + 1) w2).put 0 (.int .i64 0)).put 1 (.slice none 0 0)).put 2 (.slice none 0 0))
      have HB2 := Lib.hid (((HR1.out.put 0 (.int .i64 0)).put 1 (.slice none 0 0)).put 2 (.slice none 0 0))
      refine bodyPost_ret (results_cell_row2 rfl _ _ (w.heap.size + 1) 25 _ (0, 0) _ rfl HB2.out Tryd.underlying25 rfl (by kernel_rfl)) rfl ⟨.inr ⟨by rw [HE.out]; exact HN.out, by rw [HE.out]; rfl⟩, hB2.trans (HP.out.below (Nat.le_succ _) hB2.size)⟩
  · have HE := Lib.hid (show exE b ss = vlR b from by
      unfold exE
      rw [if_pos h0])
    have HN := Lib.hid h0
    have hne : (vlR b != 0) = true := by simpa using h0
    generalize vlR b = e0 at *
    clear h h' hs hp hT hT' hP h0 cs hB
    go_enter Tryd.func51, Tryd.ntmps51
    go_wp2_with fail
    generalize hW0 : (w.alloc (.cells #[.int .i64 b.p, .slice AI b.its.length cI, .slice AR b.rus.length cR] 25)).alloc (.cells #[.int .i64 0, .slice none 0 0, .slice none 0 0] 25) = W0
    rw [hW0] at HB0
    have HK0 := Lib.hid (show Blk W0 w.heap.size 25 #[.int .i64 b.p, .slice AI b.its.length cI, .slice AR b.rus.length cR] by rw [← hW0]; exact (Blk.new _ _ _).alloc _)
    have HK1 := Lib.hid (show Blk W0 (w.heap.size + 1) 25 #[.int .i64 0, .slice none 0 0, .slice none 0 0] by rw [← hW0]; exact blk_new' (by simp))
    clear hW0
    obtain ⟨x0, x1, x2, _⟩ := blk3 HK0.out
    go_wp2_with (go_at_call 20; refine (cv.out _ HB0.out).mono ?_; rintro e w2 ⟨rfl, hd2⟩; have hB2 := HB0.out.trans (hd2.mono HB0.out.size); obtain ⟨t0, t1, t2, g0, g1, g2⟩ := blk3 (HK1.out.below hd2 HK1.out.lt); have hlR : w.heap.size + 1 < w2.heap.size := (HK1.out.below hd2 HK1.out.lt).lt)
    have HR1 := Lib.hid (HK1.out.below hd2 HK1.out.lt)
    have HP := Lib.hid ((((Only.refl (w.heap.size + 1) w2).put 0 (.int .i64 0)).put 1 (.slice none 0 0)).put 2 (.slice none 0 0))
    have HB2 := Lib.hid (((HR1.out.put 0 (.int .i64 0)).put 1 (.slice none 0 0)).put 2 (.slice none 0 0))
    refine bodyPost_ret (results_cell_row2 rfl _ _ (w.heap.size + 1) 25 _ (0, 0) _ rfl HB2.out Tryd.underlying25 rfl (by kernel_rfl)) rfl ⟨.inr ⟨by rw [HE.out]; exact HN.out, by rw [HE.out]; rfl⟩, hB2.trans (HP.out.below (Nat.le_succ _) hB2.size)⟩

set_option maxRecDepth 100000 in
set_option maxHeartbeats 4000000 in
theorem Exchange_ref (AI AR : Option Addr) (cI cR : Nat) (A : Option Addr) (c B : Nat) (b : Bk) (ss : List (Int × Int)) (w : World) (hB : B ≤ w.heap.size) (h : ItsAt B w AI b.its) (h' : RusAt B w AR b.rus) (hs : Short b) (hp : PairsAt B w A ss) (hm : ss.length ≤ 1000) :
    Calls Tryd.prog 52 #[.agg #[.int .i64 b.p, .slice AI b.its.length cI, .slice AR b.rus.length cR], .slice A ss.length c] w fun e w' =>
      ((∃ m AI' AR' cI' cR', exE b ss = 0 ∧ exN b.its ss = some m ∧ e = .returned (.tuple #[.agg #[.int .i64 b.p, .slice AI' b.its.length cI', .slice AR' b.rus.length cR'], .int .i64 0]) ∧ ItsAt w'.heap.size w' AI' m ∧ RusAt w'.heap.size w' AR' b.rus) ∨
        (exE b ss ≠ 0 ∧ e = .returned (.tuple #[.agg #[.int .i64 0, .slice none 0 0, .slice none 0 0], .int .i64 (exE b ss)]))) ∧ Below w.heap.size w w' := by
  have hT := h.below (Below.refl _ _) hB
  have hT' := h'.below (Below.refl _ _) hB
  have hP := hp.below (Below.refl _ _) hB
  have cv := Lib.hid (fun W (hW : Below w.heap.size w W) => Validate_ref AI AR cI cR w.heap.size b W hW.size (hT.below hW (Nat.le_refl _)) (hT'.below hW (Nat.le_refl _)) hs)
  have cs := Lib.hid (fun W (hW : Below w.heap.size w W) => swapsOK_ref AI AR cI cR A c w.heap.size b ss W hW.size (hP.below hW (Nat.le_refl _)) hs.1 hm)
  have HB0 := Lib.hid (show Below w.heap.size w ((w.alloc (.cells #[.int .i64 b.p, .slice AI b.its.length cI, .slice AR b.rus.length cR] 25)).alloc (.cells #[.int .i64 0, .slice none 0 0, .slice none 0 0] 25)) from balloc (balloc (Below.refl _ _) _) _)
  by_cases h0 : vlR b = 0
  · rw [h0] at cv
    by_cases h1 : swE b.its.length ss = 0
    · rw [h1] at cs
      obtain ⟨h8, hsw⟩ := sw_zero h1
      have ce := Lib.hid (fun W (hW : Below w.heap.size w W) => exchanged_ref AI AR cI cR A c w.heap.size b ss W hW.size (hT.below hW (Nat.le_refl _)) (hT'.below hW (Nat.le_refl _)) hs (vl_ord (vl_zero h0)) (hP.below hW (Nat.le_refl _)) h8 hsw)
      have HE := Lib.hid (show (∀ m, exN b.its ss = some m → exE b ss = 0) ∧ (exN b.its ss = none → exE b ss = 7) from by
        unfold exE
        rw [if_neg (by simpa using h0), if_neg (by simpa using h1)]
        exact ⟨fun m hm => by rw [if_neg (by rw [hm]; simp)], fun hm => by rw [if_pos hm]⟩)
      clear h h' hs hp hT hT' hP h0 h1 hsw hB
      go_enter Tryd.func52, Tryd.ntmps52
      go_wp2_with fail
      generalize hW0 : (w.alloc (.cells #[.int .i64 b.p, .slice AI b.its.length cI, .slice AR b.rus.length cR] 25)).alloc (.cells #[.int .i64 0, .slice none 0 0, .slice none 0 0] 25) = W0
      rw [hW0] at HB0
      have HK0 := Lib.hid (show Blk W0 w.heap.size 25 #[.int .i64 b.p, .slice AI b.its.length cI, .slice AR b.rus.length cR] by rw [← hW0]; exact (Blk.new _ _ _).alloc _)
      have HK1 := Lib.hid (show Blk W0 (w.heap.size + 1) 25 #[.int .i64 0, .slice none 0 0, .slice none 0 0] by rw [← hW0]; exact blk_new' (by simp))
      clear hW0
      obtain ⟨x0, x1, x2, _⟩ := blk3 HK0.out
      go_wp2_with (first
        | (go_at_call 21; refine (cv.out _ HB0.out).mono ?_; rintro e w1 ⟨rfl, hb1⟩; have hB1 := HB0.out.trans (hb1.mono HB0.out.size); clear x0 x1 x2; obtain ⟨x0, x1, x2, _⟩ := blk3 (HK0.out.below hb1 HK0.out.lt))
        | (go_at_call 96; refine (cs.out _ hB1).mono ?_; rintro e w2 ⟨rfl, hb2⟩; have hB2 := hB1.trans (hb2.mono hB1.size); have hd2 := hb1.trans (hb2.mono hb1.size); clear x0 x1 x2; obtain ⟨x0, x1, x2, _⟩ := blk3 (HK0.out.below hd2 HK0.out.lt)))
      go_at_call 97
      refine (ce.out _ hB2).mono ?_
      rintro e w3 ⟨⟨m, AI', AR', cI', cR', hex, rfl, hit, hru⟩ | ⟨hex, rfl⟩, hb3⟩
      · have hd3 := hd2.trans (hb3.mono hd2.size)
        have HR1 := Lib.hid ((HK1.out.below hd3 HK1.out.lt).alloc (.cells #[.int .i64 b.p, .slice AI' b.its.length cI', .slice AR' b.rus.length cR'] 25))
        have HR0 := Lib.hid ((HK1.out.below hd3 HK1.out.lt))
        have hB3 := hB2.trans (hb3.mono hB2.size)
        have HE0 := Lib.hid (HE.out.1 m hex)
        have HEx := Lib.hid hex
        have HIt := Lib.hid hit
        have HRu := Lib.hid hru
        have HS := Lib.hid (show w.heap.size + 1 < w3.heap.size from HR0.out.lt)
        have hlR : w.heap.size + 1 < (w3.alloc (.cells #[.int .i64 b.p, .slice AI' b.its.length cI', .slice AR' b.rus.length cR'] 25)).heap.size := HR1.out.lt
        obtain ⟨t0, t1, t2, g0, g1, g2⟩ := blk3 HR1.out
        clear hex hit hru x0 x1 x2 HE
        go_wp2_with fail
        have hBa := balloc (Below.refl w3.heap.size w3) (.cells #[.int .i64 b.p, .slice AI' b.its.length cI', .slice AR' b.rus.length cR'] 25)
        have HBa := Lib.hid (hB3.trans (hBa.mono hB3.size))
        have HI4 := Lib.hid ((HIt.out.below hBa))
        have HU4 := Lib.hid ((HRu.out.below hBa))
        have hR0 : w.heap.size + 1 < w2.heap.size := Nat.lt_of_lt_of_le HK1.out.lt hd2.size
        generalize w3.alloc (.cells #[.int .i64 b.p, .slice AI' b.its.length cI', .slice AR' b.rus.length cR'] 25) = w4 at *
        have HP := Lib.hid ((((Only.refl (w.heap.size + 1) w4).put 0 (.int .i64 b.p)).put 1 (.slice AI' b.its.length cI')).put 2 (.slice AR' b.rus.length cR'))
        have HB2 := Lib.hid (((HR1.out.put 0 (.int .i64 b.p)).put 1 (.slice AI' b.its.length cI')).put 2 (.slice AR' b.rus.length cR'))
        refine bodyPost_ret (results_cell_row2 rfl _ _ (w.heap.size + 1) 25 _ (0, 0) _ rfl HB2.out Tryd.underlying25 rfl (by kernel_rfl)) rfl ⟨.inl ⟨m, AI', AR', cI', cR', HE0.out, HEx.out, rfl, ?_, ?_⟩, HBa.out.trans (HP.out.below (Nat.le_succ _) HBa.out.size)⟩
        · exact (HI4.out.keep (fun q hq e => by omega) HP.out).at
        · exact (HU4.out.keep (fun q hq e => by omega) HP.out).at

      · have hd3 := hd2.trans (hb3.mono hd2.size)
        have HR1 := Lib.hid ((HK1.out.below hd3 HK1.out.lt).alloc (.cells #[.int .i64 b.p, .slice AI b.its.length cI, .slice AR b.rus.length cR] 25))
        have hB3 := hB2.trans (hb3.mono hB2.size)
        have HE0 := Lib.hid (HE.out.2 hex)
        have hlR : w.heap.size + 1 < (w3.alloc (.cells #[.int .i64 b.p, .slice AI b.its.length cI, .slice AR b.rus.length cR] 25)).heap.size := HR1.out.lt
        obtain ⟨t0, t1, t2, g0, g1, g2⟩ := blk3 HR1.out
        have hBa := balloc (Below.refl w3.heap.size w3) (.cells #[.int .i64 b.p, .slice AI b.its.length cI, .slice AR b.rus.length cR] 25)
        have HBa := Lib.hid (hB3.trans (hBa.mono hB3.size))
        clear hex x0 x1 x2 HE hBa
        go_wp2_with fail
        generalize w3.alloc (.cells #[.int .i64 b.p, .slice AI b.its.length cI, .slice AR b.rus.length cR] 25) = w4 at *
        have HP := Lib.hid ((((Only.refl (w.heap.size + 1) w4).put 0 (.int .i64 0)).put 1 (.slice none 0 0)).put 2 (.slice none 0 0))
        have HB2 := Lib.hid (((HR1.out.put 0 (.int .i64 0)).put 1 (.slice none 0 0)).put 2 (.slice none 0 0))
        refine bodyPost_ret (results_cell_row2 rfl _ _ (w.heap.size + 1) 25 _ (0, 0) _ rfl HB2.out Tryd.underlying25 rfl (by kernel_rfl)) rfl ⟨.inr ⟨by rw [HE0.out]; decide, by rw [HE0.out]; rfl⟩, HBa.out.trans (HP.out.below (Nat.le_succ _) HBa.out.size)⟩
    · have HE := Lib.hid (show exE b ss = swE b.its.length ss from by
        unfold exE
        rw [if_neg (by simpa using h0), if_pos h1])
      have HN := Lib.hid h1
      have hne : (swE b.its.length ss != 0) = true := by simpa using h1
      generalize swE b.its.length ss = e0 at *
      clear h h' hs hp hT hT' hP h0 h1 hB
      go_enter Tryd.func52, Tryd.ntmps52
      go_wp2_with fail
      generalize hW0 : (w.alloc (.cells #[.int .i64 b.p, .slice AI b.its.length cI, .slice AR b.rus.length cR] 25)).alloc (.cells #[.int .i64 0, .slice none 0 0, .slice none 0 0] 25) = W0
      rw [hW0] at HB0
      have HK0 := Lib.hid (show Blk W0 w.heap.size 25 #[.int .i64 b.p, .slice AI b.its.length cI, .slice AR b.rus.length cR] by rw [← hW0]; exact (Blk.new _ _ _).alloc _)
      have HK1 := Lib.hid (show Blk W0 (w.heap.size + 1) 25 #[.int .i64 0, .slice none 0 0, .slice none 0 0] by rw [← hW0]; exact blk_new' (by simp))
      clear hW0
      obtain ⟨x0, x1, x2, _⟩ := blk3 HK0.out
      go_wp2_with (first
        | (go_at_call 21; refine (cv.out _ HB0.out).mono ?_; rintro e w1 ⟨rfl, hb1⟩; have hB1 := HB0.out.trans (hb1.mono HB0.out.size); clear x0 x1 x2; obtain ⟨x0, x1, x2, _⟩ := blk3 (HK0.out.below hb1 HK0.out.lt))
        | (go_at_call 96; refine (cs.out _ hB1).mono ?_; rintro e w2 ⟨rfl, hb2⟩; have hB2 := hB1.trans (hb2.mono hB1.size); have hd2 := hb1.trans (hb2.mono hb1.size); obtain ⟨t0, t1, t2, g0, g1, g2⟩ := blk3 (HK1.out.below hd2 HK1.out.lt); have hlR : w.heap.size + 1 < w2.heap.size := (HK1.out.below hd2 HK1.out.lt).lt))
      have HR1 := Lib.hid (HK1.out.below hd2 HK1.out.lt)
      have HP := Lib.hid ((((Only.refl (w.heap.size + 1) w2).put 0 (.int .i64 0)).put 1 (.slice none 0 0)).put 2 (.slice none 0 0))
      have HB2 := Lib.hid (((HR1.out.put 0 (.int .i64 0)).put 1 (.slice none 0 0)).put 2 (.slice none 0 0))
      refine bodyPost_ret (results_cell_row2 rfl _ _ (w.heap.size + 1) 25 _ (0, 0) _ rfl HB2.out Tryd.underlying25 rfl (by kernel_rfl)) rfl ⟨.inr ⟨by rw [HE.out]; exact HN.out, by rw [HE.out]; rfl⟩, hB2.trans (HP.out.below (Nat.le_succ _) hB2.size)⟩
  · have HE := Lib.hid (show exE b ss = vlR b from by
      unfold exE
      rw [if_pos h0])
    have HN := Lib.hid h0
    have hne : (vlR b != 0) = true := by simpa using h0
    generalize vlR b = e0 at *
    clear h h' hs hp hT hT' hP h0 cs hB
    go_enter Tryd.func52, Tryd.ntmps52
    go_wp2_with fail
    generalize hW0 : (w.alloc (.cells #[.int .i64 b.p, .slice AI b.its.length cI, .slice AR b.rus.length cR] 25)).alloc (.cells #[.int .i64 0, .slice none 0 0, .slice none 0 0] 25) = W0
    rw [hW0] at HB0
    have HK0 := Lib.hid (show Blk W0 w.heap.size 25 #[.int .i64 b.p, .slice AI b.its.length cI, .slice AR b.rus.length cR] by rw [← hW0]; exact (Blk.new _ _ _).alloc _)
    have HK1 := Lib.hid (show Blk W0 (w.heap.size + 1) 25 #[.int .i64 0, .slice none 0 0, .slice none 0 0] by rw [← hW0]; exact blk_new' (by simp))
    clear hW0
    obtain ⟨x0, x1, x2, _⟩ := blk3 HK0.out
    go_wp2_with (go_at_call 21; refine (cv.out _ HB0.out).mono ?_; rintro e w2 ⟨rfl, hd2⟩; have hB2 := HB0.out.trans (hd2.mono HB0.out.size); obtain ⟨t0, t1, t2, g0, g1, g2⟩ := blk3 (HK1.out.below hd2 HK1.out.lt); have hlR : w.heap.size + 1 < w2.heap.size := (HK1.out.below hd2 HK1.out.lt).lt)
    have HR1 := Lib.hid (HK1.out.below hd2 HK1.out.lt)
    have HP := Lib.hid ((((Only.refl (w.heap.size + 1) w2).put 0 (.int .i64 0)).put 1 (.slice none 0 0)).put 2 (.slice none 0 0))
    have HB2 := Lib.hid (((HR1.out.put 0 (.int .i64 0)).put 1 (.slice none 0 0)).put 2 (.slice none 0 0))
    refine bodyPost_ret (results_cell_row2 rfl _ _ (w.heap.size + 1) 25 _ (0, 0) _ rfl HB2.out Tryd.underlying25 rfl (by kernel_rfl)) rfl ⟨.inr ⟨by rw [HE.out]; exact HN.out, by rw [HE.out]; rfl⟩, hB2.trans (HP.out.below (Nat.le_succ _) hB2.size)⟩
end Go.Proofs.YtgoojcjfhghmgaaDoor


set_option linter.unusedSimpArgs false
set_option linter.unusedVariables false
namespace Go.Proofs.YtgoojcjfhghmgaaDoor
open Go Go.RowKit

theorem itsE_back {p : Int} : ∀ (l : List It) (i : Nat), (∀ k (hk : k < l.length), itE p (i + k) l[k] = 0) → itsE p i l = 0
  | [], _, _ => rfl
  | x :: l, i, h => by
    have h0 : itE p i x = 0 := h 0 (by simp)
    unfold itsE
    rw [if_pos h0]
    exact itsE_back l (i + 1) fun k hk => by
      have := h (k + 1) (by simp; omega)
      rw [show i + (k + 1) = i + 1 + k by omega] at this
      simpa using this
theorem vbk_vl {b : Bk} (h : VBk b) : vlR b = 0 := by
  have hi : itsE b.p 0 b.its = 0 := itsE_back b.its 0 fun k hk => by
    obtain ⟨h1, h2, h3⟩ := h.parts k hk
    unfold itE
    rw [Nat.zero_add]
    simp [h1, h2, h3]
  have := h.p0; have := h.p1; have := h.ni; have := h.nr
  unfold vlR
  rw [if_neg (by omega), if_neg (by omega), if_pos hi, if_pos (List.all_eq_true.2 h.rules)]
/-- What the chosen exchanges do. -/
theorem fe_facts {b : Bk} {item : Int} {av : List Int} {ss : List (Int × Int)} {l : List Nat} (h : feV b item av ss = some l) :
    ∃ k m x, l = bl k ∧ k < 2 ^ ss.length ∧ ss.length ≤ 8 ∧ exE b (chS ss k) = 0 ∧ exN b.its (chS ss k) = some m ∧ VBk ⟨b.p, m, b.rus⟩ ∧ nmR ⟨b.p, m, b.rus⟩ item = 0 ∧ m.length = b.its.length ∧ Lbl ⟨b.p, m, b.rus⟩ item.toNat x ∧ ∀ q ∈ av, q ∉ intL (bl x) := by
  obtain ⟨h0, k, hk, rfl, m, x, h1, h2, h3⟩ := feV_some h
  obtain ⟨g1, g2, g3⟩ := feE_zero h0
  obtain ⟨hv0, hi0, hi1⟩ := nm_zero g1
  have hv := vl_zero hv0
  obtain ⟨h8, hsw⟩ := sw_zero g3
  obtain ⟨f1, f2, f3⟩ := chS_facts h8 hk
  obtain ⟨hv', hml⟩ := exN_vbk hv (fun s hs => (hsw s (f3 s hs)).2.2.1) h1
  have hs0 : swE b.its.length (chS ss k) = 0 := by
    unfold swE
    rw [if_neg (by rw [chS_length]; omega), if_pos (List.all_eq_true.2 fun s hs => by simpa using hsw s (f3 s hs))]
  refine ⟨k, m, x, rfl, hk, h8, ?_, h1, hv', ?_, hml, h2, ?_⟩
  · unfold exE
    rw [if_neg (by simpa using hv0), if_neg (by simpa using hs0), if_neg (by rw [h1]; simp)]
  · unfold nmR
    rw [if_pos (vbk_vl hv'), if_neg (by show ¬ (item < 0 ∨ (m.length : Int) ≤ item); omega)]
  · intro q hq hm
    have hq0 := isS_mem g2 q hq
    have h4 := h3 q.toNat (List.mem_map.2 ⟨q, hq, rfl⟩)
    rw [mem_intL hq0.1, mem_bl x (p64 h2.2 (by have := hv.p1; show b.p.toNat ≤ 10; omega)), h4] at hm
    cases hm
end Go.Proofs.YtgoojcjfhghmgaaDoor


set_option linter.unusedSimpArgs false
set_option linter.unusedVariables false
namespace Go.Proofs.YtgoojcjfhghmgaaDoor
open Go Go.RowKit

theorem lb_list {b : Bk} {item : Int} {base x : Nat} {v : Value} {W : World} (h : LbR b item base v W) (h0 : nmR b item = 0) (hx : Lbl b item.toNat x) : ∃ A c, v = .slice A (intL (bl x)).length c ∧ IntsAt W.heap.size W A (intL (bl x)) ∧ (intL (bl x)).length ≤ 1000 := by
  unfold LbR at h
  rw [if_pos h0] at h
  obtain ⟨y, hy, ho⟩ := h
  obtain rfl := Cl.unique hx.1 hy.1
  obtain ⟨A, c, e, i⟩ := IntsAt.of_nat ho
  have := (vl_zero (nm_zero h0).1).p1
  have := bl_short hx.2 (by omega)
  exact ⟨A, c, e, i, by rw [il]; omega⟩

set_option maxRecDepth 100000 in
set_option maxHeartbeats 16000000 in
theorem law_fewest (AI AR : Option Addr) (cI cR : Nat) (A : Option Addr) (c : Nat) (A2 : Option Addr) (c2 : Nat) (b : Bk) (item : Int) (av : List Int) (ss : List (Int × Int)) (w : World) (h : ItsAt w.heap.size w AI b.its) (h' : RusAt w.heap.size w AR b.rus) (hi : IntsAt w.heap.size w A av) (hp : PairsAt w.heap.size w A2 ss) (hT : Tab w) :
    Calls Tryd.prog 15 #[.agg #[.int .i64 b.p, .slice AI b.its.length cI, .slice AR b.rus.length cR], .agg #[.int .i64 item, .slice A av.length c], .slice A2 ss.length c2] w fun e w' => e = .returned (.bool true) ∧ Below w.heap.size w w' := by
  obtain ⟨W0, hW0⟩ : ∃ W0, W0 = (w.alloc (.cells #[.int .i64 b.p, .slice AI b.its.length cI, .slice AR b.rus.length cR] 25)).alloc (.cells #[.int .i64 item, .slice A av.length c] 75) := ⟨_, rfl⟩
  have hb0 : Blk W0 w.heap.size 25 #[.int .i64 b.p, .slice AI b.its.length cI, .slice AR b.rus.length cR] := by rw [hW0]; exact (Blk.new _ _ _).alloc _
  have hb1 : Blk W0 (w.heap.size + 1) 75 #[.int .i64 item, .slice A av.length c] := by rw [hW0]; exact blk_new' (by simp)
  have hw0 : Below w.heap.size w W0 := by rw [hW0]; exact balloc (balloc (Below.refl _ _) _) _
  have hlt : w.heap.size < W0.heap.size := hb0.lt
  have hlt1 : w.heap.size + 1 < W0.heap.size := hb1.lt
  have hI := h.below hw0 (Nat.le_of_lt hlt)
  have hR := h'.below hw0 (Nat.le_of_lt hlt)
  have hA := hi.below hw0 (Nat.le_of_lt hlt)
  have hP := hp.below hw0 (Nat.le_of_lt hlt)
  have hT0 := hT.below hw0 hT.2
  have clg := Lib.hid (fun W (hW : Below W0.heap.size W0 W) => Long_any AI AR cI cR W0.heap.size b W hW.size (hI.below hW (Nat.le_refl _)) (hR.below hW (Nat.le_refl _)))
  have ck := Lib.hid (fun W (hW : Below W0.heap.size W0 W) => known_any W (hT0.below hW hT0.2))
  have Hw := Lib.hid hw0
  have HX := Lib.hid (fun W (hW : Below W0.heap.size W0 W) => blk3 (hb0.below hW hlt))
  have HW0 := Lib.hid (Below.refl W0.heap.size W0)
  have tok := Lib.hid (Nat.le_refl 0)
  have y0 := hb1.cell 0
  have y1 := hb1.cell 1
  obtain ⟨z0, z1, z2, _⟩ := HX.out _ HW0.out
  rw [hW0] at y0 y1 z0 z1 z2
  cases hlg : lgR b with
  | true =>
    rw [hlg] at clg
    clear h h' hi hp hI hR hA hP hT hT0 hb0 hb1 hw0 hlg
    go_enter Tryd.func15, Tryd.ntmps15
    go_wp2_with fail
    go_quiet (fail)
    go_wp2_with (first
      | (have tk := tok; clear tok; go_at_call 17; rw [← hW0]; clear hW0; have hd0 := below_drewN HW0.out nq; generalize W0.drewN nq = W1 at hd0 ⊢; refine (clg.out _ hd0).mono ?_; rintro e w1 ⟨rfl, hd1⟩; have tok2 := tk; have hb1 := hd0.trans (hd1.mono hd0.size))
      | (have tk := tok2; clear tok2; go_at_call 18; refine (ck.out _ hb1).mono ?_; rintro e w2 ⟨rfl, hd2⟩; have hb2 := hb1.trans (hd2.mono hb1.size)))
    go_ret
    exact ⟨rfl, Hw.out.trans (hb2.mono Hw.out.size)⟩
  | false =>
    rw [hlg] at clg
    by_cases h60 : 60 < av.length
    · have hld : decide ((60 : Int) < (av.length : Int)) = true := by simp; omega
      clear h h' hi hp hI hR hA hP hT hT0 hb0 hb1 hw0 hlg
      go_enter Tryd.func15, Tryd.ntmps15
      go_wp2_with fail
      go_quiet (fail)
      go_wp2_with (first
        | (have tk := tok; clear tok; go_at_call 17; rw [← hW0]; clear hW0; have hd0 := below_drewN HW0.out nq; generalize W0.drewN nq = W1 at hd0 ⊢; refine (clg.out _ hd0).mono ?_; rintro e w1 ⟨rfl, hd1⟩; have tok2 := tk; have hb1 := hd0.trans (hd1.mono hd0.size); clear z0 z1 z2 y0 y1; obtain ⟨z0, z1, z2, _⟩ := HX.out _ hb1)
        | (have tk := tok2; clear tok2; go_at_call 18; refine (ck.out _ hb1).mono ?_; rintro e w2 ⟨rfl, hd2⟩; have hb2 := hb1.trans (hd2.mono hb1.size)))
      go_ret
      exact ⟨rfl, Hw.out.trans (hb2.mono Hw.out.size)⟩
    by_cases h100 : 100 < ss.length
    · have hld : decide ((60 : Int) < (av.length : Int)) = false := by simp; omega
      have hld2 : decide ((100 : Int) < (ss.length : Int)) = true := by simp; omega
      clear h h' hi hp hI hR hA hP hT hT0 hb0 hb1 hw0 hlg
      go_enter Tryd.func15, Tryd.ntmps15
      go_wp2_with fail
      go_quiet (fail)
      go_wp2_with (first
        | (have tk := tok; clear tok; go_at_call 17; rw [← hW0]; clear hW0; have hd0 := below_drewN HW0.out nq; generalize W0.drewN nq = W1 at hd0 ⊢; refine (clg.out _ hd0).mono ?_; rintro e w1 ⟨rfl, hd1⟩; have tok2 := tk; have hb1 := hd0.trans (hd1.mono hd0.size); clear z0 z1 z2 y0 y1; obtain ⟨z0, z1, z2, _⟩ := HX.out _ hb1)
        | (have tk := tok2; clear tok2; go_at_call 18; refine (ck.out _ hb1).mono ?_; rintro e w2 ⟨rfl, hd2⟩; have hb2 := hb1.trans (hd2.mono hb1.size)))
      go_ret
      exact ⟨rfl, Hw.out.trans (hb2.mono Hw.out.size)⟩
    · have hld : decide ((60 : Int) < (av.length : Int)) = false := by simp; omega
      have hld2 : decide ((100 : Int) < (ss.length : Int)) = false := by simp; omega
      have hs := lg_short hlg
      have hal : av.length ≤ 60 := by omega
      have hsl : ss.length ≤ 100 := by omega
      have c55 := Lib.hid (fun W (hW : Below W0.heap.size W0 W) => Fewest_any AI AR cI cR A c A2 c2 W0.heap.size b item av ss W hW.size (hI.below hW (Nat.le_refl _)) (hR.below hW (Nat.le_refl _)) hs (hA.below hW (Nat.le_refl _)) (by omega) (hP.below hW (Nat.le_refl _)) (by omega) (hT0.below hW hT0.2))
      have c56 := Lib.hid (fun W (hW : Below W0.heap.size W0 W) => Fewest_ref AI AR cI cR A c A2 c2 W0.heap.size b item av ss W hW.size (hI.below hW (Nat.le_refl _)) (hR.below hW (Nat.le_refl _)) hs (hA.below hW (Nat.le_refl _)) (by omega) (hP.below hW (Nat.le_refl _)) (by omega) (hT0.below hW hT0.2))
      have c51 := Lib.hid (fun (A3 : Option Addr) (c3 k : Nat) W (hW : Below W0.heap.size W0 W) (hk : k < 2 ^ ss.length) (h8 : ss.length ≤ 8) (h3 : PairsAt W.heap.size W A3 (chS ss k)) => show Calls Tryd.prog 51 #[.agg #[.int .i64 b.p, .slice AI b.its.length cI, .slice AR b.rus.length cR], .slice A3 (bl k).length c3] W _ by
        have := Exchange_any AI AR cI cR A3 c3 W.heap.size b (chS ss k) W (Nat.le_refl _) (hI.below hW hW.size) (hR.below hW hW.size) hs h3 (by rw [chS_length]; have := (chS_facts h8 hk).2.1; omega)
        rw [chS_length] at this
        exact this)
      have c28 := Lib.hid (fun (mm : List It) (x : Nat) (AI' AR' : Option Addr) (cI' cR' : Nat) W (hW : Below W0.heap.size W0 W) (g1 : ItsAt W.heap.size W AI' mm) (g2 : RusAt W.heap.size W AR' b.rus) (hv' : VBk ⟨b.p, mm, b.rus⟩) (hn : nmR ⟨b.p, mm, b.rus⟩ item = 0) (hml : mm.length = b.its.length) (hx : Lbl ⟨b.p, mm, b.rus⟩ item.toNat x) => show Calls Tryd.prog 28 #[.agg #[.int .i64 b.p, .slice AI' b.its.length cI', .slice AR' b.rus.length cR'], .int .i64 item] W fun e w' => ∃ A' c', e = .returned (.tuple #[.slice A' (intL (bl x)).length c', .int .i64 0]) ∧ IntsAt w'.heap.size w' A' (intL (bl x)) ∧ (intL (bl x)).length ≤ 1000 ∧ Below W.heap.size W w' by
        have := Label_any AI' AR' cI' cR' W.heap.size ⟨b.p, mm, b.rus⟩ item W (Nat.le_refl _) g1 g2 (vbk_short hv') (hT0.below hW hT0.2)
        rw [hn] at this
        dsimp only at this
        rw [hml] at this
        refine this.mono ?_
        rintro e w' ⟨v, rfl, hl, hd⟩
        obtain ⟨A', c', rfl, hi', hl'⟩ := lb_list hl hn hx
        exact ⟨A', c', rfl, hi', hl', hd⟩)
      have c25 := Lib.hid (fun (A5 A6 : Option Addr) (k5 k6 : Nat) (l : List Nat) W (g1 : IntsAt W.heap.size W A5 (intL l)) (g2 : IntsAt W.heap.size W A6 (intL l)) (hl : l.length ≤ 1000) => show Calls Tryd.prog 25 #[.slice A5 l.length k5, .slice A6 l.length k6] W fun e w' => e = .returned (.bool true) ∧ Below W.heap.size W w' by
        have := sameInts_ref A5 A6 k5 k6 W.heap.size (intL l) (intL l) W g1 g2 (by rw [il]; omega)
        rw [il] at this
        refine this.mono ?_
        rintro e w' ⟨rfl, hd⟩
        exact ⟨by simp, hd.below _⟩)
      have HFe := Lib.hid (fun l (hl : feV b item av ss = some l) => fe_facts hl)
      have HAi := Lib.hid (fun W (hW : Below W0.heap.size W0 W) => hA.below hW (Nat.le_refl _))
      have HP := Lib.hid hP
      clear h h' hi hp hI hR hA hP hT hT0 hb0 hb1 hw0 hlg hs h60 h100
      generalize feV b item av ss = o at *
      generalize feE b item av ss = e0 at *
      go_enter Tryd.func15, Tryd.ntmps15
      go_wp2_with fail
      go_quiet (fail)
      cases o with
      | none =>
        simp only [Option.getD_none, List.length_nil, Option.isSome_none] at c55 c56
        go_wp2_with (first
          | (have tk := tok; clear tok; go_at_call 17; rw [← hW0]; clear hW0; have hd0 := below_drewN HW0.out nq; generalize W0.drewN nq = W1 at hd0 ⊢; refine (clg.out _ hd0).mono ?_; rintro e w1 ⟨rfl, hd1⟩; have tok2 := tk; have hb1 := hd0.trans (hd1.mono hd0.size); clear z0 z1 z2 y0 y1; obtain ⟨z0, z1, z2, _⟩ := HX.out _ hb1)
          | (have tk := tok2; clear tok2; go_at_call 55; refine (c55.out _ hb1).mono ?_; rintro e w2 ⟨A5, k5, rfl, hi5, hd2⟩; have tok3 := tk; have hb2 := hb1.trans (hd2.mono hb1.size); have HI5 := Lib.hid hi5; clear z0 z1 z2 hi5; obtain ⟨z0, z1, z2, _⟩ := HX.out _ hb2)
          | (have tk := tok3; clear tok3; go_at_call 56; refine (c56.out _ hb2).mono ?_; rintro e w3 ⟨A6, k6, rfl, hi6, hd3⟩; have tok4 := tk; have hb3 := hb2.trans (hd3.mono hb2.size); have HI6 := Lib.hid hi6; have HI5 := Lib.hid (IntsAt.below HI5.out hd3 hd3.size); clear z0 z1 z2 hi6)
          | (have tk := tok4; clear tok4; go_at_call 25; refine (c25.out A5 A6 k5 k6 [] w3 HI5.out HI6.out (by simp)).mono ?_; rintro e w4 ⟨rfl, hd4⟩; have tok5 := tk; have hb4 := hb3.trans (hd4.mono hb3.size))
          | (have tk := tok5; clear tok5; go_at_call 18; refine (ck.out _ hb4).mono ?_; rintro e w5 ⟨rfl, hd5⟩; have hb5 := hb4.trans (hd5.mono hb4.size)))
        go_ret
        exact ⟨rfl, Hw.out.trans (hb5.mono Hw.out.size)⟩
      | some l =>
        simp only [Option.getD_some, Option.isSome_some] at c55 c56
        obtain ⟨k, m, x, rfl, hk, h8, hex0, hexN, hv', hnm, hml, hlb, hno⟩ := HFe.out l rfl
        obtain ⟨hii, hl8, _⟩ := chS_facts h8 hk
        have c51k := Lib.hid (fun A3 c3 W hW h3 => c51.out A3 c3 k W hW hk h8 h3)
        have c28k := Lib.hid (fun AI' AR' cI' cR' W hW g1 g2 => c28.out m x AI' AR' cI' cR' W hW g1 g2 hv' hnm hml hlb)
        have HEx := Lib.hid hexN
        have HE0 := Lib.hid hex0
        have HII := Lib.hid hii
        have HNo := Lib.hid hno
        have HCt := Lib.hid (chTo_all ss k)
        have HCs := Lib.hid (fun j (hj : j < (bl k).length) (hi : (bl k)[j] < ss.length) => chTo_succ hj hi)
        obtain ⟨j0, hj, hy0, hy1, hy2⟩ := info_parts info79
        clear hii hk h8 hex0 hexN hv' hnm hml hlb hno c51 c28 HFe
        go_wp2_with (first
          | (have tk := tok; clear tok; go_at_call 17; rw [← hW0]; clear hW0; have hd0 := below_drewN HW0.out nq; generalize W0.drewN nq = W1 at hd0 ⊢; refine (clg.out _ hd0).mono ?_; rintro e w1 ⟨rfl, hd1⟩; have tok2 := tk; have hb1 := hd0.trans (hd1.mono hd0.size); clear z0 z1 z2 y0 y1; obtain ⟨z0, z1, z2, _⟩ := HX.out _ hb1)
          | (have tk := tok2; clear tok2; go_at_call 55; refine (c55.out _ hb1).mono ?_; rintro e w2 ⟨A5, k5, rfl, hi5, hd2⟩; have tok3 := tk; have hb2 := hb1.trans (hd2.mono hb1.size); have HI5 := Lib.hid hi5; clear z0 z1 z2 hi5; obtain ⟨z0, z1, z2, _⟩ := HX.out _ hb2)
          | (have tk := tok3; clear tok3; go_at_call 56; refine (c56.out _ hb2).mono ?_; rintro e w3 ⟨A6, k6, rfl, hi6, hd3⟩; have tok4 := tk; have hb3 := hb2.trans (hd3.mono hb2.size); have HI6 := Lib.hid hi6; have HI5 := Lib.hid (IntsAt.below HI5.out hd3 hd3.size); clear z0 z1 z2 hi6)
          | (have tk := tok4; clear tok4; go_at_call 25; refine (c25.out A5 A6 k5 k6 (bl k) w3 HI5.out HI6.out (by omega)).mono ?_; rintro e w4 ⟨rfl, hd4⟩; have tok5 := tk; have hb4 := hb3.trans (hd4.mono hb3.size); have HI5 := Lib.hid (IntsAt.below HI5.out hd4 hd4.size)))
        have HB4 := Lib.hid hb4
        clear hb4 hb3 hb2 hb1 hd0 hd1 hd2 hd3 hd4 HI6 hld hld2 c55 c56 c25
        go_loopw [15, 16] (fun lv iv wi => ∃ j : Nat, j ≤ (bl k).length ∧ iv = .int .i64 j ∧ Aside (wi.ownsRow w4.heap.size 79 2 lv j (flat2 (chTo ss k j))) ∧ Aside (Below w4.heap.size w4 wi)) (fun _ iv _ => (bl k).length - (intOf iv).toNat)
        case atStart => exact ⟨0, Nat.zero_le _, rfl, World.ownsRow_nil _ _ _ _, Below.refl _ _⟩
        case round =>
          obtain ⟨j, hjl, rfl, hown, hbi⟩ := hrel
          have HO := Lib.hid hown.out
          have Hbi := Lib.hid hbi.out
          clear hown hbi
          by_cases hkl : j < (bl k).length
          · have hkI : (j : Int) < ((bl k).length : Int) := by omega
            obtain ⟨b1, o1, rfl, _, y0⟩ := IntsAt.at (IntsAt.below HI5.out Hbi.out Hbi.out.size) (k := j) (by rw [il]; exact hkl)
            rw [show (intL (bl k))[j]'(by rw [il]; exact hkl) = (((bl k)[j] : Nat) : Int) by simp [intL]] at y0
            have hi' : (bl k)[j] < ss.length := HII.out _ (List.getElem_mem hkl)
            have HS := Lib.hid (HCs.out j hkl hi')
            have HBw := HB4.out.trans (Hbi.out.mono HB4.out.size)
            obtain ⟨b2, o2, rfl, _, p0, p1⟩ := PairsAt.at (HP.out.below HBw HBw.size) hi'
            clear HBw
            generalize ss[(bl k)[j]] = s at *
            generalize (bl k)[j] = i at *
            obtain ⟨x1, x2⟩ := s
            simp only at p0 p1
            have hiI : (i : Int) < (ss.length : Int) := by omega
            go_wp2_with (at_builtin; refine wpList_append_own _ rfl _ _ 67 rfl w4.heap.size 79 j0 _ 2 16 Tryd.underlying67 hj hy0 hy1 hy2 rfl (by decide) _ _ _ rfl (HO.out.alloc _) ⟨_, 0, none⟩ 1 1 _ rfl rfl (cells_new _ [.int .i64 x1, .int .i64 x2] 79) (by simp [Value.oneCell']) (by simp only [maxLen]; omega) (by omega) (Hbi.out.alloc Hbi.out.size _).size ?_; intro v' w7 hown7 hg7 _)
            obtain ⟨A7, c7, rfl⟩ := own_sl hown7
            have b7 : Below w4.heap.size w4 w7 := (Hbi.out.alloc Hbi.out.size _).grown hg7 (Hbi.out.alloc Hbi.out.size _).size (fun x hx => (HO.out.lt x hx).1)
            go_roundw
            case rel => exact ⟨j + 1, by omega, by go_num, by rw [HS.out, flat2_append]; exact hown7, b7⟩
            case measure => simp [intOf]; omega
          · obtain rfl : j = (bl k).length := by omega
            have hkI : ((bl k).length : Int) ≤ ((bl k).length : Int) := Int.le_refl _
            have hown := HO.out
            rw [HCt.out] at hown
            obtain ⟨A7, c7, rfl⟩ := own_sl hown
            have h5 := Lib.hid (show PairsAt wr.heap.size wr A7 (chS ss k) from PairsAt.of_own (by rw [chS_length]; exact hown))
            have HBw := Lib.hid (HB4.out.trans (Hbi.out.mono HB4.out.size))
            obtain ⟨z0, z1, z2, _⟩ := HX.out _ HBw.out
            clear hown HO
            go_wp2_with fail
            go_at_call 51
            refine (c51k.out A7 c7 wr HBw.out h5.out).mono ?_
            rintro e w6 ⟨⟨m2, A8, R8, k8, k9, he0, hex, rfl, hi8, hr8⟩ | ⟨he0, rfl⟩, hd6⟩
            · have e9 : some m = some m2 := HEx.out.symm.trans hex
              injection e9 with e9
              subst e9
              obtain ⟨W7, hW7⟩ : ∃ W7, W7 = w6.alloc (.cells #[.int .i64 b.p, .slice A8 b.its.length k8, .slice R8 b.rus.length k9] 25) := ⟨_, rfl⟩
              have hk7 : Blk W7 w6.heap.size 25 #[.int .i64 b.p, .slice A8 b.its.length k8, .slice R8 b.rus.length k9] := by rw [hW7]; exact Blk.new w6 25 _
              have hb7 : Below W0.heap.size W0 W7 := by rw [hW7]; exact balloc (HBw.out.trans (hd6.mono HBw.out.size)) _
              have hd67 : Below w6.heap.size w6 W7 := by rw [hW7]; exact balloc (Below.refl _ _) _
              have HI7 := Lib.hid (hi8.below hd67 hd67.size)
              have HR7 := Lib.hid (hr8.below hd67 hd67.size)
              have HB7 := Lib.hid hb7
              obtain ⟨t0, t1, t2, _⟩ := blk3 hk7
              clear hk7 hb7 hd67 hi8 hr8 hd6 z0 z1 z2 he0 hex h5
              rw [hW7] at t0 t1 t2
              go_wp2_with fail
              rw [← hW7]
              clear hW7 t0 t1 t2
              go_at_call 28
              refine (c28k.out A8 R8 k8 k9 W7 HB7.out HI7.out HR7.out).mono ?_
              rintro e w8 ⟨A9, c9, rfl, hi9, hl9, hd8⟩
              have HB8 := Lib.hid (HB7.out.trans (hd8.mono HB7.out.size))
              have HI9 := Lib.hid hi9
              have HL9 := Lib.hid hl9
              clear hi9 hl9 hd8 HI7 HR7 HBw
              go_wp2_with fail
              go_loopw [21] (fun iv wi => ∃ j : Nat, j ≤ av.length ∧ iv = .int .i64 j ∧ Aside (Below w8.heap.size w8 wi)) (fun iv _ => av.length - (intOf iv).toNat)
              case atStart => exact ⟨0, Nat.zero_le _, rfl, Below.refl _ _⟩
              case round =>
                obtain ⟨j, hjl, rfl, hbi⟩ := hrel
                have Hbi := Lib.hid (show Below w8.heap.size w8 wr from hbi.out)
                clear hbi
                by_cases hkl : j < av.length
                · have hkI : (j : Int) < (av.length : Int) := by omega
                  obtain ⟨b1, o1, rfl, _, y0⟩ := IntsAt.at (HAi.out wr (HB8.out.trans (Hbi.out.mono HB8.out.size))) hkl
                  have hnq : (intL (bl x)).contains av[j] = false := by
                    have := HNo.out av[j] (List.getElem_mem hkl)
                    cases hc : (intL (bl x)).contains av[j] with
                    | false => rfl
                    | true => exact absurd (List.contains_iff_mem.1 hc) this
                  generalize av[j] = q at *
                  have c30 := fun W (hW : Below w8.heap.size w8 W) => Has_ref A9 c9 w8.heap.size (intL (bl x)) q W (HI9.out.below hW (Nat.le_refl _)) HL9.out
                  rw [hnq] at c30
                  have C30 := Lib.hid c30
                  clear c30 hnq
                  go_wp2_with (go_at_call 30; refine (C30.out _ Hbi.out).mono ?_; rintro e w9 ⟨rfl, rfl⟩)
                  go_roundw
                  case rel => exact ⟨j + 1, by omega, by go_num, Hbi.out⟩
                  case measure => simp [intOf]; omega
                · obtain rfl : j = av.length := by omega
                  have hkI : (av.length : Int) ≤ (av.length : Int) := Int.le_refl _
                  have HB9 := Lib.hid (HB8.out.trans (Hbi.out.mono HB8.out.size))
                  go_wp2_with (go_at_call 18; refine (ck.out _ HB9.out).mono ?_; rintro e w5 ⟨rfl, hd5⟩; have hb5 := HB9.out.trans (hd5.mono HB9.out.size))
                  go_ret
                  exact ⟨rfl, Hw.out.trans (hb5.mono Hw.out.size)⟩
            · exact absurd HE0.out he0
end Go.Proofs.YtgoojcjfhghmgaaDoor


namespace Go.Proofs.YtgoojcjfhghmgaaDoor
open Go.RowKit

theorem pairs_of_rows {B n : Nat} {w : World} {A : Option Addr} {f : Nat → Nat → Int} (h : ElsAt B w A 2 n (fun k j => .int .i64 (f k j))) : ∃ l : List (Int × Int), n = l.length ∧ PairsAt B w A l := by
  refine ⟨(List.range n).map fun k => (f k 0, f k 1), by simp, ?_⟩
  unfold PairsAt
  simp only [List.length_map, List.length_range]
  refine h.congr fun k j hk hj => ?_
  have : j = 0 ∨ j = 1 := by omega
  rcases this with rfl | rfl <;> simp [hk]
end Go.Proofs.YtgoojcjfhghmgaaDoor


namespace Go.Proofs.YtgoojcjfhghmgaaDoor
open Go.RowKit Go.ChangeShapes Go.WideShapes Go.ChangeAt Go.Deep

theorem exists_list {α : Type} {Q : Nat → α → Prop} : ∀ (n : Nat), (∀ k, k < n → ∃ x, Q k x) → ∃ l : List α, l.length = n ∧ ∀ k (hk : k < l.length), Q k l[k]
  | 0, _ => ⟨[], rfl, fun k hk => absurd hk (Nat.not_lt_zero k)⟩
  | n + 1, h => by
    obtain ⟨l, rfl, hq⟩ := exists_list n fun k hk => h k (by omega)
    obtain ⟨x, hx⟩ := h l.length (by omega)
    refine ⟨l ++ [x], by simp, fun k hk => ?_⟩
    by_cases hkn : k < l.length
    · rw [List.getElem_append_left hkn]; exact hq k hkn
    · have : k = l.length := by simp at hk; omega
      subst this
      have e : (l ++ [x])[l.length] = x := by simp
      rw [e]; exact hx

section
variable {H : Type} {enc : TypeId × Value → H} {P : Program} {W : World} {base : Nat} {sp : Nat → Bool} {held : Bool} {t e : TypeId} {cs : List Value} {x : DataW H × List MemPlace}

/-- The cells of a struct of one-cell fields. -/
theorem struct_fields {fs : Array Field} {n : Nat} {cs' : List Value} {y : DataW H × List MemPlace} (hs : P.underlying e = some (.struct fs)) (hone : oneCellFields P fs = true) (hC : P.cellsOf e = fs.size)
    (h : DataW.trod enc P W base sp held n e cs' = some y) :
    cs'.length = fs.size ∧ ∀ j (hj : j < fs.size), ∃ n' y' v, cs'[j]? = some v ∧ DataW.trod enc P W base sp held n' fs[j].type [v] = some y' := by
  obtain ⟨ys, n', _, _, hlen, _, hf⟩ := DataW.trod_struct hs h
  rw [hC] at hlen
  refine ⟨hlen, fun j hj => ?_⟩
  have hfj : fs[j]? = some fs[j] := Array.getElem?_eq_getElem hj
  obtain ⟨ho, hk⟩ := hone_of hone j fs[j] hfj
  have h1 := hf j fs[j] hfj
  rw [ho, hk] at h1
  have hv : cs'[j]? = some (cs'[j]'(by omega)) := List.getElem?_eq_getElem (by omega)
  have hone' : (cs'.drop j).take 1 = [cs'[j]'(by omega)] := by
    rw [List.drop_eq_getElem_cons (by omega)]; rfl
  rw [hone'] at h1
  cases hy : DataW.trod enc P W base sp held n' fs[j].type [cs'[j]'(by omega)] with
  | none =>
    rw [hy] at h1
    have := ‹ys.length = fs.size›
    rw [List.getElem?_eq_getElem (by omega)] at h1; cases h1
  | some y' => exact ⟨n', y', _, hv, hy⟩
/-- A slice of structs of two one-cell fields. -/
theorem open_twos {fs : Array Field} {fuel : Nat} (ht : P.underlying t = some (.slice e)) (hs : P.underlying e = some (.struct fs)) (hone : oneCellFields P fs = true) (hC : P.cellsOf e = fs.size) (h2 : fs.size = 2)
    (h : DataW.trod enc P W base sp held fuel t cs = some x) :
    ∃ A c n, cs = [.slice A n c] ∧ n ≤ maxLen ∧ ∀ k, k < n → ∃ b off v0 v1 n0 y0 n1 y1, A = some ⟨b, off, none⟩ ∧ b < W.heap.size ∧ W.cell? ⟨b, off + k * 2, none⟩ = some v0 ∧ W.cell? ⟨b, off + k * 2 + 1, none⟩ = some v1 ∧
      DataW.trod enc P W base sp held n0 fs[0].type [v0] = some y0 ∧ DataW.trod enc P W base sp held n1 fs[1].type [v1] = some y1 := by
  rcases open_slice ht h with ⟨hcs, _⟩ | ⟨a, len, cap, m, n, D, Pl, hcs, _, hl, hm, hmm, _, hel⟩
  · exact ⟨none, 0, 0, hcs, Nat.zero_le _, fun k hk => by omega⟩
  · have hlm : len ≤ m := by rw [hmm]; split <;> omega
    refine ⟨some a, cap, len, hcs, by omega, fun k hk => ?_⟩
    obtain ⟨cs', hc, htr⟩ := hel k (by omega)
    obtain ⟨hlen, hz⟩ := struct_fields hs hone hC htr
    obtain ⟨_, _, hat⟩ := World.cells?_some hc
    rw [hC] at hat
    obtain ⟨n0, y0, v0, c0, t0⟩ := hz 0 (by omega)
    obtain ⟨n1, y1, v1, c1, t1⟩ := hz 1 (by omega)
    have q0 := hat 0 (by omega)
    have q1 := hat 1 (by omega)
    rw [c0, Go.Deep.add_add] at q0
    rw [c1, Go.Deep.add_add] at q1
    obtain ⟨cs0, hc0, htr0⟩ := hel 0 (by omega)
    obtain ⟨_, hz0⟩ := struct_fields hs hone hC htr0
    obtain ⟨_, _, hat0⟩ := World.cells?_some hc0
    obtain ⟨_, _, u0, d0, _⟩ := hz0 0 (by omega)
    have p0 := hat0 0 (by rw [hC]; omega)
    rw [d0] at p0
    have hsp := spot_none p0
    obtain ⟨b, off, spot⟩ := a
    obtain rfl : spot = none := by
      unfold Addr.add at hsp
      simpa using hsp
    rw [Addr.add_lit, h2] at q0
    rw [Addr.add_lit, h2] at q1
    refine ⟨b, off, v0, v1, n0, y0, n1, y1, rfl, cell_lt q0, ?_, ?_, t0, t1⟩
    · simpa using q0
    · rw [Nat.add_assoc]; exact q1
end

section
variable {H : Type} {enc : TypeId × Value → H} {W : World} {base b0 : Nat} {sp : Nat → Bool} {held : Bool} {cs : List Value} {x : DataW H × List MemPlace}
theorem its_of {fuel : Nat} (h : DataW.trod enc Tryd.prog W base sp held fuel 22 cs = some x) : ∃ A c l, cs = [.slice A (List.length l) c] ∧ ItsAt W.heap.size W A l ∧ l.length ≤ maxLen := by
  obtain ⟨A, c, n, rfl, hn, hel⟩ := open_twos Tryd.underlying22 Tryd.underlying84 (by kernel_rfl) (by kernel_rfl) rfl h
  obtain ⟨l, rfl, hl⟩ := exists_list (Q := fun k (x : It) => ∃ b off A1 c1 A2 c2, A = some ⟨b, off, none⟩ ∧ b < W.heap.size ∧ W.cell? ⟨b, off + k * 2, none⟩ = some (.slice A1 x.1.length c1) ∧ W.cell? ⟨b, off + k * 2 + 1, none⟩ = some (.slice A2 x.2.length c2) ∧ IntsAt W.heap.size W A1 x.1 ∧ IntsAt W.heap.size W A2 x.2) n fun k hk => by
    obtain ⟨b, off, v0, v1, n0, y0, n1, y1, e, hb, q0, q1, t0, t1⟩ := hel k hk
    obtain ⟨A1, c1, z1, e1, i1, _, _⟩ := open_intsAt Tryd.underlying32 Tryd.underlying3 (by kernel_rfl) t0
    obtain ⟨A2, c2, z2, e2, i2, _, _⟩ := open_intsAt Tryd.underlying32 Tryd.underlying3 (by kernel_rfl) t1
    obtain rfl := List.singleton_inj.1 e1
    obtain rfl := List.singleton_inj.1 e2
    exact ⟨(z1, z2), b, off, A1, c1, A2, c2, e, hb, q0, q1, i1, i2⟩
  exact ⟨A, c, l, rfl, hl, hn⟩
theorem rus_of {fuel : Nat} (h : DataW.trod enc Tryd.prog W base sp held fuel 23 cs = some x) : ∃ A c l, cs = [.slice A (List.length l) c] ∧ RusAt W.heap.size W A l ∧ l.length ≤ maxLen := by
  obtain ⟨A, c, n, rfl, hn, hel⟩ := open_twos Tryd.underlying23 Tryd.underlying42 (by kernel_rfl) (by kernel_rfl) rfl h
  obtain ⟨l, rfl, hl⟩ := exists_list (Q := fun k (x : Ru) => ∃ b off A1 c1, A = some ⟨b, off, none⟩ ∧ b < W.heap.size ∧ W.cell? ⟨b, off + k * 2, none⟩ = some (.slice A1 x.1.length c1) ∧ W.cell? ⟨b, off + k * 2 + 1, none⟩ = some (.int .i64 x.2) ∧ IntsAt W.heap.size W A1 x.1) n fun k hk => by
    obtain ⟨b, off, v0, v1, n0, y0, n1, y1, e, hb, q0, q1, t0, t1⟩ := hel k hk
    obtain ⟨A1, c1, z1, e1, i1, _, _⟩ := open_intsAt Tryd.underlying32 Tryd.underlying3 (by kernel_rfl) t0
    obtain ⟨z2, rfl, _⟩ := trod_int_inv Tryd.underlying3 t1
    obtain rfl := List.singleton_inj.1 e1
    exact ⟨(z1, z2), b, off, A1, c1, e, hb, q0, q1, i1⟩
  exact ⟨A, c, l, rfl, hl, hn⟩
theorem arr3 {cs : Array Value} {v0 v1 v2 : Value} (hl : cs.toList.length = 3) (h0 : cs.toList[0]? = some v0) (h1 : cs.toList[1]? = some v1) (h2 : cs.toList[2]? = some v2) : cs = #[v0, v1, v2] := by
  obtain ⟨l⟩ := cs
  match l, hl with
  | [a, b, c], _ =>
    simp only [List.getElem?_cons_zero, List.getElem?_cons_succ, Option.some.injEq] at h0 h1 h2
    subst h0 h1 h2; rfl
theorem arr2 {cs : Array Value} {v0 v1 : Value} (hl : cs.toList.length = 2) (h0 : cs.toList[0]? = some v0) (h1 : cs.toList[1]? = some v1) : cs = #[v0, v1] := by
  obtain ⟨l⟩ := cs
  match l, hl with
  | [a, b], _ =>
    simp only [List.getElem?_cons_zero, List.getElem?_cons_succ, Option.some.injEq] at h0 h1
    subst h0 h1; rfl
set_option maxRecDepth 100000 in
/-- A book by value. -/
theorem open_book {r : Reach} {v : Value} {d : DataW H} {p : List MemPlace} (hv : Value.okWide Tryd.prog W r b0 25 v) (h : DataW.Trod enc Tryd.prog W base sp held 25 v d p) :
    ∃ AI AR cI cR, ∃ b : Bk, v = .agg #[.int .i64 b.p, .slice AI b.its.length cI, .slice AR b.rus.length cR] ∧ ItsAt W.heap.size W AI b.its ∧ RusAt W.heap.size W AR b.rus ∧ b.its.length ≤ maxLen ∧ b.rus.length ≤ maxLen := by
  obtain ⟨cs, rfl, hsz⟩ := okWide_struct Tryd.underlying25 hv
  obtain ⟨fuel, hf⟩ := h
  simp only [Value.cells] at hf
  obtain ⟨hlen, hz⟩ := struct_fields Tryd.underlying25 (by kernel_rfl) (by kernel_rfl) hf
  obtain ⟨n0, y0, v0, c0, t0⟩ := hz 0 (by decide)
  obtain ⟨n1, y1, v1, c1, t1⟩ := hz 1 (by decide)
  obtain ⟨n2, y2, v2, c2, t2⟩ := hz 2 (by decide)
  obtain rfl := arr3 hlen c0 c1 c2
  obtain ⟨q, rfl, _⟩ := trod_int_inv Tryd.underlying3 t0
  obtain ⟨AI, cI, l1, e1, i1, m1⟩ := its_of t1
  obtain ⟨AR, cR, l2, e2, i2, m2⟩ := rus_of t2
  obtain rfl := List.singleton_inj.1 e1
  obtain rfl := List.singleton_inj.1 e2
  exact ⟨AI, AR, cI, cR, ⟨q, l1, l2⟩, rfl, i1, i2, m1, m2⟩
set_option maxRecDepth 100000 in
/-- A rule by value. -/
theorem open_rule {r : Reach} {v : Value} {d : DataW H} {p : List MemPlace} (hv : Value.okWide Tryd.prog W r b0 42 v) (h : DataW.Trod enc Tryd.prog W base sp held 42 v d p) :
    ∃ A c, ∃ x : Ru, v = .agg #[.slice A x.1.length c, .int .i64 x.2] ∧ IntsAt W.heap.size W A x.1 := by
  obtain ⟨cs, rfl, hsz⟩ := okWide_struct Tryd.underlying42 hv
  obtain ⟨fuel, hf⟩ := h
  simp only [Value.cells] at hf
  obtain ⟨hlen, hz⟩ := struct_fields Tryd.underlying42 (by kernel_rfl) (by kernel_rfl) hf
  obtain ⟨n0, y0, v0, c0, t0⟩ := hz 0 (by decide)
  obtain ⟨n1, y1, v1, c1, t1⟩ := hz 1 (by decide)
  obtain rfl := arr2 hlen c0 c1
  obtain ⟨A1, k1, z1, e1, i1, _, _⟩ := open_intsAt Tryd.underlying32 Tryd.underlying3 (by kernel_rfl) t0
  obtain ⟨z2, rfl, _⟩ := trod_int_inv Tryd.underlying3 t1
  obtain rfl := List.singleton_inj.1 e1
  exact ⟨A1, k1, (z1, z2), rfl, i1⟩
end
end Go.Proofs.YtgoojcjfhghmgaaDoor


namespace Go.Proofs.YtgoojcjfhghmgaaDoor
open Go.RowKit Go.ChangeShapes Go.WideShapes Go.ChangeAt Go.Deep

section
variable {H : Type} {enc : TypeId × Value → H} {W : World} {base b0 : Nat} {sp : Nat → Bool} {held : Bool}
set_option maxRecDepth 100000 in
/-- A wish by value. -/
theorem open_wish {r : Reach} {v : Value} {d : DataW H} {p : List MemPlace} (hv : Value.okWide Tryd.prog W r b0 75 v) (h : DataW.Trod enc Tryd.prog W base sp held 75 v d p) :
    ∃ A c n, ∃ z : List Int, v = .agg #[.int .i64 n, .slice A z.length c] ∧ IntsAt W.heap.size W A z := by
  obtain ⟨cs, rfl, hsz⟩ := okWide_struct Tryd.underlying75 hv
  obtain ⟨fuel, hf⟩ := h
  simp only [Value.cells] at hf
  obtain ⟨hlen, hz⟩ := struct_fields Tryd.underlying75 (by kernel_rfl) (by kernel_rfl) hf
  obtain ⟨n0, y0, v0, c0, t0⟩ := hz 0 (by decide)
  obtain ⟨n1, y1, v1, c1, t1⟩ := hz 1 (by decide)
  obtain rfl := arr2 hlen c0 c1
  obtain ⟨z2, rfl, _⟩ := trod_int_inv Tryd.underlying3 t0
  obtain ⟨A1, k1, z1, e1, i1, _, _⟩ := open_intsAt Tryd.underlying32 Tryd.underlying3 (by kernel_rfl) t1
  obtain rfl := List.singleton_inj.1 e1
  exact ⟨A1, k1, z2, z1, rfl, i1⟩
end
end Go.Proofs.YtgoojcjfhghmgaaDoor


namespace Go.Proofs.YtgoojcjfhghmgaaDoor.lawDishFewest
open Go.ChangeShapes Go.WideShapes Go.ChangeAt Go.RowKit Go.Deep
set_option linter.unusedVariables false

set_option maxRecDepth 100000 in
theorem lifted (os : Os) (started : os.Started) (H : Type) (enc : TypeId × Value → H) :
    ReturnsInHanded {} Tryd.checked os 15 .any (fun w args => (Rows.dishFewestSpec.pre enc Tryd.prog Tryd.f15 Rows.dishFewestRow.domain false w args ∧ laidMetH Tryd.prog laidV w) ∧ sizedMet enc Tryd.prog Tryd.f15 (OpenSpec.ofChange Rows.dishFewestSpec) false w args)
      (Rows.dishFewestSpec.post enc Tryd.prog Tryd.f15 false true false false) := by
  refine returnsInHanded_of_change_and (C := Tryd.checked) (X := fun w _ => laidMetH Tryd.prog laidV w) (fun _ _ _ hh h => h.of_heap hh) own started (by kernel_rfl) Tryd.func15
    (ChangeSpec.witness_shaped (enc := enc) (C := Tryd.checked) (os := os) (X := fun w _ => laidMetH Tryd.prog laidV w) false (World.laidAll Tryd.prog os laidV) #[.agg #[.int .i64 0, .slice none 0 0, .slice none 0 0], .agg #[.int .i64 0, .slice none 0 0], .slice none 0 0] 8 (World.laidAll_os _ _ _)
      (World.shaped_of_ZipB (by kernel_rfl) (by kernel_rfl)) (by kernel_rfl) (by kernel_rfl) (by kernel_rfl)
      (by rw [MakeChecks.laidMetH_plain _ _ _ (by kernel_rfl)]; exact laidMet_laidAll _ (by kernel_rfl) (by kernel_rfl))) ?_
  intro W base args ds gs before hval0 hW hcnd _ hL _
  have hT := tab_of_laid hL
  have hval : ∀ (j : Nat) t v, Tryd.f15.params[j]? = some t → args[j]? = some v → Value.okWide Tryd.prog W .any base t v := hval0
  have hW' := hW
  obtain ⟨p, q, hA0, hV, rfl, hfz, hnd⟩ := hW
  have hA : DataW.TrodAll enc Tryd.prog W 0 (fun _ => true) true Tryd.f15.params.toList args.toList ds p := hA0
  rw [Tryd.params15] at hA hval
  obtain ⟨v0, vs0, d0, ds0, p0, q0, hargs, rfl, rfl, h0, r0⟩ := trodAll_cons hA
  obtain ⟨v1, vs1, d1, ds1, p1, q1, rfl, rfl, rfl, h1, r1⟩ := trodAll_cons r0
  obtain ⟨v2, vs2, d2, ds2, p2, q2, rfl, rfl, rfl, h2, r2⟩ := trodAll_cons r1
  obtain ⟨rfl, rfl, rfl⟩ := trodAll_nil r2
  obtain rfl : args = #[v0, v1, v2] := by cases args; simp_all
  obtain ⟨rfl, rfl⟩ := trodVars_none hV
  have k0 := h0
  have lt0 : ∀ x ∈ p0, x.block < W.heap.size := by obtain ⟨m, hm⟩ := k0; exact DataW.trod_lt m _ _ _ hm
  obtain ⟨AI0, AR0, cI0, cR0, b0, rfl, I0, R0, S0⟩ := open_book (hval 0 25 v0 rfl rfl) h0
  have k1 := h1
  have lt1 : ∀ x ∈ p1, x.block < W.heap.size := by obtain ⟨m, hm⟩ := k1; exact DataW.trod_lt m _ _ _ hm
  obtain ⟨A1, c1, n1, z1, rfl, i1⟩ := open_wish (hval 1 75 v1 rfl rfl) h1
  have k2 := h2
  have lt2 : ∀ x ∈ p2, x.block < W.heap.size := by obtain ⟨m, hm⟩ := k2; exact DataW.trod_lt m _ _ _ hm
  obtain ⟨fu2, hf2⟩ := h2
  obtain ⟨A2, c2, n2, f2, e2, i2, b2, m2⟩ := open_rowsAt Tryd.underlying67 Tryd.underlying79 (by kernel_rfl) (by kernel_rfl) (by decide) (by intro f hf; simp only [List.mem_cons, List.not_mem_nil, or_false] at hf; rcases hf with rfl | rfl <;> exact Tryd.underlying3) hf2
  obtain ⟨A2', n2', c2', rfl⟩ := okWide_slice Tryd.underlying67 (hval 2 67 v2 rfl rfl)
  obtain ⟨rfl, rfl, rfl⟩ : A2' = A2 ∧ n2' = n2 ∧ c2' = c2 := by simpa [Value.cells] using e2
  obtain ⟨l2, hl2, P2⟩ := pairs_of_rows i2
  subst hl2
  clear hA0 hval0
  refine (law_fewest AI0 AR0 cI0 cR0 A1 c1 A2' c2' b0 n1 z1 l2 W I0 R0 i1 P2 hT).mono fun e W' ⟨he, bel⟩ => ?_
  subst he
  exact ⟨_, rfl, _, _, _, [], _, [], hW', trodAll_mk1 (shut_bool Tryd.underlying4 _), (trodAll_cons_mk (Below.trod laidOut (by kernel_rfl) (of_decide_eq_true (by kernel_rfl)) k0 bel lt0) (trodAll_cons_mk (Below.trod laidOut (by kernel_rfl) (of_decide_eq_true (by kernel_rfl)) k1 bel lt1) (trodAll_cons_mk (Below.trod laidOut (by kernel_rfl) (of_decide_eq_true (by kernel_rfl)) k2 bel lt2) trodAll_mk0))), rfl, bel.frame _, fun h => by cases h⟩

theorem over : Rows.dishFewestRow.holds Tryd.pinned (OpenSpec.ofChange Rows.dishFewestSpec) :=
  OpenClaim.holds_of_wide 15 Tryd.f15 rfl rfl rfl rfl rfl rfl rfl ⟨rfl, rfl, rfl, rfl, rfl⟩ rfl rfl rfl rfl rfl (by kernel_rfl) Tryd.func15 (by kernel_rfl)
    (of_decide_eq_true (by kernel_rfl)) (by unfold Func.isWrapper; first | (rw [if_pos (by decide +kernel)]; kernel_rfl) | (rw [if_neg (by decide +kernel)]; exact ⟨rfl, rfl⟩))
    (fun os started H enc _ => lifted os started H enc)

/-- The statement: the tied card. -/
theorem proved : Rows.DishFewestCardSaid :=
  Claim7.holds_tied_plain_at .later [] [.data, .data] true (true, "8c487879d048aae23dd660c744b71e8b4582616f73d0860a610df5222bf65492") false
    over (fun _ h => by cases h) (by kernel_rfl) (fun _ h => by cases h) dishFewest_row_tie rfl ⟨rfl, rfl⟩ mainIs rfl
    (fun f fn hf hfn => by
      obtain rfl : f = 15 := Option.some.inj ((show Tryd.prog.funcNamed "canteen/canteenlaw02.DishFewest" = some 15 by kernel_rfl).symm.trans hf) |>.symm
      obtain rfl : fn = Tryd.f15 := (Option.some.inj (Tryd.func15.symm.trans hfn)).symm
      exact ⟨by kernel_rfl, fun j t ht => by
        rw [Tryd.params15] at ht
        have hm : t ∈ [25, 75, 67] := by simpa using Array.mem_of_getElem? ht
        have hall : ([25, 75, 67].all fun u => !Tryd.prog.wantsStandIn u) = true := by kernel_rfl
        exact (show Tryd.prog.wantsStandIn t = false by simpa using List.all_eq_true.1 hall t hm)⟩)
    (by kernel_rfl)
end Go.Proofs.YtgoojcjfhghmgaaDoor.lawDishFewest
