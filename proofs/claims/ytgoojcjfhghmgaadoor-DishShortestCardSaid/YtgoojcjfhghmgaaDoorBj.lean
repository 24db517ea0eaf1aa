/- The closure that adds a step to a proof. -/
import Derived.Test.YtgoojcjfhghmgaaDoorBg
import Derived.Deep.RegionWith
import Derived.Test.YtgoojcjfhghmgaaDoorBh
import Derived.Test.YtgoojcjfhghmgaaDoorBi
import Derived.OwnWalk
import Derived.Test.YtgoojcjfhghmgaaDoorBf

set_option linter.unusedSimpArgs false
namespace Go.Proofs.YtgoojcjfhghmgaaDoor
open Go.RowKit

theorem info73 : (Tryd.prog.info? 73).map (fun i => (i.zero, i.size, i.bytes)) = some (some (.agg #[.int .i64 0, .int .i64 0, .int .i64 0]), 3, 24) := by kernel_rfl
def flatS (l : List St) : List Value := l.flatMap fun s => [.int .i64 s.1, .int .i64 s.2.1, .int .i64 s.2.2]
theorem flatS_snoc (l : List St) (s : St) : flatS (l ++ [s]) = flatS l ++ [.int .i64 s.1, .int .i64 s.2.1, .int .i64 s.2.2] := by simp [flatS]
theorem own_slice {w : World} {base e size n : Nat} {v : Value} {xs : List Value} (h : w.ownsRow base e size v n xs) : ∃ A c, v = .slice A n c := by
  rcases h.2 with ⟨e1, e2⟩ | ⟨g, cap, cur, e1, _⟩
  · exact ⟨none, 0, by rw [e1, e2]⟩
  · exact ⟨some ⟨g, 0, none⟩, cap, e1⟩
/-- Of the blocks below lo only two may have turned. -/
structure Two (X Y lo : Nat) (a w : World) : Prop where
  os : w.os = a.os
  tape : w.tape = a.tape
  output : w.output = a.output
  size : a.heap.size ≤ w.heap.size
  block : ∀ i, i < lo → i ≠ X → i ≠ Y → w.heap[i]? = a.heap[i]?
namespace Two
variable {X Y lo : Nat} {a w w' : World}
theorem refl (X Y lo : Nat) (a : World) : Two X Y lo a a := ⟨rfl, rfl, rfl, Nat.le_refl _, fun _ _ _ _ => rfl⟩
theorem of_below {B : Nat} (h : Below B a w) (hB : lo ≤ B) : Two X Y lo a w := ⟨h.os, h.tape, h.output, h.size, fun i hi _ _ => h.block i (by omega)⟩
theorem trans (h : Two X Y lo a w) (h' : Two X Y lo w w') : Two X Y lo a w' :=
  ⟨h'.os.trans h.os, h'.tape.trans h.tape, h'.output.trans h.output, Nat.le_trans h.size h'.size, fun i hi h1 h2 => (h'.block i hi h1 h2).trans (h.block i hi h1 h2)⟩
theorem below {n : Nat} (h : Two X Y lo a w) (hX : n ≤ X) (hY : n ≤ Y) (hl : n ≤ lo) : Below n a w := ⟨h.os, h.tape, h.output, h.size, fun i hi => h.block i (by omega) (by omega) (by omega)⟩
theorem blk {g : Nat} {t : TypeId} {cs : Array Value} (h : Two X Y lo a w) (hb : Blk a g t cs) (hg : g < lo) (h1 : g ≠ X) (h2 : g ≠ Y) : Blk w g t cs := (h.block g hg h1 h2).trans hb
theorem cell {g i : Nat} {v : Value} (h : Two X Y lo a w) (hb : a.cell? ⟨g, i, none⟩ = some v) (hg : g < lo) (h1 : g ≠ X) (h2 : g ≠ Y) : w.cell? ⟨g, i, none⟩ = some v := (World.cell?_of_block (h.block g hg h1 h2)).trans hb
theorem grown {row : Option Nat} (h : Two X Y lo a w) (hg : w.grownBy w' row) (hr : ∀ k, row = some k → lo ≤ k) (hw : lo ≤ w.heap.size) : Two X Y lo a w' := by
  have hb : Below lo w w' := (Below.refl lo w).grown hg hw hr
  exact h.trans (of_below hb (Nat.le_refl _))
theorem put1 (h : Two X Y lo a w) (i : Nat) (u : Value) : Two X Y lo a (w.setCell ⟨X, i, none⟩ u) := by
  refine h.trans ?_
  have o := (Only.refl X w).put i u
  refine ⟨o.os, o.tape, o.output, o.size, fun k _ h1 _ => ?_⟩
  exact Below.heap_setCell w ⟨X, i, none⟩ u k h1
theorem put2 (h : Two X Y lo a w) (i : Nat) (u : Value) : Two X Y lo a (w.setCell ⟨Y, i, none⟩ u) := by
  refine h.trans ?_
  have o := (Only.refl Y w).put i u
  refine ⟨o.os, o.tape, o.output, o.size, fun k _ _ h1 => ?_⟩
  exact Below.heap_setCell w ⟨Y, i, none⟩ u k h1
theorem drew (h : Two X Y lo a w) : Two X Y lo a w.drew := ⟨h.os, h.tape, h.output, h.size, h.block⟩
end Two
/-- The variables of Explain. -/
structure ExAt (X lo : Nat) (l : List St) (W : World) : Prop where
  row : ∃ v, Blk W X 53 #[v] ∧ W.ownsRow lo 73 3 v l.length (flatS l)
  bn : Blk W (X + 1) 3 #[.int .i64 (kS l)]
namespace ExAt
variable {X lo : Nat} {l : List St} {W : World}
theorem alloc (h : ExAt X lo l W) (o : Obj) : ExAt X lo l (W.alloc o) := by
  obtain ⟨⟨v, h3, h4⟩, h5⟩ := h
  exact ⟨⟨v, h3.alloc o, h4.alloc o⟩, h5.alloc o⟩
theorem drew (h : ExAt X lo l W) : ExAt X lo l W.drew := by
  obtain ⟨⟨v, h3, h4⟩, h5⟩ := h
  exact ⟨⟨v, h3.drew, World.ownsRow.drew h4⟩, h5.drew⟩
end ExAt
/-- The row has grown by a step, and both variables are stored anew. -/
theorem ExAt.snoc {X lo : Nat} {q : Nat} {f r : Int} {l : List St} {V w7 : World} {v v' : Value} (hX : X + 1 < lo) (hr : Blk V X 53 #[v]) (hn : Blk V (X + 1) 3 #[.int .i64 (kS l)])
    (hown : V.ownsRow lo 73 3 v l.length (flatS l)) (hg : V.grownBy w7 v.ownBlock) (hown7 : w7.ownsRow lo 73 3 v' (l.length + 1) (flatS l ++ [.int .i64 q, .int .i64 f, .int .i64 r])) :
    ExAt X lo (l ++ [((q : Int), f, r)]) ((w7.setCell ⟨X, 0, none⟩ v').setCell ⟨X + 1, 0, none⟩ (.int .i64 ((kS l ||| 2 ^ q : Nat) : Int))).drew := by
  have n3 := own_ne hown (show X < lo by omega)
  have n4 := own_ne hown (show X + 1 < lo by omega)
  have g3 := hr.grown hg n3
  have g4 := hn.grown hg n4
  refine ⟨⟨v', ?_, ?_⟩, ?_⟩
  · exact ((g3.put 0 v').far (show X ≠ X + 1 by omega) _).drew
  · have e1 := ((Only.refl X w7).put 0 v').own hown7 (own_ne hown7 (show X < lo by omega))
    have e2 := ((Only.refl (X + 1) _).put 0 (.int .i64 ((kS l ||| 2 ^ q : Nat) : Int))).own e1 (own_ne e1 (show X + 1 < lo by omega))
    rw [List.length_append, List.length_singleton, flatS_snoc]
    exact World.ownsRow.drew e2
  · rw [kS_snoc]
    exact ((g4.far (show X + 1 ≠ X by omega) v').put 0 _).drew
theorem or_pow' {m x : Nat} (hm : m < 2 ^ 60) (hx : x < 60) : bits BinOp.or IntKind.i64 (m : Int) (IntKind.i64.wrap ((2 : Int) ^ x)) = ((m ||| 2 ^ x : Nat) : Int) := by
  have e : IntKind.i64.wrap ((2 : Int) ^ x) = wrap64 ((2 : Int) ^ x) := by rw [IntKind.wrap_i64]; unfold wrap64; omega
  rw [e]; exact or_pow hm hx

set_option maxRecDepth 100000 in
set_option maxHeartbeats 4000000 in
theorem add_any (gp X lo : Nat) (prop q : Nat) (f r : Int) (l : List St) (w : World) (hX : X + 1 < lo) (hlo : lo ≤ w.heap.size) (hgp : Blk w gp 3 #[.int .i64 prop]) (hK : kS l < 2 ^ 10) (hpr : prop < 10) (hq : q < 10) (hl : l.length ≤ 40) (h : ExAt X lo l w) :
    Calls Tryd.prog 86 #[.agg #[.int .i64 q, .int .i64 f, .int .i64 r], .pointer (some ⟨X + 1, 0, none⟩), .pointer (some ⟨gp, 0, none⟩), .pointer (some ⟨X, 0, none⟩)] w
      fun e w' => e = .returned (.tuple #[]) ∧ ExAt X lo (addS prop l ((q : Int), f, r)) w' ∧ Two X (X + 1) lo w w' := by
  obtain ⟨j0, hj, hy0, hy1, hy2⟩ := info_parts info73
  have hK60 : kS l < 2 ^ 60 := Nat.lt_of_lt_of_le hK (by decide)
  have hba : Two X (X + 1) lo w (w.alloc (.cells #[.int .i64 q, .int .i64 f, .int .i64 r] 73)) := Two.of_below ((Below.refl _ w).alloc (Nat.le_refl _) _) hlo
  have hA := h.alloc (.cells #[.int .i64 q, .int .i64 f, .int .i64 r] 73)
  have Hb := Lib.hid hba
  have HA := Lib.hid hA
  have HS := Lib.hid (Blk.new w 73 #[.int .i64 q, .int .i64 f, .int .i64 r])
  obtain ⟨s0, s1, s2, _⟩ := blk3 HS.out
  obtain ⟨⟨v, b3, b4⟩, b5⟩ := h
  have a2 := hgp.alloc (.cells #[.int .i64 q, .int .i64 f, .int .i64 r] 73)
  have a3 := b3.alloc (.cells #[.int .i64 q, .int .i64 f, .int .i64 r] 73)
  have a4 := b4.alloc (.cells #[.int .i64 q, .int .i64 f, .int .i64 r] 73)
  have a5 := b5.alloc (.cells #[.int .i64 q, .int .i64 f, .int .i64 r] 73)
  have HNE := Lib.hid (show some w.heap.size ≠ v.ownBlock from fun e => by have := (b4.lt _ e.symm).2; omega)
  have hXw : X + 1 < w.heap.size := b5.lt
  obtain ⟨z0, _⟩ := blk1 a5
  obtain ⟨z1, _⟩ := blk1 a2
  obtain ⟨z2, _⟩ := blk1 a3
  have A3 := Lib.hid a3
  have A4 := Lib.hid a4
  have A5 := Lib.hid a5
  have hm1 : min prop 64 = prop := by omega
  have hm2 : min q 64 = q := by omega
  have k1 := bit_test hK60 (i := prop)
  have k2 := bit_test hK60 (i := q)
  have key := or_pow hK60 (show q < 60 by omega)
  have key2 := or_pow' hK60 (show q < 60 by omega)
  have Hx := Lib.hid (show addS prop l ((q : Int), f, r) = if (kS l).testBit prop || (kS l).testBit q then l else l ++ [((q : Int), f, r)] from rfl)
  clear hba hA a2 a3 a4 a5 b3 b4 b5 hgp
  generalize hKe : kS l = K at *
  cases hb1 : K.testBit prop with
  | true =>
    rw [hb1] at k1 Hx
    simp only [if_true] at k1
    have Hy := Lib.hid (show addS prop l ((q : Int), f, r) = l from Hx.out)
    clear Hx hb1 k2
    go_enter Tryd.func86, Tryd.ntmps86
    go_wp2_with fail
    refine bodyPost_end (results_none rfl _ _ _) rfl ?_
    exact ⟨rfl, by rw [Hy.out]; exact HA.out, Hb.out⟩
  | false =>
    rw [hb1] at k1 Hx
    simp only [Bool.false_eq_true, if_false] at k1
    cases hb2 : K.testBit q with
    | true =>
      rw [hb2] at k2 Hx
      simp only [if_true] at k2
      have Hy := Lib.hid (show addS prop l ((q : Int), f, r) = l from Hx.out)
      clear Hx hb1 hb2
      go_enter Tryd.func86, Tryd.ntmps86
      go_wp2_with fail
      refine bodyPost_end (results_none rfl _ _ _) rfl ?_
      exact ⟨rfl, by rw [Hy.out]; exact HA.out, Hb.out⟩
    | false =>
      rw [hb2] at k2 Hx
      simp only [Bool.false_eq_true, if_false] at k2
      have Hy := Lib.hid (show addS prop l ((q : Int), f, r) = l ++ [((q : Int), f, r)] from Hx.out)
      clear Hx hb1 hb2
      go_enter Tryd.func86, Tryd.ntmps86
      go_wp2_with (at_builtin; refine wpList_append_own _ rfl _ _ 53 rfl lo 73 j0 _ 3 24 Tryd.underlying53 hj hy0 hy1 hy2 rfl (by decide) _ _ _ rfl (A4.out.alloc _) ⟨w.heap.size + 1, 0, none⟩ 1 1 _ rfl rfl (cells_new' _ _ (by simp only [World.size_alloc]) [.int .i64 q, .int .i64 f, .int .i64 r] 73) (by simp [Value.oneCell']) (by simp only [maxLen]; omega) (by omega) (by simp only [World.size_alloc]; omega) ?_; intro v' w7 hown7 hg7 _; obtain ⟨A7, c7, rfl⟩ := own_slice hown7; have HR7 := (A3.out.alloc (.cells #[.int .i64 q, .int .i64 f, .int .i64 r] 73)).grown hg7 (own_ne A4.out (show X < lo by omega)); obtain ⟨q0, q1⟩ := blk1 HR7)
      have H7 := Lib.hid hown7
      have G7 := Lib.hid hg7
      have HN8 := ((A5.out.alloc (.cells #[.int .i64 q, .int .i64 f, .int .i64 r] 73)).grown hg7 (own_ne A4.out (show X + 1 < lo by omega))).far (show X + 1 ≠ X by omega) (p := ⟨X, 0, none⟩) (.slice A7 (l.length + 1) c7)
      have HS8 := ((HS.out.alloc (.cells #[.int .i64 q, .int .i64 f, .int .i64 r] 73)).grown hg7 HNE.out).far (show w.heap.size ≠ X by omega) (p := ⟨X, 0, none⟩) (.slice A7 (l.length + 1) c7)
      obtain ⟨y0, y1⟩ := blk1 HN8
      obtain ⟨x0, _⟩ := blk3 HS8
      have HD := Lib.hid (show Two X (X + 1) lo w w7 from (Hb.out.trans (Two.of_below ((Below.refl lo _).alloc (by simp only [World.size_alloc]; omega) (.cells #[.int .i64 q, .int .i64 f, .int .i64 r] 73)) (Nat.le_refl _))).grown hg7 (fun k hk => (A4.out.lt k hk).1) (by simp only [World.size_alloc]; omega))
      clear hown7 hg7 HR7 HN8 HS8 z0 z1 z2 s0 s1 s2 q0 q1 k1 k2
      go_region_with fail
      all_goals
        go_wp2_with fail
        refine bodyPost_end (results_none rfl _ _ _) rfl ?_
        refine ⟨rfl, by rw [Hy.out]; subst hKe; exact ExAt.snoc hX (A3.out.alloc _) (A5.out.alloc _) (A4.out.alloc _) G7.out H7.out, ((HD.out.put1 0 _).put2 0 _).drew⟩
end Go.Proofs.YtgoojcjfhghmgaaDoor

/- What Explain returns; plain. -/
namespace Go.Proofs.YtgoojcjfhghmgaaDoor
open Go.RowKit

theorem StAt.of_own {w : World} {base e c : Nat} {A : Option Addr} {l : List St} (h : w.ownsRow base e 3 (.slice A l.length c) l.length (flatS l)) : StAt w.heap.size w A l := by
  have hr := RowsAt.of_own (w := w) (base := base) (e := e) (s := 3) (rs := l.map fun s => [s.1, s.2.1, s.2.2]) (A := A) (c := c) (fun r hr => by
    obtain ⟨s, _, rfl⟩ := List.mem_map.1 hr
    rfl) (by
      rw [List.length_map]
      have : (l.map fun s => [s.1, s.2.1, s.2.2]).flatMap (fun r => r.map (Value.int .i64)) = flatS l := by
        unfold flatS
        rw [List.flatMap_map]
        rfl
      rw [this]
      exact h)
  intro k hk
  obtain ⟨b, off, e1, hb, hc⟩ := hr k (by rw [List.length_map]; exact hk)
  have h0 := hc 0 (by omega)
  have h1 := hc 1 (by omega)
  have h2 := hc 2 (by omega)
  simp only [List.getElem?_map, List.getElem?_eq_getElem hk] at h0 h1 h2
  exact ⟨b, off, e1, hb, h0, h1, h2⟩
/-- A step that names an item; one that names a rule. -/
theorem rg_step1 {b : Bk} (hv : VBk b) {m i q K : Nat} (hm : m < b.its.length) (hi : i ∈ bl (cnS b m)) (hq : q ∈ hasL b i) : rgR b m ((q : Int), (i : Int), -1) K = true := by
  have hlt := cnS_lt hv hm
  have e1 : cnS b m < 18446744073709551616 := Nat.lt_of_lt_of_le hlt (Nat.le_trans (Nat.pow_le_pow_right (by decide) (show m + 1 ≤ 60 by have := hv.ni; omega)) (by decide))
  have hil : i < b.its.length := by have := bl_lt hlt (by have := hv.ni; omega) hi; omega
  have hqp := hasL_lt hv hil q hq
  rw [rg_own (by omega) rfl, show ((i : Int)).toNat = i from rfl, (mem_bl _ e1 i).1 hi, List.getElem?_eq_getElem hil, Option.getD_some, decide_eq_true (show (0 : Int) ≤ (i : Int) by omega), decide_eq_true (show (i : Int) < (b.its.length : Int) by omega)]
  simp only [Bool.and_true, Bool.true_and, List.contains_iff_mem]
  have hin : intL (hasL b i) = b.its[i].2 := by
    have : hasL b i = natL b.its[i].2 := by simp [hasL, hil]
    rw [this]
    exact int_nat fun x hx => (isS_mem (hv.parts i hil).2.2 x hx).1
  rw [← hin]
  exact List.mem_map.2 ⟨q, hq, rfl⟩
theorem rg_step2 {b : Bk} (hv : VBk b) {m i K : Nat} (hi : i < b.rus.length) (h : allB K (natL b.rus[i].1) = true) : rgR b m (b.rus[i].2, -1, (i : Int)) K = true := by
  obtain ⟨_, h1, h2⟩ := ruOk_mem (hv.rules b.rus[i] (List.getElem_mem hi))
  rw [rg_rule (by omega) (by omega), show ((i : Int)).toNat = i from rfl, List.getElem?_eq_getElem hi, Option.getD_some, h, decide_eq_true (show (0 : Int) ≤ (i : Int) by omega), decide_eq_true (show (i : Int) < (b.rus.length : Int) by omega)]
  simp
/-- What Explain returns. -/
def ExR (b : Bk) (item prop : Int) (ok : Bool) (l : List St) : Prop :=
  if akR b item prop = 0 then (∀ x, Lbl b item.toNat x → ok = x.testBit prop.toNat) ∧ (ok = false → l = []) ∧ (ok = true → Gr b item.toNat prop.toNat l ∧ (kS l).testBit prop.toNat = true) else ok = false ∧ l = []
theorem Gr.short {b : Bk} (hv : VBk b) {item prop : Nat} {l : List St} (h : Gr b item prop l) : l.length ≤ 10 := by
  have h1 := h.len
  have h2 := cntB_le (kS l) b.p.toNat
  have := hv.p1
  omega
theorem ExR.bad {b : Bk} {item prop : Int} (h : akR b item prop ≠ 0) : ExR b item prop false [] := by
  rw [ExR, if_neg h]; exact ⟨rfl, rfl⟩
theorem ExR.good {b : Bk} {item prop : Int} (h : akR b item prop = 0) {l : List St} (hg : Gr b item.toNat prop.toNat l) (hc : Cov2 b item.toNat prop.toNat b.p.toNat 0 l) : ExR b item prop ((kS l).testBit prop.toNat) (if (kS l).testBit prop.toNat then l else []) := by
  obtain ⟨h0, hp0, hp1⟩ := ak_zero h
  obtain ⟨hv0, hi0, hi1⟩ := nm_zero h0
  rw [ExR, if_pos h]
  refine ⟨fun x hx => hc.done hg (vl_zero hv0) (by omega) hx (by omega), fun h => by rw [h]; rfl, fun h => ?_⟩
  rw [h, if_pos rfl]
  exact ⟨hg, h⟩
/-- The proof that Explain returns is accepted. -/
theorem ExR.accepted {b : Bk} {item prop : Int} {l : List St} (h : ExR b item prop true l) : cpR b item prop l = 0 := by
  unfold ExR at h
  split at h
  · rename_i h0
    obtain ⟨_, _, h3⟩ := h
    obtain ⟨hg, hb⟩ := h3 rfl
    obtain ⟨hn, hp0, hp1⟩ := ak_zero h0
    obtain ⟨hv0, hi0, hi1⟩ := nm_zero hn
    have hs := hg.short (vl_zero hv0)
    refine cp_good h0 (by omega) hg.prf ?_
    obtain ⟨s, hs1, hs2⟩ := hg.last hb
    have hm := List.mem_of_getLast? hs1
    obtain ⟨i, hi, he⟩ := List.getElem_of_mem hm
    have := rg_prop (hg.prf i hi)
    unfold lastP
    rw [hs1, Option.map_some, Option.getD_some]
    rw [he] at this
    omega
  · exact absurd h.1 (by decide)
end Go.Proofs.YtgoojcjfhghmgaaDoor

/- Explain. -/
set_option linter.unusedSimpArgs false
namespace Go.Proofs.YtgoojcjfhghmgaaDoor
open Go.RowKit

set_option maxRecDepth 100000 in
set_option maxHeartbeats 4000000 in
theorem Explain_any (AI AR : Option Addr) (cI cR B : Nat) (b : Bk) (item prop : Int) (w : World) (hB : B ≤ w.heap.size) (h : ItsAt B w AI b.its) (h' : RusAt B w AR b.rus) (hs : Short b) (hT : Tab w) :
    Calls Tryd.prog 41 #[.agg #[.int .i64 b.p, .slice AI b.its.length cI, .slice AR b.rus.length cR], .int .i64 item, .int .i64 prop] w
      fun e w' => ∃ A c ok l, e = .returned (.tuple #[.slice A (List.length l) c, .bool ok, .int .i64 (akR b item prop)]) ∧ StAt w'.heap.size w' A l ∧ ExR b item prop ok l ∧ Below w.heap.size w w' := by
  obtain ⟨W0, hW0⟩ : ∃ W0, W0 = (w.alloc (.cells #[.int .i64 b.p, .slice AI b.its.length cI, .slice AR b.rus.length cR] 25)).alloc (.cells #[.int .i64 prop] 3) := ⟨_, rfl⟩
  have hw0 : Below w.heap.size w W0 := by rw [hW0]; exact balloc (balloc (Below.refl _ _) _) _
  have hb0 : Blk W0 w.heap.size 25 #[.int .i64 b.p, .slice AI b.its.length cI, .slice AR b.rus.length cR] := by rw [hW0]; exact (Blk.new w 25 _).alloc _
  have hb1 : Blk W0 (w.heap.size + 1) 3 #[.int .i64 prop] := by rw [hW0]; exact blk_new' (by simp only [World.size_alloc])
  have hlt : w.heap.size < W0.heap.size := hb0.lt
  have hlt1 : w.heap.size + 1 < W0.heap.size := hb1.lt
  have h0w := h.below (Below.refl _ _) hB
  have h1w := h'.below (Below.refl _ _) hB
  have hI := h0w.below hw0 (Nat.le_of_lt hlt)
  have hR := h1w.below hw0 (Nat.le_of_lt hlt)
  have hT0 := hT.below hw0 hT.2
  have ca := Lib.hid (asked_any AI AR cI cR W0.heap.size b item prop W0 (Nat.le_refl _) hI hR hs)
  have Hw := Lib.hid hw0
  have HX := Lib.hid (fun W (hW : Below W0.heap.size W0 W) => And.intro (blk3 (hb0.below hW hlt)) (blk1 (hb1.below hW hlt1)))
  have HB0 := Lib.hid hb0
  have HB1 := Lib.hid hb1
  have tok := Lib.hid (Nat.le_refl 0)
  by_cases h0 : akR b item prop = 0
  · obtain ⟨hn0, hp0, hp1⟩ := ak_zero h0
    obtain ⟨hv0, hi0, hi1⟩ := nm_zero hn0
    have hv := vl_zero hv0
    obtain ⟨m, rfl⟩ := Int.eq_ofNat_of_zero_le hi0
    obtain ⟨pn, rfl⟩ := Int.eq_ofNat_of_zero_le hp0
    obtain ⟨n, hn⟩ := Int.eq_ofNat_of_zero_le hv.p0
    have hn10 : n ≤ 10 := by have := hv.p1; omega
    have hpn : pn < n := by omega
    have hm : m < b.its.length := by omega
    have hm1 : ((m : Int)).toNat = m := by omega
    have hm2 : ((pn : Int)).toNat = pn := by omega
    have hpn0 : b.p.toNat = n := by omega
    have hni := hv.ni
    have hnr := hv.nr
    have HEnd := Lib.hid (fun l (hg : Gr b m pn l) (hc : Cov2 b m pn n 0 l) => ExR.good (b := b) (item := (m : Int)) (prop := (pn : Int)) h0 (l := l) hg (by rw [hpn0]; exact hc))
    rw [hm2] at HEnd
    have hcl := cnS_lt hv hm
    have hc60 : cnS b m < 1152921504606846976 := Nat.lt_of_lt_of_le hcl (Nat.le_trans (Nat.pow_le_pow_right (by decide) (show m + 1 ≤ 60 by omega)) (by decide))
    have hbl : (bl (cnS b m)).length ≤ 20 := by have := bl_length hcl (by omega); omega
    have Hbi := Lib.hid (show ∀ i ∈ bl (cnS b m), i < b.its.length from fun i hi2 => by have := bl_lt hcl (by omega) hi2; omega)
    have c68 := Lib.hid (fun W (hW : Below W0.heap.size W0 W) => contained_any AI AR cI cR W0.heap.size b m W hW.size (hI.below hW (Nat.le_refl _)) hv hm)
    have c65 := Lib.hid (fun W (hW : Below W0.heap.size W0 W) => list_any (cnS b m) hc60 W (hT0.below hW hT0.2) (by omega))
    have Rg1 := Lib.hid (fun i q K (hi : i ∈ bl (cnS b m)) (hq : q ∈ hasL b i) => rg_step1 (K := K) hv hm hi hq)
    have Rg2 := Lib.hid (fun i K (hi : i < b.rus.length) h => rg_step2 (m := m) (K := K) hv hi h)
    have Hbs := Lib.hid (show bsTo b (bl (cnS b m)) (bl (cnS b m)).length = bsS b m by simp [bsTo, bsS])
    have Hsn := Lib.hid (fun k (hk : k < (bl (cnS b m)).length) => bsTo_succ b hk)
    have Hbs0 := Lib.hid (show bsTo b (bl (cnS b m)) 0 = 0 by simp [bsTo])
    have Hsh := Lib.hid (fun l (hg : Gr b m pn l) => hg.short hv)
    have Hkl := Lib.hid (fun l (hg : Gr b m pn l) => show kS l < 2 ^ 10 from by
      have h1 := kS_lt' hg.prf
      rw [hpn0] at h1
      exact Nat.lt_of_lt_of_le h1 (Nat.pow_le_pow_right (by decide) hn10))
    have Hhas := Lib.hid (fun i (hil : i < b.its.length) => show ∃ bb off A2 c2, AI = some ⟨bb, off, none⟩ ∧ bb < w.heap.size ∧ w.cell? ⟨bb, off + i * 2 + 1, none⟩ = some (.slice A2 (hasL b i).length c2) ∧ IntsAt w.heap.size w A2 (intL (hasL b i)) ∧ (hasL b i).length ≤ 40 ∧ ∀ x ∈ hasL b i, x < n from by
      obtain ⟨bb, off, A1, c1, A2, c2, e, hbB, _, e1, _, i2⟩ := h0w i hil
      have hpr : hasL b i = natL b.its[i].2 := by simp [hasL, hil]
      have hin : intL (hasL b i) = b.its[i].2 := by rw [hpr]; exact int_nat fun x hx => (isS_mem (hv.parts i hil).2.2 x hx).1
      have hlen : b.its[i].2.length = (hasL b i).length := by rw [hpr, natL_length]
      have h40 := (hs.2.2.1 b.its[i] (List.getElem_mem hil)).2
      have hlt := hasL_lt hv hil
      rw [hpn0] at hlt
      rw [hlen] at e1 h40
      rw [← hin] at i2
      exact ⟨bb, off, A2, c2, e, hbB, e1, i2, h40, hlt⟩)
    have Hrul := Lib.hid (fun i (hil : i < b.rus.length) => show ∃ bb off A1 c1, AR = some ⟨bb, off, none⟩ ∧ bb < w.heap.size ∧ w.cell? ⟨bb, off + i * 2, none⟩ = some (.slice A1 (natL b.rus[i].1).length c1) ∧ w.cell? ⟨bb, off + i * 2 + 1, none⟩ = some (.int .i64 b.rus[i].2) ∧ IntsAt w.heap.size w A1 (intL (natL b.rus[i].1)) ∧ (natL b.rus[i].1).length ≤ 40 ∧ (∀ x ∈ natL b.rus[i].1, x < n) ∧ 0 ≤ b.rus[i].2 ∧ b.rus[i].2 < (n : Int) from by
      obtain ⟨bb, off, A1, c1, e, hbB, e0, e1, i1⟩ := h1w i hil
      obtain ⟨hset, ht0, htp⟩ := ruOk_mem (hv.rules b.rus[i] (List.getElem_mem hil))
      rw [hn] at hset htp
      have hin : intL (natL b.rus[i].1) = b.rus[i].1 := int_nat fun x hx => (isS_mem hset x hx).1
      have hlen : b.rus[i].1.length = (natL b.rus[i].1).length := by rw [natL_length]
      have h40 := hs.2.2.2 b.rus[i] (List.getElem_mem hil)
      rw [hlen] at e0 h40
      rw [← hin] at i1
      exact ⟨bb, off, A1, c1, e, hbB, e0, e1, i1, h40, natL_lt (isS_mem hset), ht0, htp⟩)
    rw [h0] at ca ⊢
    rw [hn] at ca c68 HX HB0 hW0 ⊢
    generalize cnS b m = C at *
    generalize bl C = L at *
    clear h h' h0w h1w hI hR hs hb0 hb1 hw0 h0 hv hi0 hi1 hn0 hv0 hT hT0 hcl hc60 hp0 hp1 hn hm1 hm2
    go_enter Tryd.func41, Tryd.ntmps41
    go_wp2_with (first
      | (have tk := tok; clear tok; go_at_call 85; rw [← hW0]; clear hW0; refine ca.out.mono ?_; rintro e w1 ⟨rfl, hd1⟩; have hb2 := balloc (balloc hd1 (.cells #[.slice none 0 0] 53)) (.cells #[.int .i64 0] 3); obtain ⟨⟨z0, z1, z2, _⟩, y0, _⟩ := HX.out _ hb2; have tok2 := tk)
      | (have tk := tok2; clear tok2; go_at_call 68; refine (c68.out _ hb2).mono ?_; rintro e w2 ⟨rfl, hC, hd2⟩; have hb3 := hb2.trans (hd2.mono hb2.size); have tok3 := tk; clear z0 z1 z2 y0)
      | (have tk := tok3; clear tok3; go_at_call 65; refine (c65.out _ hb3).mono ?_; rintro e w3 ⟨v3, rfl, hown3, hd3⟩; have hb4 := hb3.trans (hd3.mono hb3.size); obtain ⟨A3, c3, rfl⟩ := own_slice hown3))
    have hV3 := hd2.trans (hd3.mono hd2.size)
    obtain ⟨X, hXe⟩ : ∃ X, X = w1.heap.size := ⟨_, rfl⟩
    obtain ⟨lo, hle⟩ : ∃ lo, lo = w3.heap.size := ⟨_, rfl⟩
    have hX1 : w.heap.size + 1 < X := by have := hd1.size; omega
    have hszV : ((w1.alloc (.cells #[.slice none 0 0] 53)).alloc (.cells #[.int .i64 0] 3)).heap.size = X + 2 := by simp only [World.size_alloc]; omega
    have hX2 : X + 2 ≤ w2.heap.size := by have := hd2.size; omega
    have hX3 : w2.heap.size ≤ lo := by have := hd3.size; omega
    have HE0 := Lib.hid (show ExAt X lo [] w3 from ⟨⟨.slice none 0 0, by rw [hXe]; exact ((Blk.new w1 53 #[.slice none 0 0]).alloc (.cells #[.int .i64 0] 3)).below hV3 (by omega), World.ownsRow_nil _ _ _ _⟩, by rw [hXe]; exact (blk_new' (by simp only [World.size_alloc])).below hV3 (by omega)⟩)
    have HO := Lib.hid hown3
    have HF := Lib.hid (fun wr (ht : Two X (X + 1) lo w3 wr) => show wr.cell? ⟨w.heap.size, 0, none⟩ = some (.int .i64 n) ∧ wr.cell? ⟨w.heap.size, 1, none⟩ = some (.slice AI b.its.length cI) ∧ wr.cell? ⟨w.heap.size, 2, none⟩ = some (.slice AR b.rus.length cR) ∧ Blk wr (w.heap.size + 1) 3 #[.int .i64 pn] ∧ Below w.heap.size w wr ∧ lo ≤ wr.heap.size from by
      obtain ⟨⟨z0, z1, z2, _⟩, _⟩ := HX.out w3 hb4
      exact ⟨ht.cell z0 (by omega) (by omega) (by omega), ht.cell z1 (by omega) (by omega) (by omega), ht.cell z2 (by omega) (by omega) (by omega), ht.blk (HB1.out.below hb4 hlt1) (by omega) (by omega) (by omega), (Hw.out.trans (hb4.mono Hw.out.size)).trans (ht.below (by omega) (by omega) (by omega)), by have := ht.size; omega⟩)
    have Hle := Lib.hid hle
    rw [← hXe]
    clear hV3 hszV hXe hle hown3 hb2 hb3 hb4 hd1 hd2 hd3 HX HB0 HB1 ca c68 c65 tk
    go_loopw [32] (fun s32 wr => ∃ (k : Nat) (l : List St), k ≤ L.length ∧ s32 = .int .i64 k ∧ Aside (Gr b m pn l) ∧ Aside (Cov pn l (bsTo b L k)) ∧ Aside (ExAt X lo l wr) ∧ Aside (Two X (X + 1) lo w3 wr)) (fun s32 _ => L.length - (intOf s32).toNat)
    case atStart => exact ⟨0, [], Nat.zero_le _, rfl, Gr.nil _ _ _, by rw [Hbs0.out]; exact Cov.start _ _, HE0.out, Two.refl _ _ _ _⟩
    case round =>
      clear HE0
      obtain ⟨k, l, hk, rfl, hg, hc, he, ht⟩ := hrel
      have HG := Lib.hid hg.out
      have HC := Lib.hid hc.out
      have HE := Lib.hid he.out
      have HT := Lib.hid ht.out
      clear hg hc he ht
      obtain ⟨z0, z1, z2, hbp, hbw, hlw⟩ := HF.out wr HT.out
      by_cases hlt2 : k < L.length
      · obtain ⟨g5, rfl, hg5, hg6, hcell⟩ := own_cell HO.out hlt2 (natV_get hlt2)
        have hil := Hbi.out L[k] (List.getElem_mem hlt2)
        obtain ⟨bb, off, A2, c2, rfl, hbB, e1, i2, h40, hHn⟩ := Hhas.out L[k] hil
        have c5 := HT.out.cell hcell (by have := Hle.out; omega) (by omega) (by omega)
        have d1 := (hbw.cell (p := ⟨bb, off + L[k] * 2 + 1, none⟩) hbB).trans e1
        have Hs := Lib.hid (Hsn.out k hlt2)
        have Rg := Lib.hid (fun q K (hq : q ∈ hasL b L[k]) => Rg1.out L[k] q K (List.getElem_mem hlt2) hq)
        have HI2 := Lib.hid i2
        have HHn := Lib.hid hHn
        generalize hasL b L[k] = H at h40 d1 Hs Rg HI2 HHn
        generalize L[k] = y at hil c5 d1 Rg
        have y0 : (0 : Int) ≤ (y : Int) := by omega
        have y1 : (y : Int) < (b.its.length : Int) := by omega
        clear hcell e1 i2 hHn hbp
        obtain ⟨W1, hW1⟩ : ∃ W1, W1 = wr := ⟨_, rfl⟩
        subst hW1
        go_wp2_with fail
        clear z0 z1 z2 c5 d1
        go_loopw [43] (fun s43 wy => ∃ (j : Nat) (l2 : List St), j ≤ H.length ∧ s43 = .int .i64 j ∧ Aside (Gr b m pn l2) ∧ Aside (Cov pn l2 (bsTo b L k ||| mkTo H j)) ∧ Aside (ExAt X lo l2 wy) ∧ Aside (Two X (X + 1) lo w3 wy)) (fun s43 _ => H.length - (intOf s43).toNat)
        case atStart => exact ⟨0, l, Nat.zero_le _, rfl, HG.out, by rw [mkTo_zero, Nat.or_zero]; exact HC.out, HE.out, HT.out⟩
        case round =>
          clear HG HC HE HT hbw hlw
          obtain ⟨j, l2, hj, rfl, hg, hc, he, ht⟩ := hrel
          have HG := Lib.hid hg.out
          have HC := Lib.hid hc.out
          have HE := Lib.hid he.out
          have HT := Lib.hid ht.out
          clear hg hc he ht
          by_cases hjl : j < H.length
          · obtain ⟨b3, o3, rfl, hb3, c3'⟩ := HI2.out.at (k := j) (by simp [intL]; omega)
            have e3 : (intL H)[j]'(by simp [intL]; omega) = ((H[j] : Nat) : Int) := by simp [intL]
            rw [e3] at c3'
            obtain ⟨_, _, _, hbp, hbw, hlw⟩ := HF.out wr HT.out
            have c4 := (hbw.cell (p := ⟨b3, o3 + j, none⟩) hb3).trans c3'
            have hq := HHn.out H[j] (List.getElem_mem hjl)
            have hsh := Hsh.out l2 HG.out
            have c86 := Lib.hid (add_any (w.heap.size + 1) X lo pn H[j] (y : Int) (-1) l2 wr (by omega) hlw hbp (Hkl.out l2 HG.out) (by omega) (by omega) (by omega) HE.out)
            have HG3 := Lib.hid (HG.out.add (s := (((H[j] : Nat) : Int), (y : Int), -1)) (Rg.out H[j] (kS l2) (List.getElem_mem hjl)))
            have HC3 := Lib.hid (HC.out.add (s := (((H[j] : Nat) : Int), (y : Int), -1)))
            have Hm := Lib.hid (mkTo_succ hjl)
            clear c3' e3 hbp hbw hlw
            generalize H[j] = q at c4 hq c86 HG3 HC3 Hm
            go_wp2_with (go_at_call 86; refine c86.out.mono ?_; rintro e w5 ⟨rfl, he5, ht5⟩)
            go_roundw
            case rel => exact ⟨j + 1, _, by omega, by go_num, HG3.out, by rw [Hm.out, ← Nat.or_assoc]; exact HC3.out, he5, HT.out.trans ht5⟩
            case measure => simp [intOf]; omega
          · obtain rfl : j = H.length := by omega
            go_wp2_with fail
            go_roundw
            case rel => exact ⟨k + 1, l2, by omega, by go_num, HG.out, by rw [Hs.out, ← mkTo_all]; exact HC.out, HE.out, HT.out⟩
            case measure => simp [intOf]; omega
      · obtain rfl : k = L.length := by omega
        have HC0 := Lib.hid (Cov2.start (b := b) (item := m) (l := l) (by rw [← Hbs.out]; exact HC.out))
        clear HC hbp hbw hlw Rg1 Hbi Hhas Hbs Hsn
        go_wp2_with fail
        clear z0 z1 z2
        go_loopw [56] (fun s56 wx => ∃ (j : Nat) (l2 : List St), j ≤ n ∧ s56 = .int .i64 j ∧ Aside (Gr b m pn l2) ∧ Aside (Cov2 b m pn j 0 l2) ∧ Aside (ExAt X lo l2 wx) ∧ Aside (Two X (X + 1) lo w3 wx)) (fun s56 _ => n - (intOf s56).toNat)
        case atStart => exact ⟨0, l, Nat.zero_le _, rfl, HG.out, HC0.out, HE.out, HT.out⟩
        case round =>
          clear HG HC0 HE HT
          obtain ⟨j, l2, hj, rfl, hg, hc, he, ht⟩ := hrel
          have HG := Lib.hid hg.out
          have HC := Lib.hid hc.out
          have HE := Lib.hid he.out
          have HT := Lib.hid ht.out
          clear hg hc he ht
          obtain ⟨z0, z1, z2, hbp, hbw, hlw⟩ := HF.out wr HT.out
          by_cases hjn : j < n
          · obtain ⟨W2, hW2⟩ : ∃ W2, W2 = wr := ⟨_, rfl⟩
            subst hW2
            go_wp2_with fail
            clear z0 z1 z2 hbp hbw hlw
            go_loopw [61] (fun s61 wy => ∃ (i : Nat) (l3 : List St), i ≤ b.rus.length ∧ s61 = .int .i64 i ∧ Aside (Gr b m pn l3) ∧ Aside (Cov2 b m pn j i l3) ∧ Aside (ExAt X lo l3 wy) ∧ Aside (Two X (X + 1) lo w3 wy)) (fun s61 _ => b.rus.length - (intOf s61).toNat)
            case atStart => exact ⟨0, l2, Nat.zero_le _, rfl, HG.out, HC.out, HE.out, HT.out⟩
            case round =>
              clear HG HC HE HT
              obtain ⟨i, l3, hi, rfl, hg, hc, he, ht⟩ := hrel
              have HG := Lib.hid hg.out
              have HC := Lib.hid hc.out
              have HE := Lib.hid he.out
              have HT := Lib.hid ht.out
              clear hg hc he ht
              by_cases hil : i < b.rus.length
              · obtain ⟨_, _, _, hbp, hbw, hlw⟩ := HF.out wr HT.out
                obtain ⟨bb, off, A1, c1, rfl, hbB, e0, e1, i1, h40, hqn, ht0, htp⟩ := Hrul.out i hil
                have d0 := (hbw.cell (p := ⟨bb, off + i * 2, none⟩) hbB).trans e0
                have d1 := (hbw.cell (p := ⟨bb, off + i * 2 + 1, none⟩) hbB).trans e1
                have hmk := mk_lt hqn
                have p10 : (2 : Nat) ^ n ≤ 2 ^ 10 := Nat.pow_le_pow_right (by decide) hn10
                have hkl := Hkl.out l3 HG.out
                have hsh := Hsh.out l3 HG.out
                have ka := andNot_all (l := natL b.rus[i].1) (r := kS l3) (by omega) hkl
                have Hsk := Lib.hid (fun h => HC.out.skip hil h)
                have Hst := Lib.hid (fun (s : St) h1 h2 h => HC.out.step (s := s) hil h1 h2 h)
                have Rg := Lib.hid (Rg2.out i (kS l3) hil)
                obtain ⟨t, hte⟩ := Int.eq_ofNat_of_zero_le ht0
                rw [hte] at d1 htp Rg Hst
                generalize natL b.rus[i].1 = LL at d0 i1 h40 hqn ka Hsk Hst Rg
                obtain ⟨W1, hW1⟩ : ∃ W1, W1 = wr.alloc (.cells #[.slice A1 LL.length c1, .int .i64 t] 42) := ⟨_, rfl⟩
                have hW1t : Two X (X + 1) lo wr W1 := by rw [hW1]; exact Two.of_below ((Below.refl _ wr).alloc (Nat.le_refl _) _) hlw
                have HE1 := Lib.hid (show ExAt X lo l3 W1 from by rw [hW1]; exact HE.out.alloc _)
                have HY1 := Lib.hid (show Blk W1 wr.heap.size 42 #[.slice A1 LL.length c1, .int .i64 t] from by rw [hW1]; exact Blk.new wr 42 _)
                have HT1 := Lib.hid (HT.out.trans hW1t)
                have hbw1 : Below w.heap.size w W1 := hbw.trans (hW1t.below (by omega) (by omega) (by omega))
                have Keep := Lib.hid (fun W (hW : Below W1.heap.size W1 W) => show W.cell? ⟨wr.heap.size, 0, none⟩ = some (.slice A1 LL.length c1) ∧ W.cell? ⟨X + 1, 0, none⟩ = some (.int .i64 (kS l3 : Nat)) ∧ Below W1.heap.size W1 W from
                  ⟨(hW.cell (p := ⟨wr.heap.size, 0, none⟩) HY1.out.lt).trans (HY1.out.cell 0), (hW.cell (p := ⟨X + 1, 0, none⟩) HE1.out.bn.lt).trans (HE1.out.bn.cell 0), hW⟩)
                have c76 := Lib.hid (mask_any A1 c1 w.heap.size LL W1.drew (i1.below hbw1.drew (Nat.le_refl _)) (by omega) (fun x hx => by have := hqn x hx; omega))
                have hbp1 := hW1t.blk hbp (by omega) (by omega) (by omega)
                have hlw1 : lo ≤ W1.heap.size := by have := hW1t.size; omega
                have c86 := Lib.hid (fun W (hE : ExAt X lo l3 W) (hbp2 : Blk W (w.heap.size + 1) 3 #[.int .i64 pn]) (hl2 : lo ≤ W.heap.size) => add_any (w.heap.size + 1) X lo pn t (-1) (i : Int) l3 W (by omega) hl2 hbp2 hkl (by omega) (by omega) (by omega) hE)
                have hS := Keep.out _ (Below.refl W1.heap.size W1).drew
                have HE2 := Lib.hid HE1.out.drew
                have HP2 := Lib.hid hbp1.drew
                have HGa := Lib.hid (fun h => HG.out.add (s := ((t : Int), -1, (i : Int))) h)
                have k0 : (0 : Int) ≤ (i : Int) := by omega
                have k1 : (i : Int) < (b.rus.length : Int) := by omega
                have htn : t < n := by omega
                have HL2 := Lib.hid (show lo ≤ W1.drew.heap.size from hlw1)
                have HT2 := Lib.hid HT1.out.drew
                have x1' : W1.drew.cell? ⟨wr.heap.size, 1, none⟩ = some (.int .i64 t) := HY1.out.cell 1
                clear e0 e1 i1 hqn hmk p10 hkl ht0 hte htp hW1t hbw1 hbp1 hlw1 Keep hbp hbw hlw HC
                generalize hal : allB (kS l3) LL = al at ka Hsk Hst Rg
                go_wp2_with fail
                rw [← hW1]
                clear hW1
                refine wp_region_E (S := fun W => W.cell? ⟨wr.heap.size, 0, none⟩ = some (.slice A1 LL.length c1) ∧ W.cell? ⟨X + 1, 0, none⟩ = some (.int .i64 (kS l3 : Nat)) ∧ Below W1.heap.size W1 W) (E := fun _ => false) (by kernel_rfl) ?_
                refine anyE_tk 0 66 (oi := ?oi1) (v := ?v1) ?hi1 ?hd1 (by kernel_rfl) (by kernel_rfl) (by kernel_rfl) ?hQ1 ?hy1 hS ?rest1
                case hi1 => simp only [List.getElem?_toArray, List.getElem?_cons_zero, List.getElem?_cons_succ]; rfl
                case hd1 => rfl
                case hQ1 => exact fun _ _ _ h => h
                case hy1 => (refine Or.inl ⟨by rfl, ?_⟩; intro w hSw; (try dsimp only at hSw); go_simp; try with_reducible rfl)
                simp only [List.setIfInBounds_toArray, List.set_cons_zero, List.set_cons_succ]
                refine anyE_tk 1 67 (oi := ?oi2) (v := ?v2) ?hi2 ?hd2 (by kernel_rfl) (by kernel_rfl) (by kernel_rfl) ?hQ2 ?hy2 hS ?rest2
                case hi2 => simp only [List.getElem?_toArray, List.getElem?_cons_zero, List.getElem?_cons_succ]; rfl
                case hd2 => rfl
                case hQ2 => exact fun _ _ _ h => h
                case hy2 => (refine Or.inl ⟨by rfl, ?_⟩; intro w hSw; (try dsimp only at hSw); go_simp; try with_reducible rfl)
                simp only [List.setIfInBounds_toArray, List.set_cons_zero, List.set_cons_succ]
                refine anyE_tk 3 69 (oi := ?oi3) (v := ?v3) ?hi3 ?hd3 (by kernel_rfl) (by kernel_rfl) (by kernel_rfl) ?hQ3 ?hy3 hS ?rest3
                case hi3 => simp only [List.getElem?_toArray, List.getElem?_cons_zero, List.getElem?_cons_succ]; rfl
                case hd3 => rfl
                case hQ3 => exact fun _ _ _ h => h
                case hy3 => (refine Or.inl ⟨by rfl, ?_⟩; intro w hSw; (try dsimp only at hSw); go_simp; try with_reducible rfl)
                simp only [List.setIfInBounds_toArray, List.set_cons_zero, List.set_cons_succ]
                refine anyE_one (i := 2) (o := ?oi4) (by kernel_rfl) ?hi4 (fun K hK => ?step4)
                case hi4 => simp only [List.getElem?_toArray, List.getElem?_cons_zero, List.getElem?_cons_succ]; rfl
                go_simp
                refine c76.out.mono ?_
                rintro e w6 ⟨rfl, rfl⟩
                go_wp2_with fail
                refine hK.out _ _ (fun _ => hS) ?_
                clear hK K
                try simp only [Act.put, List.setIfInBounds_toArray, List.set_cons_zero, List.set_cons_succ]
                refine anyE_tk 4 70 (oi := ?oi5) (v := ?v5) ?hi5 ?hd5 (by kernel_rfl) (by kernel_rfl) (by kernel_rfl) ?hQ5 ?hy5 hS ?rest5
                case hi5 => simp only [List.getElem?_toArray, List.getElem?_cons_zero, List.getElem?_cons_succ]; rfl
                case hd5 => rfl
                case hQ5 => exact fun _ _ _ h => h
                case hy5 => (refine Or.inl ⟨by rfl, ?_⟩; intro w hSw; (try dsimp only at hSw); go_simp; try with_reducible rfl)
                simp only [List.setIfInBounds_toArray, List.set_cons_zero, List.set_cons_succ]
                refine anyE_tk 5 71 (oi := ?oi6) (v := ?v6) ?hi6 ?hd6 (by kernel_rfl) (by kernel_rfl) (by kernel_rfl) ?hQ6 ?hy6 hS ?rest6
                case hi6 => simp only [List.getElem?_toArray, List.getElem?_cons_zero, List.getElem?_cons_succ]; rfl
                case hd6 => rfl
                case hQ6 => exact fun _ _ _ h => h
                case hy6 => (refine Or.inl ⟨by rfl, ?_⟩; intro w hSw; (try dsimp only at hSw); go_simp; try with_reducible rfl)
                simp only [List.setIfInBounds_toArray, List.set_cons_zero, List.set_cons_succ]
                refine anyE_done (by kernel_rfl) ?_ _
                cases al with
                | false =>
                  have HCs := Lib.hid (Hsk.out rfl)
                  go_wp2_with fail
                  go_roundw
                  case rel => exact ⟨i + 1, l3, by omega, by go_num, HG.out, HCs.out, HE2.out, HT2.out⟩
                  case measure => simp [intOf]; omega
                | true =>
                  have HG3 := Lib.hid (HGa.out (Rg.out rfl))
                  have HC3 := Lib.hid (Hst.out ((t : Int), -1, (i : Int)) rfl (show t < b.p.toNat by rw [hpn0]; exact htn) rfl)
                  go_wp2_with (go_at_call 86; refine (c86.out _ HE2.out HP2.out HL2.out).mono ?_; rintro e w7 ⟨rfl, he7, ht7⟩)
                  go_roundw
                  case rel => exact ⟨i + 1, _, by omega, by go_num, HG3.out, HC3.out, he7, HT2.out.trans ht7⟩
                  case measure => simp [intOf]; omega
              · obtain rfl : i = b.rus.length := by omega
                have HCn := Lib.hid HC.out.next
                go_wp2_with fail
                go_roundw
                case rel => exact ⟨j + 1, l3, by omega, by go_num, HG.out, HCn.out, HE.out, HT.out⟩
                case measure => simp [intOf]; omega
          · obtain rfl : j = n := by omega
            have HX2 := Lib.hid (HEnd.out l2 HG.out HC.out)
            obtain ⟨⟨v, hbv, hown⟩, hbn⟩ := HE.out
            obtain ⟨A9, c9, rfl⟩ := own_slice hown
            have HS9 := Lib.hid (StAt.of_own hown)
            have Hbw := Lib.hid hbw
            obtain ⟨u0, _⟩ := blk1 hbn
            obtain ⟨u1, _⟩ := blk1 hbp
            obtain ⟨u2, _⟩ := blk1 hbv
            have hK60 : kS l2 < 2 ^ 60 := Nat.lt_of_lt_of_le (Hkl.out l2 HG.out) (by decide)
            have hm1 : min pn 64 = pn := by omega
            have kk := bit_test hK60 (i := pn)
            cases hbt : (kS l2).testBit pn with
            | false =>
              rw [hbt] at HX2 kk
              simp only [Bool.false_eq_true, if_false] at kk HX2
              clear hown hbv hbn hbw
              go_wp2_with fail
              refine bodyPost_ret (results_tmp3 rfl _ _ _) rfl ?_
              exact ⟨none, 0, false, [], rfl, fun k hk => absurd hk (Nat.not_lt_zero k), HX2.out, Hbw.out⟩
            | true =>
              rw [hbt] at HX2 kk
              simp only [if_true] at kk HX2
              clear hown hbv hbn hbw
              go_wp2_with fail
              refine bodyPost_ret (results_tmp3 rfl _ _ _) rfl ?_
              exact ⟨A9, c9, true, l2, rfl, HS9.out, HX2.out, Hbw.out⟩
  · have h0d : (akR b item prop == 0) = false := by simpa using h0
    have h0e : (akR b item prop != 0) = true := by simpa using h0
    have HR := Lib.hid (ExR.bad h0)
    generalize akR b item prop = e0 at *
    clear h h' h0w h1w hI hR hs hb0 hb1 hw0 hT hT0 HB0 HB1 h0
    go_enter Tryd.func41, Tryd.ntmps41
    go_wp2_with (go_at_call 85; rw [← hW0]; clear hW0; refine ca.out.mono ?_; rintro e w1 ⟨rfl, hd1⟩)
    refine bodyPost_ret (results_tmp3 rfl _ _ _) rfl ?_
    exact ⟨none, 0, false, [], rfl, fun k hk => absurd hk (Nat.not_lt_zero k), HR.out, Hw.out.trans (hd1.mono Hw.out.size)⟩
end Go.Proofs.YtgoojcjfhghmgaaDoor

/- Provable. -/
set_option linter.unusedSimpArgs false
namespace Go.Proofs.YtgoojcjfhghmgaaDoor
open Go.RowKit

def PvR (b : Bk) (item prop : Int) (ok : Bool) : Prop := if akR b item prop = 0 then ∃ x, Lbl b item.toNat x ∧ ok = x.testBit prop.toNat else ok = false

set_option maxRecDepth 100000 in
set_option maxHeartbeats 4000000 in
theorem Provable_ref (AI AR : Option Addr) (cI cR B : Nat) (b : Bk) (item prop : Int) (w : World) (hB : B ≤ w.heap.size) (h : ItsAt B w AI b.its) (h' : RusAt B w AR b.rus) (hs : Short b) :
    Calls Tryd.prog 42 #[.agg #[.int .i64 b.p, .slice AI b.its.length cI, .slice AR b.rus.length cR], .int .i64 item, .int .i64 prop] w fun e w' => ∃ ok, e = .returned (.tuple #[.bool ok, .int .i64 (akR b item prop)]) ∧ PvR b item prop ok ∧ Below w.heap.size w w' := by
  obtain ⟨W0, hW0⟩ : ∃ W0, W0 = w.alloc (.cells #[.int .i64 b.p, .slice AI b.its.length cI, .slice AR b.rus.length cR] 25) := ⟨_, rfl⟩
  have hw0 : Below w.heap.size w W0 := by rw [hW0]; exact balloc (Below.refl _ _) _
  have hb0 : Blk W0 w.heap.size 25 #[.int .i64 b.p, .slice AI b.its.length cI, .slice AR b.rus.length cR] := by rw [hW0]; exact Blk.new w 25 _
  have hlt : w.heap.size < W0.heap.size := hb0.lt
  have hI := (h.below (Below.refl _ _) hB).below hw0 (Nat.le_of_lt hlt)
  have hR := (h'.below (Below.refl _ _) hB).below hw0 (Nat.le_of_lt hlt)
  have ca := Lib.hid (asked_ref AI AR cI cR W0.heap.size b item prop W0 (Nat.le_refl _) hI hR hs)
  have Hw := Lib.hid hw0
  have HX := Lib.hid (fun W (hW : Below W0.heap.size W0 W) => blk3 (hb0.below hW hlt))
  have tok := Lib.hid (Nat.le_refl 0)
  by_cases h0 : akR b item prop = 0
  · obtain ⟨hn0, hp0, hp1⟩ := ak_zero h0
    obtain ⟨hv0, hi0, hi1⟩ := nm_zero hn0
    have hv := vl_zero hv0
    have Hn := Lib.hid (fun ok x (h1 : Lbl b item.toNat x) (h2 : ok = x.testBit prop.toNat) => show PvR b item prop ok by rw [PvR, if_pos h0]; exact ⟨x, h1, h2⟩)
    obtain ⟨m, rfl⟩ := Int.eq_ofNat_of_zero_le hi0
    obtain ⟨pn, rfl⟩ := Int.eq_ofNat_of_zero_le hp0
    obtain ⟨n, hn⟩ := Int.eq_ofNat_of_zero_le hv.p0
    have hn10 : n ≤ 10 := by have := hv.p1; omega
    have hpn : pn < n := by omega
    have hm : m < b.its.length := by omega
    have hpn0 : b.p.toNat = n := by omega
    have c1 := fun W (hW : Below W0.heap.size W0 W) => base_ref AI AR cI cR W0.heap.size b m W hW.size (hI.below hW (Nat.le_refl _)) hs hv hm
    rw [hpn0, hn] at c1
    have cm := Lib.hid c1
    have hbl := bsS_lt hv hm
    rw [hpn0] at hbl
    have cc := Lib.hid (fun g0 W (hW : Below W0.heap.size W0 W) (hbr : BR g0 n (bsS b m) W) => closed_ref AR cR W0.heap.size g0 n n (bsS b m) b.rus W hW.size (hR.below hW (Nat.le_refl _)) hbr hs.2.1 hs.2.2.2 (fun x hx => by have := hv.rules x hx; rwa [hn] at this) (by omega) hbl)
    have Hl := Lib.hid (fun x (h1 : Cl b.rus (bsS b m) allW x) (h2 : x < 2 ^ n) => show Lbl b ((m : Int)).toNat x from ⟨h1, by rw [hpn0]; exact h2⟩)
    rw [h0] at ca ⊢
    rw [hn] at ca HX hW0 ⊢
    generalize bsS b m = bs at *
    have p0 : (0 : Int) ≤ (pn : Int) := by omega
    have p1 : (pn : Int) < (n : Int) := by omega
    clear h h' hI hR hs hb0 hw0 h0 hv hi0 hi1 hn0 hv0 hp0 hp1 c1 hbl
    go_enter Tryd.func42, Tryd.ntmps42
    go_wp2_with (have tk := tok; clear tok; go_at_call 87; rw [← hW0]; clear hW0; refine ca.out.mono ?_; rintro e w1 ⟨rfl, hd1⟩; have tok2 := tk)
    have Keep := Lib.hid (fun W (hW : Below W0.heap.size W0 W) => show W.cell? ⟨w.heap.size, 0, none⟩ = some (.int .i64 n) ∧ W.cell? ⟨w.heap.size, 1, none⟩ = some (.slice AI b.its.length cI) ∧ W.cell? ⟨w.heap.size, 2, none⟩ = some (.slice AR b.rus.length cR) ∧ Below W0.heap.size W0 W from by
      obtain ⟨z0, z1, z2, _⟩ := HX.out W hW
      exact ⟨z0, z1, z2, hW⟩)
    have hS := Keep.out _ hd1.drew
    refine wp_region_E (S := fun W => W.cell? ⟨w.heap.size, 0, none⟩ = some (.int .i64 n) ∧ W.cell? ⟨w.heap.size, 1, none⟩ = some (.slice AI b.its.length cI) ∧ W.cell? ⟨w.heap.size, 2, none⟩ = some (.slice AR b.rus.length cR) ∧ Below W0.heap.size W0 W) (E := fun _ => false) (by kernel_rfl) ?_
    refine anyE_tk 0 16 (oi := ?oi1) (v := ?v1) ?hi1 ?hd1 (by kernel_rfl) (by kernel_rfl) (by kernel_rfl) ?hQ1 ?hy1 hS ?rest1
    case hi1 => simp only [List.getElem?_toArray, List.getElem?_cons_zero, List.getElem?_cons_succ]; rfl
    case hd1 => rfl
    case hQ1 => exact fun _ _ _ h => h
    case hy1 => (refine Or.inl ⟨by rfl, ?_⟩; intro w hSw; (try dsimp only at hSw); go_simp; try with_reducible rfl)
    simp only [List.setIfInBounds_toArray, List.set_cons_zero, List.set_cons_succ]
    refine anyE_tk 1 17 (oi := ?oi2) (v := ?v2) ?hi2 ?hd2 (by kernel_rfl) (by kernel_rfl) (by kernel_rfl) ?hQ2 ?hy2 hS ?rest2
    case hi2 => simp only [List.getElem?_toArray, List.getElem?_cons_zero, List.getElem?_cons_succ]; rfl
    case hd2 => rfl
    case hQ2 => exact fun _ _ _ h => h
    case hy2 => (refine Or.inl ⟨by rfl, ?_⟩; intro w hSw; (try dsimp only at hSw); go_simp; try with_reducible rfl)
    simp only [List.setIfInBounds_toArray, List.set_cons_zero, List.set_cons_succ]
    refine anyE_tk 2 18 (oi := ?oi3) (v := ?v3) ?hi3 ?hd3 (by kernel_rfl) (by kernel_rfl) (by kernel_rfl) ?hQ3 ?hy3 hS ?rest3
    case hi3 => simp only [List.getElem?_toArray, List.getElem?_cons_zero, List.getElem?_cons_succ]; rfl
    case hd3 => rfl
    case hQ3 => exact fun _ _ _ h => h
    case hy3 => (refine Or.inl ⟨by rfl, ?_⟩; intro w hSw; (try dsimp only at hSw); go_simp; try with_reducible rfl)
    simp only [List.setIfInBounds_toArray, List.set_cons_zero, List.set_cons_succ]
    refine anyE_tk 3 19 (oi := ?oi4) (v := ?v4) ?hi4 ?hd4 (by kernel_rfl) (by kernel_rfl) (by kernel_rfl) ?hQ4 ?hy4 hS ?rest4
    case hi4 => simp only [List.getElem?_toArray, List.getElem?_cons_zero, List.getElem?_cons_succ]; rfl
    case hd4 => rfl
    case hQ4 => exact fun _ _ _ h => h
    case hy4 => (refine Or.inl ⟨by rfl, ?_⟩; intro w hSw; (try dsimp only at hSw); go_simp; try with_reducible rfl)
    simp only [List.setIfInBounds_toArray, List.set_cons_zero, List.set_cons_succ]
    refine anyE_tk 6 22 (oi := ?oi5) (v := ?v5) ?hi5 ?hd5 (by kernel_rfl) (by kernel_rfl) (by kernel_rfl) ?hQ5 ?hy5 hS ?rest5
    case hi5 => simp only [List.getElem?_toArray, List.getElem?_cons_zero, List.getElem?_cons_succ]; rfl
    case hd5 => rfl
    case hQ5 => exact fun _ _ _ h => h
    case hy5 => (refine Or.inl ⟨by rfl, ?_⟩; intro w hSw; (try dsimp only at hSw); go_simp; try with_reducible rfl)
    simp only [List.setIfInBounds_toArray, List.set_cons_zero, List.set_cons_succ]
    refine anyE_one (i := 4) (o := ?oi6) (by kernel_rfl) ?hi6 (fun K hK => ?step6)
    case hi6 => simp only [List.getElem?_toArray, List.getElem?_cons_zero, List.getElem?_cons_succ]; rfl
    go_simp
    refine (cm.out _ hd1.drew).mono ?_
    rintro e w5 ⟨rfl, hbb5, hd5⟩
    have hb5 : Below W0.heap.size W0 w5 := hd1.drew.trans (hd5.mono hd1.drew.size)
    go_wp2_with fail
    have hS5 := Keep.out _ hb5
    refine hK.out _ _ (fun _ => hS5) ?_
    clear hK K hS
    try simp only [Act.put, List.setIfInBounds_toArray, List.set_cons_zero, List.set_cons_succ]
    refine anyE_one (i := 5) (o := ?oi7) (by kernel_rfl) ?hi7 (fun K hK => ?step7)
    case hi7 => simp only [List.getElem?_toArray, List.getElem?_cons_zero, List.getElem?_cons_succ]; rfl
    go_simp
    refine (cc.out _ _ hb5 hbb5.br).mono ?_
    rintro e w6 ⟨g6, k6, x, rfl, hcl, hxl, hbb6, hg6, hd6⟩
    have hb6 : Below W0.heap.size W0 w6 := hb5.trans (hd6.mono hb5.size)
    go_wp2_with fail
    refine hK.out _ _ (fun _ => Keep.out _ hb6) ?_
    clear hK K hS5
    try simp only [Act.put, List.setIfInBounds_toArray, List.set_cons_zero, List.set_cons_succ]
    refine anyE_more (fun W => W.cell? ⟨g6, pn, none⟩ = some (.bool (x.testBit pn))) ?_
    have hS := And.intro (Keep.out _ hb6) (hbb6.cell hpn)
    refine anyE_tk 7 23 (oi := ?oi8) (v := ?v8) ?hi8 ?hd8 (by kernel_rfl) (by kernel_rfl) (by kernel_rfl) ?hQ8 ?hy8 hS ?rest8
    case hi8 => simp only [List.getElem?_toArray, List.getElem?_cons_zero, List.getElem?_cons_succ]; rfl
    case hd8 => rfl
    case hQ8 => exact fun _ _ _ h => h
    case hy8 => (refine Or.inl ⟨by rfl, ?_⟩; intro w hSw; (try dsimp only at hSw); go_simp; try with_reducible rfl)
    simp only [List.setIfInBounds_toArray, List.set_cons_zero, List.set_cons_succ]
    refine anyE_tk 8 24 (oi := ?oi9) (v := ?v9) ?hi9 ?hd9 (by kernel_rfl) (by kernel_rfl) (by kernel_rfl) ?hQ9 ?hy9 hS ?rest9
    case hi9 => simp only [List.getElem?_toArray, List.getElem?_cons_zero, List.getElem?_cons_succ]; rfl
    case hd9 => rfl
    case hQ9 => exact fun _ _ _ h => h
    case hy9 => (refine Or.inl ⟨by rfl, ?_⟩; intro w hSw; (try dsimp only at hSw); go_simp; try with_reducible rfl)
    simp only [List.setIfInBounds_toArray, List.set_cons_zero, List.set_cons_succ]
    refine anyE_tk 9 6 (oi := ?oi10) (v := ?v10) ?hi10 ?hd10 (by kernel_rfl) (by kernel_rfl) (by kernel_rfl) ?hQ10 ?hy10 hS ?rest10
    case hi10 => simp only [List.getElem?_toArray, List.getElem?_cons_zero, List.getElem?_cons_succ]; rfl
    case hd10 => rfl
    case hQ10 => exact fun _ _ _ h => h
    case hy10 => (refine Or.inl ⟨by rfl, ?_⟩; intro w hSw; (try dsimp only at hSw); go_simp; try with_reducible rfl)
    simp only [List.setIfInBounds_toArray, List.set_cons_zero, List.set_cons_succ]
    refine anyE_tk 10 7 (oi := ?oi11) (v := ?v11) ?hi11 ?hd11 (by kernel_rfl) (by kernel_rfl) (by kernel_rfl) ?hQ11 ?hy11 hS ?rest11
    case hi11 => simp only [List.getElem?_toArray, List.getElem?_cons_zero, List.getElem?_cons_succ]; rfl
    case hd11 => rfl
    case hQ11 => exact fun _ _ _ h => h
    case hy11 => (refine Or.inl ⟨by rfl, ?_⟩; intro w hSw; (try dsimp only at hSw); go_simp; try with_reducible rfl)
    simp only [List.setIfInBounds_toArray, List.set_cons_zero, List.set_cons_succ]
    refine anyE_done (by kernel_rfl) ?_ _
    go_wp2_with fail
    go_ret2
    exact ⟨_, rfl, Hn.out _ x (Hl.out x hcl hxl) rfl, Hw.out.trans (hb6.mono Hw.out.size)⟩
  · have Hn := Lib.hid (show PvR b item prop false by rw [PvR, if_neg h0])
    have h0d : (akR b item prop == 0) = false := by simpa using h0
    have h0e : (akR b item prop != 0) = true := by simpa using h0
    generalize akR b item prop = e0 at *
    clear h h' hI hR hs hb0 hw0 hB h0
    go_enter Tryd.func42, Tryd.ntmps42
    go_wp2_with (go_at_call 87; rw [← hW0]; clear hW0; refine ca.out.mono ?_; rintro e w1 ⟨rfl, hd1⟩)
    go_ret2
    exact ⟨_, rfl, Hn.out, Hw.out.trans (hd1.mono Hw.out.size)⟩
end Go.Proofs.YtgoojcjfhghmgaaDoor

/- The law of proofs that are found. -/
namespace Go.Proofs.YtgoojcjfhghmgaaDoor
open Go.RowKit

theorem ExR.same {b : Bk} {item prop : Int} {ok is : Bool} {l : List St} (h : ExR b item prop ok l) (h' : PvR b item prop is) : ok = is := by
  unfold ExR at h
  unfold PvR at h'
  split at h
  · rename_i h0
    rw [if_pos h0] at h'
    obtain ⟨x, hx, rfl⟩ := h'
    exact h.1 x hx
  · rename_i h0
    rw [if_neg h0] at h'
    rw [h.1, h']
theorem ExR.none {b : Bk} {item prop : Int} {l : List St} (h : ExR b item prop false l) : l = [] := by
  unfold ExR at h
  split at h
  · exact h.2.1 rfl
  · exact h.2

set_option maxRecDepth 100000 in
set_option maxHeartbeats 4000000 in
theorem law_explains (AI AR : Option Addr) (cI cR : Nat) (b : Bk) (item prop : Int) (w : World) (h : ItsAt w.heap.size w AI b.its) (h' : RusAt w.heap.size w AR b.rus) (hT : Tab w) :
    Calls Tryd.prog 9 #[.agg #[.int .i64 b.p, .slice AI b.its.length cI, .slice AR b.rus.length cR], .agg #[.int .i64 item, .int .i64 prop]] w fun e w' => e = .returned (.bool true) ∧ Below w.heap.size w w' := by
  obtain ⟨W0, hW0⟩ : ∃ W0, W0 = (w.alloc (.cells #[.int .i64 b.p, .slice AI b.its.length cI, .slice AR b.rus.length cR] 25)).alloc (.cells #[.int .i64 item, .int .i64 prop] 52) := ⟨_, rfl⟩
  have hw0 : Below w.heap.size w W0 := by rw [hW0]; exact balloc (balloc (Below.refl _ _) _) _
  have hb0 : Blk W0 w.heap.size 25 #[.int .i64 b.p, .slice AI b.its.length cI, .slice AR b.rus.length cR] := by rw [hW0]; exact (Blk.new w 25 _).alloc _
  have hb1 : Blk W0 (w.heap.size + 1) 52 #[.int .i64 item, .int .i64 prop] := by rw [hW0]; exact blk_new' (by simp only [World.size_alloc])
  have hlt : w.heap.size < W0.heap.size := hb0.lt
  have hI := h.below hw0 (Nat.le_of_lt hlt)
  have hR := h'.below hw0 (Nat.le_of_lt hlt)
  have hT0 := hT.below hw0 hT.2
  have clg := Lib.hid (Long_any AI AR cI cR _ b W0 (Nat.le_refl _) hI hR)
  have ck := Lib.hid (fun W (hW : Below W0.heap.size W0 W) => known_any W (hT0.below hW hT0.2))
  have Hw := Lib.hid hw0
  have HX := Lib.hid (fun W (hW : Below W0.heap.size W0 W) => And.intro (blk3 (hb0.below hW hlt)) (blk2 (hb1.below hW hb1.lt)))
  have tok := Lib.hid (Nat.le_refl 0)
  cases hlg : lgR b with
  | true =>
    rw [hlg] at clg
    clear h h' hI hR hT hT0 hb0 hb1 hw0 hlg
    go_enter Tryd.func9, Tryd.ntmps9
    go_wp2_with (first
      | (have tk := tok; clear tok; go_at_call 17; rw [← hW0]; clear hW0; refine clg.out.mono ?_; rintro e w1 ⟨rfl, hd1⟩; have tok2 := tk; obtain ⟨⟨z0, z1, z2, _⟩, y0, y1, _⟩ := HX.out _ hd1)
      | (have tk := tok2; clear tok2; go_at_call 18; refine (ck.out _ hd1).mono ?_; rintro e w2 ⟨rfl, hd2⟩; have hb2 := hd1.trans (hd2.mono hd1.size)))
    go_ret
    exact ⟨rfl, Hw.out.trans (hb2.mono Hw.out.size)⟩
  | false =>
    rw [hlg] at clg
    have hs := lg_short hlg
    have c1 := Lib.hid (fun W (hW : Below W0.heap.size W0 W) => Explain_any AI AR cI cR W0.heap.size b item prop W hW.size (hI.below hW (Nat.le_refl _)) (hR.below hW (Nat.le_refl _)) hs (hT0.below hW hT0.2))
    have c2 := Lib.hid (fun W (hW : Below W0.heap.size W0 W) => Provable_ref AI AR cI cR W0.heap.size b item prop W hW.size (hI.below hW (Nat.le_refl _)) (hR.below hW (Nat.le_refl _)) hs)
    have c3 := Lib.hid (fun A c l W (hW : Below W0.heap.size W0 W) (hL : StAt W.heap.size W A l) => CheckProof_ref AI AR A cI cR c W.heap.size b item prop l W (Nat.le_refl _) (hI.below hW hW.size) (hR.below hW hW.size) hL hs)
    generalize akR b item prop = e0 at c1 c2
    clear h h' hI hR hT hT0 hb0 hb1 hw0 hlg hs
    go_enter Tryd.func9, Tryd.ntmps9
    go_wp2_with (first
      | (have tk := tok; clear tok; go_at_call 17; rw [← hW0]; clear hW0; refine clg.out.mono ?_; rintro e w1 ⟨rfl, hd1⟩; have tok2 := tk; obtain ⟨⟨z0, z1, z2, _⟩, y0, y1, _⟩ := HX.out _ hd1)
      | (have tk := tok2; clear tok2; go_at_call 41; refine (c1.out _ hd1).mono ?_; rintro e w2 ⟨A2, k2, ok, l, rfl, hL2, hE2, hd⟩; have hb2 := hd1.trans (hd.mono hd1.size); have HL2 := Lib.hid hL2; have HE2 := Lib.hid hE2; have tok3 := tk; clear hd hL2 hE2 z0 z1 z2 y0 y1; obtain ⟨⟨z0, z1, z2, _⟩, y0, y1, _⟩ := HX.out _ hb2))
    refine (c2.out _ hb2).mono ?_
    rintro e w3 ⟨is, rfl, hP3, hd⟩
    have hb3 := hb2.trans (hd.mono hb2.size)
    have HL3 := Lib.hid (HL2.out.below hd hd.size)
    obtain rfl := HE2.out.same hP3
    clear hd hP3 z0 z1 z2 y0 y1 HL2
    obtain ⟨⟨z0, z1, z2, _⟩, y0, y1, _⟩ := HX.out _ hb3
    cases ok with
    | false =>
      obtain rfl := HE2.out.none
      go_wp2_with (go_at_call 18; refine (ck.out _ hb3).mono ?_; rintro e w6 ⟨rfl, hd2⟩; have hb6 := hb3.trans (hd2.mono hb3.size))
      go_ret
      exact ⟨rfl, Hw.out.trans (hb6.mono Hw.out.size)⟩
    | true =>
      have c4 := c3.out A2 k2 l w3 hb3 HL3.out
      rw [HE2.out.accepted] at c4
      have C4 := Lib.hid c4
      clear c4 c3
      go_wp2_with (first
        | (have tk := tok3; clear tok3; go_at_call 43; refine C4.out.mono ?_; rintro e w4 ⟨rfl, hd⟩; have hb4 := hb3.trans (hd.mono hb3.size); have tok4 := tk)
        | (have tk := tok4; clear tok4; go_at_call 18; refine (ck.out _ hb4).mono ?_; rintro e w6 ⟨rfl, hd2⟩; have hb6 := hb4.trans (hd2.mono hb4.size)))
      go_ret
      exact ⟨rfl, Hw.out.trans (hb6.mono Hw.out.size)⟩
end Go.Proofs.YtgoojcjfhghmgaaDoor
