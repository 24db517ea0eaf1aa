/- The law of the fewest exchanges: plain. -/
import Derived.Test.YtgoojcjfhghmgaaDoorDisEe
import Derived.Test.YtgoojcjfhghmgaaDoorDisHc
import Derived.Test.YtgoojcjfhghmgaaDoorDisIa
import Derived.Test.YtgoojcjfhghmgaaDoorU2
import Derived.Test.YtgoojcjfhghmgaaDoorU1

set_option linter.unusedSimpArgs false
namespace Go.Proofs.YtgoojcjfhghmgaaDoor
open Go.RowKit

theorem IntsN.imp {N N' : Nat → Prop} {B : Nat} {w : World} {A : Option Addr} {zs : List Int} (h : IntsN N B w A zs) (hN : ∀ x, N x → N' x) : IntsN N' B w A zs := fun j hj => by
  obtain ⟨b, off, e, hn, hb, hc⟩ := h j hj
  exact ⟨b, off, e, hN b hn, hb, hc⟩
theorem RusN.imp {N N' : Nat → Prop} {w : World} {A : Option Addr} {l : List Ru} (h : RusN N w A l) (hN : ∀ x, N x → N' x) : RusN N' w A l := fun k hk => by
  obtain ⟨b, off, A1, c1, e, hn, h1, h2, h3, h4⟩ := h k hk
  exact ⟨b, off, A1, c1, e, hN b hn, h1, h2, h3, h4.imp hN⟩
end Go.Proofs.YtgoojcjfhghmgaaDoor


set_option linter.unusedSimpArgs false
set_option linter.unusedVariables false
namespace Go.Proofs.YtgoojcjfhghmgaaDoor
open Go Go.RowKit

theorem IntsN.below {N : Nat → Prop} {w w' : World} {A : Option Addr} {zs : List Int} (h : IntsN N w.heap.size w A zs) (hb : Below w.heap.size w w') : IntsN N w'.heap.size w' A zs := fun j hj => by
  obtain ⟨b, off, e, hn, hlt, hc⟩ := h j hj
  exact ⟨b, off, e, hn, Nat.lt_of_lt_of_le hlt hb.size, (hb.cell (p := ⟨b, off + j, none⟩) hlt).trans hc⟩
theorem RusN.below {N : Nat → Prop} {w w' : World} {A : Option Addr} {l : List Ru} (h : RusN N w A l) (hb : Below w.heap.size w w') : RusN N w' A l := fun k hk => by
  obtain ⟨b, off, A1, c1, e, hn, h1, h2, h3, h4⟩ := h k hk
  exact ⟨b, off, A1, c1, e, hn, Nat.lt_of_lt_of_le h1 hb.size, (hb.cell (p := ⟨b, off + k * 2, none⟩) h1).trans h2, (hb.cell (p := ⟨b, off + k * 2 + 1, none⟩) h1).trans h3, h4.below hb⟩
end Go.Proofs.YtgoojcjfhghmgaaDoor


set_option linter.unusedSimpArgs false
set_option linter.unusedVariables false
namespace Go.Proofs.YtgoojcjfhghmgaaDoor
open Go Go.RowKit

theorem flatV_set0 : ∀ (ps : List (Value × Value)) (k : Nat) (hk : k < ps.length) (v : Value), (flatV ps).set (k * 2) v = flatV (ps.set k (v, ps[k].2))
  | p :: ps, 0, _, v => by simp [flatV]
  | p :: ps, k + 1, hk, v => by
    have := flatV_set0 ps k (by simpa using hk) v
    simp only [flatV, List.flatMap_cons, List.set_cons_succ, List.getElem_cons_succ] at this ⊢
    rw [List.set_append_right _ _ (by simp; omega)]
    simp only [List.length_cons, List.length_nil]
    rw [show (k + 1) * 2 - (0 + 1 + 1) = k * 2 by omega, this]
theorem flI_set : ∀ (l : List It) (k : Nat) (hk : k < l.length) (o : List Int), (flI l).set (k * 2) o = flI (l.set k (o, l[k].2))
  | p :: ps, 0, _, o => by simp [flI]
  | p :: ps, k + 1, hk, o => by
    have := flI_set ps k (by simpa using hk) o
    simp only [flI, List.flatMap_cons, List.set_cons_succ, List.getElem_cons_succ] at this ⊢
    rw [List.set_append_right _ _ (by simp; omega)]
    simp only [List.length_cons, List.length_nil]
    rw [show (k + 1) * 2 - (0 + 1 + 1) = k * 2 by omega, this]
/-- A row is replaced by a new one. -/
theorem RowsOwn.repl {base lo n c i : Nat} {gx : Option Nat} {w : World} {vs : List Value} {rows : List (List Int)} {A : Option Addr} {o : List Int} (h : RowsOwn base gx w vs rows) (hi : i < rows.length) (hn : o.length = n) (hown : w.ownsRow lo 3 1 (.slice A n c) n (o.map (Value.int .i64))) (hlo : base ≤ lo)
    (hgx : ∀ k, gx = some k → k < lo) (hvs : ∀ (j : Nat) (v : Value), vs[j]? = some v → ∀ b, v.ownBlock = some b → b < lo) : RowsOwn base gx w (vs.set i (.slice A n c)) (rows.set i o) := by
  subst hn
  have hl := h.1
  refine ⟨by simp [hl], fun j hj => ?_, fun j k v v' hjk hv hv' b hb => ?_⟩
  · have hj' : j < rows.length := by simpa using hj
    by_cases e : j = i
    · subst e
      rw [List.getElem_set_self]
      refine ⟨A, c, ?_, own_base hown hlo, fun k hk e => ?_⟩
      · rw [List.getElem?_set_self (by rw [hl]; exact hi)]
      · have h1 := hgx k e
        have h2 := (hown.lt k hk).1
        omega
    · rw [List.getElem_set_ne (fun h => e h.symm), List.getElem?_set_ne (fun h => e h.symm)]
      exact h.2.1 j hj'
  · have hnew : ∀ b, (Value.slice A o.length c).ownBlock = some b → lo ≤ b := fun b hb => (hown.lt b hb).1
    by_cases e1 : j = i
    · subst e1
      rw [List.getElem?_set_self (by rw [hl]; exact hi)] at hv
      injection hv with hv
      subst hv
      rw [List.getElem?_set_ne (by omega)] at hv'
      intro e
      have h1 := hvs k v' hv' b e
      have h2 := hnew b hb
      omega
    · rw [List.getElem?_set_ne (fun h => e1 h.symm)] at hv
      by_cases e2 : k = i
      · subst e2
        rw [List.getElem?_set_self (by rw [hl]; exact hi)] at hv'
        injection hv' with hv'
        subst hv'
        intro e
        have h1 := hvs j v hv b hb
        have h2 := hnew b e
        omega
      · rw [List.getElem?_set_ne (fun h => e2 h.symm)] at hv'
        exact h.2.2 j k v v' hjk hv hv' b hb
section
variable {lo n c g : Nat} {w w' : World} {ps : List (Value × Value)} {l : List It}
theorem ItP.len (h : ItP lo (.slice (some ⟨g, 0, none⟩) n c) w ps l) : n = l.length := by
  rcases h.2.1.2 with ⟨e, _⟩ | ⟨_, _, _, e, _⟩
  · cases e
  · injection e
/-- The cells of an item. -/
theorem ItP.cell {A : Option Addr} (h : ItP lo (.slice A n c) w ps l) {k : Nat} (hk : k < l.length) : ∃ g A1 c1 A2 c2, A = some ⟨g, 0, none⟩ ∧ ps[k]? = some (.slice A1 l[k].1.length c1, .slice A2 l[k].2.length c2) ∧ w.cell? ⟨g, k * 2, none⟩ = some (.slice A1 l[k].1.length c1) ∧ w.frozen? ⟨g, k * 2, none⟩ = false ∧ lo ≤ g ∧ g < w.heap.size ∧ IntsAt w.heap.size w A1 l[k].1 := by
  have hkp : k < ps.length := by rw [h.1]; exact hk
  have hn : n = l.length := by
    rcases h.2.1.2 with ⟨e, e2⟩ | ⟨_, _, _, e, _⟩
    · injection e with _ e _; omega
    · injection e
  subst hn
  obtain ⟨g, rfl, hg, q0, q1⟩ := own_cell2 h.2.1 h.1 hkp
  obtain ⟨f0, f1⟩ := flatV_get ps k hkp
  obtain ⟨g0, g1⟩ := flI_get l k hk
  have hl := flI_length l
  obtain ⟨A1, c1, e1, o1, _⟩ := h.2.2.2.1 (k * 2) (by omega)
  obtain ⟨A2, c2, e2, o2, _⟩ := h.2.2.2.1 (k * 2 + 1) (by omega)
  have x1 : (flI l)[k * 2]'(by omega) = l[k].1 := by rw [List.getElem?_eq_getElem (by omega)] at g0; injection g0
  have x2 : (flI l)[k * 2 + 1]'(by omega) = l[k].2 := by rw [List.getElem?_eq_getElem (by omega)] at g1; injection g1
  rw [x1] at e1 o1
  rw [x2] at e2 o2
  rw [f0] at e1
  rw [f1] at e2
  injection e1 with e1
  injection e2 with e2
  obtain ⟨g', cs, e3, hlo, hbl, _⟩ := own_blk h.2.1 (by omega)
  injection e3 with e3
  injection e3 with e3
  subst e3
  exact ⟨g, A1, c1, A2, c2, rfl, by rw [List.getElem?_eq_getElem hkp, ← e1, ← e2], by rw [q0, e1], hbl.frozen _, hlo, hg, IntsAt.of_own o1⟩
/-- A part is written over. -/
theorem ItP.put (h : ItP lo (.slice (some ⟨g, 0, none⟩) n c) w ps l) {k r : Nat} (hk : k < l.length) (hr : r < l[k].1.length) : ∃ q c1 v2, ps[k]? = some (.slice (some ⟨q, 0, none⟩) l[k].1.length c1, v2) ∧ lo ≤ q ∧ q < w.heap.size ∧ q ≠ g ∧ w.cell? ⟨q, r, none⟩ = some (.int .i64 l[k].1[r]) ∧ w.frozen? ⟨q, r, none⟩ = false ∧
    ∀ v, ItP lo (.slice (some ⟨g, 0, none⟩) n c) (w.setCell ⟨q, r, none⟩ (.int .i64 v)) ps (l.set k (l[k].1.set r v, l[k].2)) := by
  have hkp : k < ps.length := by rw [h.1]; exact hk
  have hl := flI_length l
  obtain ⟨g0, g1⟩ := flI_get l k hk
  have hk' : k * 2 < (flI l).length := by omega
  have x1 : (flI l)[k * 2]'hk' = l[k].1 := by rw [List.getElem?_eq_getElem hk'] at g0; injection g0
  obtain ⟨q, c1, e, hq, hlo, hgx, hc, hf, hv⟩ := h.2.2.put hk' (k := r) (by rw [x1]; exact hr)
  simp only [x1] at e hc hv
  have hne : q ≠ g := fun e => hgx (by rw [e]; rfl)
  obtain ⟨f0, f1⟩ := flatV_get ps k hkp
  rw [f0] at e
  injection e with e
  refine ⟨q, c1, ps[k].2, by rw [List.getElem?_eq_getElem hkp, ← e], hlo, hq, hne, hc, hf, fun v => ⟨by simp [h.1], ?_, ?_⟩⟩
  · have := ownsRow_setCell_other h.2.1 (a := ⟨q, r, none⟩) (fun e => hgx e) (.int .i64 v)
    simpa using this
  · have := hv v
    rw [flI_set l k hk] at this
    exact this
/-- A list of parts is replaced by a new one. -/
theorem ItP.repl (h : ItP lo (.slice (some ⟨g, 0, none⟩) n c) w ps l) {k m c' : Nat} {A : Option Addr} {o : List Int} (hk : k < l.length) (hlo : lo ≤ w.heap.size) (hb : Below w.heap.size w w') (hown : w'.ownsRow w.heap.size 3 1 (.slice A m c') m (o.map (Value.int .i64))) (hm : o.length = m) :
    ∃ v2, ItP lo (.slice (some ⟨g, 0, none⟩) n c) (w'.setCell ⟨g, k * 2, none⟩ (.slice A m c')) (ps.set k (.slice A m c', v2)) (l.set k (o, l[k].2)) ∧ ∃ v1, ps[k]? = some (v1, v2) := by
  have hkp : k < ps.length := by rw [h.1]; exact hk
  have h' := h.below hb
  have hn := h.len
  subst hn
  have hl := flI_length l
  have hg : g < w.heap.size := (h.2.1.lt g rfl).2
  have hgx : ∀ j, (Value.slice (some ⟨g, 0, none⟩ : Option Addr) l.length c).ownBlock = some j → j < w.heap.size := fun j hj => (h.2.1.lt j hj).2
  have r1 := h'.2.2.repl (i := k * 2) (o := o) (by omega) hm hown hlo hgx (fun j v hv b hb => h.2.2.lt hv hb)
  rw [flI_set l k hk, flatV_set0 ps k hkp] at r1
  have hst := h'.2.1.stored (k * 2) (.slice A m c')
  refine ⟨ps[k].2, ⟨by simp [h.1], ?_, ?_⟩, ps[k].1, by rw [List.getElem?_eq_getElem hkp]⟩
  · have := hst.1
    rw [flatV_set0 ps k hkp] at this
    simpa using this
  · exact r1.grown (gx' := some g) hst.2 (fun j hj => .inl hj)
end
/-- All blocks of a list of items are such. -/
def InB (NB : Nat → Prop) (out : Value) (ps : List (Value × Value)) : Prop := (∀ b, out.ownBlock = some b → NB b) ∧ ∀ (k : Nat) (v1 v2 : Value), ps[k]? = some (v1, v2) → (∀ b, v1.ownBlock = some b → NB b) ∧ ∀ b, v2.ownBlock = some b → NB b
theorem InB.imp {NB NB' : Nat → Prop} {out : Value} {ps : List (Value × Value)} (h : InB NB out ps) (hi : ∀ b, NB b → NB' b) : InB NB' out ps :=
  ⟨fun b hb => hi b (h.1 b hb), fun k v1 v2 e => ⟨fun b hb => hi b ((h.2 k v1 v2 e).1 b hb), fun b hb => hi b ((h.2 k v1 v2 e).2 b hb)⟩⟩
theorem InB.set {NB : Nat → Prop} {out : Value} {ps : List (Value × Value)} (h : InB NB out ps) {k : Nat} {v0 v1 v2 : Value} (he : ps[k]? = some (v0, v2)) (hv : ∀ b, v1.ownBlock = some b → NB b) : InB NB out (ps.set k (v1, v2)) := by
  refine ⟨h.1, fun j u1 u2 e => ?_⟩
  have hk : k < ps.length := (List.getElem?_eq_some_iff.1 he).1
  by_cases hj : k = j
  · subst hj
    rw [List.getElem?_set_self hk] at e
    injection e with e
    injection e with e1 e2
    subst e1 e2
    exact ⟨hv, (h.2 k v0 v2 he).2⟩
  · rw [List.getElem?_set_ne hj] at e
    exact h.2 j u1 u2 e
theorem InB.of_upTo {mid : Nat} {out : Value} {ps : List (Value × Value)} (h : UpTo mid out (flatV ps)) : InB (fun b => b < mid) out ps :=
  ⟨h.1, fun k v1 v2 e => by
    have hk : k < ps.length := (List.getElem?_eq_some_iff.1 e).1
    obtain ⟨f0, f1⟩ := flatV_get ps k hk
    rw [List.getElem?_eq_getElem hk] at e
    injection e with e
    rw [e] at f0 f1
    exact ⟨h.2 _ _ f0, h.2 _ _ f1⟩⟩
/-- Rules of a call's own lie from lo on. -/
theorem RuP.toN {lo n c : Nat} {A : Option Addr} {w : World} {ps : List (Value × Value)} {l : List Ru} (h : RuP lo (.slice A n c) w ps l) (hn : n = l.length) {N : Nat → Prop} (hN : ∀ b, lo ≤ b → b < w.heap.size → N b) : RusN N w A l := by
  subst hn
  intro k hk
  have hkp : k < ps.length := by rw [h.1]; exact hk
  obtain ⟨g, rfl, hg, q0, q1⟩ := own_cell2 h.2.1 h.1 hkp
  obtain ⟨A1, c1, e1, o1, _⟩ := h.2.2.1.2.1 k (by simpa [flR] using hk)
  have x1 : (flR l)[k]'(by simpa [flR] using hk) = l[k].1 := by simp [flR]
  rw [x1] at e1 o1
  rw [List.getElem?_map, List.getElem?_eq_getElem hkp] at e1
  have e1' : ps[k].1 = .slice A1 l[k].1.length c1 := by simpa using e1
  have e2 : ps[k].2 = .int .i64 l[k].2 := by
    have := congrArg (fun l => l[k]?) h.2.2.2
    simpa [hkp, hk] using this
  refine ⟨g, 0, A1, c1, rfl, hN g (h.2.1.lt g rfl).1 hg, hg, ?_, ?_, (IntsAt.of_own o1).ne fun a ha hlt => hN _ ((own_caps o1).2.2 a ha).1 hlt⟩
  · rw [Nat.zero_add, q0, e1']
  · rw [Nat.zero_add, q1, e2]
/-- What lies apart from the items while they are exchanged: the rules, the new book, the exchange. -/
def Rst (w : World) (mid hi G Gs : Nat) (AR : Option Addr) (rus : List Ru) (c1 c2 : Array Value) (wx : World) : Prop := RusN (fun b => mid ≤ b ∧ b < hi) wx AR rus ∧ Blk wx G 25 c1 ∧ Blk wx Gs 79 c2 ∧ Below w.heap.size w wx
theorem Rst.below {w wx wy : World} {mid hi G Gs : Nat} {AR : Option Addr} {rus : List Ru} {c1 c2 : Array Value} (h : Rst w mid hi G Gs AR rus c1 c2 wx) (hb : Below wx.heap.size wx wy) : Rst w mid hi G Gs AR rus c1 c2 wy :=
  ⟨h.1.below hb, h.2.1.below hb h.2.1.lt, h.2.2.1.below hb h.2.2.1.lt, h.2.2.2.trans (hb.mono h.2.2.2.size)⟩
theorem Rst.put {w wx : World} {mid hi G Gs q : Nat} {AR : Option Addr} {rus : List Ru} {c1 c2 : Array Value} (h : Rst w mid hi G Gs AR rus c1 c2 wx) (hG : mid ≤ G ∧ G < hi) (hq : (q < mid ∨ hi ≤ q) ∧ q ≠ Gs) (hw : w.heap.size ≤ q) (i : Nat) (u : Value) : Rst w mid hi G Gs AR rus c1 c2 (wx.setCell ⟨q, i, none⟩ u) := by
  have ho : Only q wx (wx.setCell ⟨q, i, none⟩ u) := (Only.refl _ _).put i u
  have hne : G ≠ q := fun e => by omega
  exact ⟨h.1.keep (fun b hb e => by omega) ho, h.2.1.far hne u, h.2.2.1.far (fun e => hq.2 e.symm) u, h.2.2.2.trans (ho.below hw h.2.2.2.size)⟩
end Go.Proofs.YtgoojcjfhghmgaaDoor


set_option linter.unusedSimpArgs false
set_option linter.unusedVariables false
namespace Go.Proofs.YtgoojcjfhghmgaaDoor
open Go Go.RowKit

section
variable {lo n c g : Nat} {out : Value} {w w' : World} {ps : List (Value × Value)} {l : List It}
end
/-- Items in blocks of which N holds. -/
def ItsN (N : Nat → Prop) (w : World) (A : Option Addr) (l : List It) : Prop := ∀ k (hk : k < l.length), ∃ b off A1 c1 A2 c2, A = some ⟨b, off, none⟩ ∧ N b ∧ b < w.heap.size ∧ w.cell? ⟨b, off + k * 2, none⟩ = some (.slice A1 l[k].1.length c1) ∧ w.cell? ⟨b, off + k * 2 + 1, none⟩ = some (.slice A2 l[k].2.length c2) ∧ IntsN N w.heap.size w A1 l[k].1 ∧ IntsN N w.heap.size w A2 l[k].2
section
variable {N N' : Nat → Prop} {w w' : World} {A : Option Addr} {l : List It}
theorem ItsN.at (h : ItsN N w A l) : ItsAt w.heap.size w A l := fun k hk => by
  obtain ⟨b, off, A1, c1, A2, c2, e, hn, h1, h2, h3, h4, h5⟩ := h k hk
  exact ⟨b, off, A1, c1, A2, c2, e, h1, h2, h3, h4.at, h5.at⟩
theorem ItsN.keep {g : Nat} (h : ItsN N w A l) (hN : ∀ b, N b → b ≠ g) (o : Only g w w') : ItsN N w' A l := fun k hk => by
  obtain ⟨b, off, A1, c1, A2, c2, e, hn, h1, h2, h3, h4, h5⟩ := h k hk
  exact ⟨b, off, A1, c1, A2, c2, e, hn, Nat.lt_of_lt_of_le h1 o.size, (o.cell (p := ⟨b, off + k * 2, none⟩) h1 (hN b hn)).trans h2, (o.cell (p := ⟨b, off + k * 2 + 1, none⟩) h1 (hN b hn)).trans h3, h4.keep hN o, h5.keep hN o⟩
theorem ItsN.below (h : ItsN N w A l) (hb : Below w.heap.size w w') : ItsN N w' A l := fun k hk => by
  obtain ⟨b, off, A1, c1, A2, c2, e, hn, h1, h2, h3, h4, h5⟩ := h k hk
  exact ⟨b, off, A1, c1, A2, c2, e, hn, Nat.lt_of_lt_of_le h1 hb.size, (hb.cell (p := ⟨b, off + k * 2, none⟩) h1).trans h2, (hb.cell (p := ⟨b, off + k * 2 + 1, none⟩) h1).trans h3, h4.below hb, h5.below hb⟩
end
end Go.Proofs.YtgoojcjfhghmgaaDoor


set_option linter.unusedSimpArgs false
set_option linter.unusedVariables false
namespace Go.Proofs.YtgoojcjfhghmgaaDoor
open Go Go.RowKit

theorem exN_len {l m : List It} {ss : List (Int × Int)} (hl : Ord l) (h0 : ∀ s ∈ ss, 0 ≤ s.2) {j : Nat} (hj : j ≤ ss.length) (h : exN l (ss.take j) = some m) (hM : ∀ x ∈ l, x.1.length ≤ 40 ∧ x.2.length ≤ 40) : Ord m ∧ m.length = l.length ∧ ∀ x ∈ m, x.1.length ≤ 40 ∧ x.2.length ≤ 40 := by
  obtain ⟨h1, h2, h3⟩ := exN_facts hl h0 j hj h
  exact ⟨h1, h2, h3 40 hM⟩

theorem ItP.itsN {lo n c : Nat} {A : Option Addr} {w : World} {ps : List (Value × Value)} {l : List It} (h : ItP lo (.slice A n c) w ps l) (hn : n = l.length) {N : Nat → Prop} (hN : ∀ q, lo ≤ q → N q) : ItsN N w A l := by
  subst hn
  intro k hk
  have hkp : k < ps.length := by rw [h.1]; exact hk
  obtain ⟨g, rfl, hg, q0, q1⟩ := own_cell2 h.2.1 h.1 hkp
  obtain ⟨f0, f1⟩ := flatV_get ps k hkp
  obtain ⟨g0, g1⟩ := flI_get l k hk
  have hl := flI_length l
  obtain ⟨A1, c1, e1, o1, _⟩ := h.2.2.2.1 (k * 2) (by omega)
  obtain ⟨A2, c2, e2, o2, _⟩ := h.2.2.2.1 (k * 2 + 1) (by omega)
  have x1 : (flI l)[k * 2]'(by omega) = l[k].1 := by rw [List.getElem?_eq_getElem (by omega)] at g0; injection g0
  have x2 : (flI l)[k * 2 + 1]'(by omega) = l[k].2 := by rw [List.getElem?_eq_getElem (by omega)] at g1; injection g1
  rw [x1] at e1 o1
  rw [x2] at e2 o2
  rw [f0] at e1
  rw [f1] at e2
  injection e1 with e1
  injection e2 with e2
  exact ⟨g, 0, A1, c1, A2, c2, rfl, hN g (h.2.1.lt g rfl).1, hg, by rw [Nat.zero_add, q0, e1], by rw [Nat.zero_add, q1, e2], (IntsAt.of_own o1).ne fun a ha _ => hN _ ((own_caps o1).2.2 a ha).1, (IntsAt.of_own o2).ne fun a ha _ => hN _ ((own_caps o2).2.2 a ha).1⟩

set_option maxRecDepth 100000 in
set_option maxHeartbeats 8000000 in
theorem exchanged_any (AI AR : Option Addr) (cI cR : Nat) (A : Option Addr) (c B : Nat) (b : Bk) (ss : List (Int × Int)) (w : World) (hB : B ≤ w.heap.size) (h : ItsAt B w AI b.its) (h' : RusAt B w AR b.rus) (hs : Short b) (ho : Ord b.its) (hp : PairsAt B w A ss) (h8 : ss.length ≤ 8) (hsw : ∀ s ∈ ss, 0 ≤ s.2) :
    Calls Tryd.prog 95 #[.agg #[.int .i64 b.p, .slice AI b.its.length cI, .slice AR b.rus.length cR], .slice A ss.length c] w fun e w' =>
      ((∃ m AI' AR' cI' cR', exN b.its ss = some m ∧ e = .returned (.tuple #[.agg #[.int .i64 b.p, .slice AI' b.its.length cI', .slice AR' b.rus.length cR'], .bool true]) ∧ ItsN (fun q => w.heap.size ≤ q) w' AI' m ∧ RusN (fun q => w.heap.size ≤ q) w' AR' b.rus) ∨
        (exN b.its ss = none ∧ e = .returned (.tuple #[.agg #[.int .i64 0, .slice none 0 0, .slice none 0 0], .bool false]))) ∧ Below w.heap.size w w' := by
  have hT := h.below (Below.refl _ _) hB
  have hT' := h'.below (Below.refl _ _) hB
  have hP := hp.below (Below.refl _ _) hB
  have cc := Lib.hid (fun W (hW : Below w.heap.size w W) => clone_bk AI AR cI cR w.heap.size b W hW.size (hT.below hW (Nat.le_refl _)) (hT'.below hW (Nat.le_refl _)) hs)
  have HP := Lib.hid hP
  have nI := hs.1
  have nR := hs.2.1
  have HFa := Lib.hid (fun (j : Nat) (m : List It) (hj : j ≤ ss.length) (he : exN b.its (ss.take j) = some m) => exN_len ho hsw hj he hs.2.2.1)
  have HGood := Lib.hid (fun (j : Nat) (m : List It) (hj : j < ss.length) (he : exN b.its (ss.take j) = some m) (hk : exOk m ss[j]) => exN_good hj he hk)
  have HBad := Lib.hid (fun (j : Nat) (m : List It) (hj : j < ss.length) (he : exN b.its (ss.take j) = some m) (hk : ¬ exOk m ss[j]) => exN_bad hj he hk)
  have HAll := Lib.hid (fun (m : List It) (he : exN b.its (ss.take ss.length) = some m) => show exN b.its ss = some m from by rwa [List.take_length] at he)
  have HNil := Lib.hid (show exN b.its (ss.take 0) = some b.its from by rw [List.take_zero]; exact exN_nil _)
  clear h h' hp hs ho hT hT' hP hB hsw
  go_enter Tryd.func95, Tryd.ntmps95
  go_wp2_with fail
  generalize hW1 : (w.alloc (.cells #[.int .i64 b.p, .slice AI b.its.length cI, .slice AR b.rus.length cR] 25)).alloc (.cells #[.int .i64 0, .slice none 0 0, .slice none 0 0] 25) = W1
  have HB1 := Lib.hid (show Below w.heap.size w W1 by rw [← hW1]; exact balloc (balloc (Below.refl _ _) _) _)
  have HK0 := Lib.hid (show Blk W1 w.heap.size 25 #[.int .i64 b.p, .slice AI b.its.length cI, .slice AR b.rus.length cR] by rw [← hW1]; exact (Blk.new _ _ _).alloc _)
  have HK1 := Lib.hid (show Blk W1 (w.heap.size + 1) 25 #[.int .i64 0, .slice none 0 0, .slice none 0 0] by rw [← hW1]; exact blk_new' (by simp))
  have HS0 := Lib.hid (show w.heap.size + 1 < W1.heap.size from HK1.out.lt)
  clear hW1
  obtain ⟨x0, x1, x2, _⟩ := blk3 HK0.out
  go_wp2_with (go_at_call 90; refine (cc.out _ HB1.out).mono ?_; rintro e w2 ⟨AI', AR', cI', cR', ps, qs, mid, rfl, hit, hup, hm1, hm2, hru, hb2⟩)
  clear x0 x1 x2
  generalize hW3 : w2.alloc (.cells #[.int .i64 b.p, .slice AI' b.its.length cI', .slice AR' b.rus.length cR'] 25) = w3
  have hb23 : Below w2.heap.size w2 w3 := by rw [← hW3]; exact balloc (Below.refl _ _) _
  have HKG := Lib.hid (show Blk w3 w2.heap.size 25 #[.int .i64 b.p, .slice AI' b.its.length cI', .slice AR' b.rus.length cR'] by rw [← hW3]; exact Blk.new _ _ _)
  have hsz : w3.heap.size = w2.heap.size + 1 := by rw [← hW3]; simp
  have HIt := Lib.hid (hit.below hb23)
  have HIn := Lib.hid ((InB.of_upTo hup).imp (NB' := fun b => b < mid ∨ w2.heap.size + 1 ≤ b) fun b hb => .inl hb)
  have HRu := Lib.hid (((hru.toN rfl (N := fun b => mid ≤ b ∧ b < w2.heap.size + 1) fun b h1 h2 => ⟨h1, by omega⟩).below hb23))
  have HB3 := Lib.hid (hb2.trans (hb23.mono hb2.size))
  have Hmid := Lib.hid (And.intro hm1 hm2)
  have Hsz := Lib.hid (show w2.heap.size + 1 ≤ w3.heap.size from Nat.le_of_eq hsz.symm)
  clear hW3 hit hup hru hb23 hb2 hm1 hm2 hsz cc
  generalize w2.heap.size = G at *
  go_loopw [16] (fun vi wr => ∃ (j : Nat) (m : List It) (ps : List (Value × Value)), j ≤ ss.length ∧ vi = .int .i64 j ∧ Aside (exN b.its (ss.take j) = some m) ∧ Aside (ItP W1.heap.size (.slice AI' b.its.length cI') wr ps m) ∧ Aside (InB (fun b => b < mid ∨ G + 1 ≤ b) (.slice AI' b.its.length cI') ps) ∧ Aside (RusN (fun b => mid ≤ b ∧ b < G + 1) wr AR' b.rus) ∧ Aside (Blk wr G 25 #[.int .i64 b.p, .slice AI' b.its.length cI', .slice AR' b.rus.length cR']) ∧ Aside (Below W1.heap.size W1 wr) ∧ Aside (G + 1 ≤ wr.heap.size)) (fun vi _ => ss.length - (intOf vi).toNat)
  case atStart => exact ⟨0, b.its, ps, Nat.zero_le _, rfl, HNil.out, HIt.out, HIn.out, HRu.out, HKG.out, HB3.out, Hsz.out⟩
  case round =>
    clear HIt HIn HRu HKG HB3 Hsz
    obtain ⟨j, m, ps, hj, rfl, hex, hit, hin, hru, hbl, hbr, hsz⟩ := hrel
    have HEx := Lib.hid hex.out
    have HIt := Lib.hid hit.out
    have HIn := Lib.hid hin.out
    have HRu := Lib.hid hru.out
    have HBl := Lib.hid hbl.out
    have HBr := Lib.hid hbr.out
    have Hsz := Lib.hid hsz.out
    obtain ⟨hOrd, hml, hm40⟩ := HFa.out j m hj HEx.out
    have HOrd := Lib.hid hOrd
    have HMl := Lib.hid hml
    have HM40 := Lib.hid hm40
    obtain ⟨y0, y1, y2, _, _, _⟩ := blk3 hbl.out
    clear hex hit hin hru hbl hbr hsz hOrd hml hm40
    have hGr : G < wr.heap.size := Hsz.out
    by_cases hltj : j < ss.length
    · have Hpw := HP.out.below (HB1.out.trans (HBr.out.mono HB1.out.size)) (Nat.le_refl _)
      obtain ⟨ga, oa, rfl, hga, p0, p1⟩ := Hpw.at hltj
      have hjI : (j : Int) < (ss.length : Int) := by omega
      have HGo := Lib.hid (HGood.out j m hltj HEx.out)
      have HBa := Lib.hid (HBad.out j m hltj HEx.out)
      clear Hpw
      generalize ss[j] = s at *
      obtain ⟨x, y⟩ := s
      simp only at p0 p1
      have hgaw : ga < wr.heap.size := Nat.lt_of_lt_of_le hga (Nat.le_trans HB1.out.size HBr.out.size)
      have HKs := Lib.hid (Blk.new wr 79 #[.int .i64 x, .int .i64 y])
      have hba : Below wr.heap.size wr (wr.alloc (.cells #[.int .i64 x, .int .i64 y] 79)) := balloc (Below.refl _ _) _
      have HR0 := Lib.hid (show Rst W1 mid (G + 1) G wr.heap.size AR' b.rus #[.int .i64 b.p, .slice AI' b.its.length cI', .slice AR' b.rus.length cR'] #[.int .i64 x, .int .i64 y] (wr.alloc (.cells #[.int .i64 x, .int .i64 y] 79)) from ⟨HRu.out.below hba, HBl.out.below hba hGr, HKs.out, HBr.out.trans (hba.mono HBr.out.size)⟩)
      have HI0 := Lib.hid (HIt.out.below hba)
      have HN0 := Lib.hid (show InB (fun b => (b < mid ∨ G + 1 ≤ b) ∧ b ≠ wr.heap.size) (.slice AI' b.its.length cI') ps from ⟨fun q hq => ⟨HIn.out.1 q hq, fun e => by have := (HIt.out.2.1.lt q hq).2; omega⟩, fun k v1 v2 e => by
        have hk : k < ps.length := (List.getElem?_eq_some_iff.1 e).1
        obtain ⟨f0, f1⟩ := flatV_get ps k hk
        have e' := e
        rw [List.getElem?_eq_getElem hk] at e'
        injection e' with e'
        rw [e'] at f0 f1
        exact ⟨fun q hq => ⟨(HIn.out.2 k v1 v2 e).1 q hq, fun e3 => by have := HIt.out.2.2.lt f0 hq; omega⟩, fun q hq => ⟨(HIn.out.2 k v1 v2 e).2 q hq, fun e3 => by have := HIt.out.2.2.lt f1 hq; omega⟩⟩⟩)
      have Hgs := Lib.hid (show G + 1 ≤ wr.heap.size from Hsz.out)
      go_wp2_with fail
      have hgs : (wr.alloc (.cells #[.int .i64 x, .int .i64 y] 79)).heap.size = wr.heap.size + 1 := by simp
      have HgsA := Lib.hid (show wr.heap.size < (wr.alloc (.cells #[.int .i64 x, .int .i64 y] 79)).heap.size by rw [hgs]; exact Nat.lt_succ_self _)
      clear hgs hba HIt HIn HRu HBl HBr HKs Hsz y0 y1 y2 p0 p1
      generalize hWs : wr.alloc (.cells #[.int .i64 x, .int .i64 y] 79) = ws at *
      clear hWs
      generalize wr.heap.size = Gs at *
      go_loopw [23] (fun vi wx => ∃ (i : Nat) (ps : List (Value × Value)), i ≤ b.its.length ∧ vi = .int .i64 i ∧ Aside (ItP W1.heap.size (.slice AI' b.its.length cI') wx ps (exK m (x, y) i)) ∧ Aside (InB (fun b => (b < mid ∨ G + 1 ≤ b) ∧ b ≠ Gs) (.slice AI' b.its.length cI') ps) ∧ Aside (Rst W1 mid (G + 1) G Gs AR' b.rus #[.int .i64 b.p, .slice AI' b.its.length cI', .slice AR' b.rus.length cR'] #[.int .i64 x, .int .i64 y] wx) ∧ Aside (∀ k (hk : k < m.length), k < i → x ∈ m[k].1 → y < k) ∧ Aside (Gs < wx.heap.size)) (fun vi _ => b.its.length - (intOf vi).toNat)
      case atStart => exact ⟨0, ps, Nat.zero_le _, rfl, by rw [exK_zero]; exact HI0.out, HN0.out, HR0.out, (fun k hk h => absurd h (Nat.not_lt_zero _)), HgsA.out⟩
      case round =>
        clear HI0 HN0 HR0 HgsA
        obtain ⟨i, ps, hi, rfl, hit, hin, hrs, hok, hgs⟩ := hrel
        have HIt := Lib.hid hit.out
        have HIn := Lib.hid hin.out
        have HRs := Lib.hid hrs.out
        have HOk := Lib.hid hok.out
        have hgsw : Gs < wr.heap.size := hgs.out
        have hGr : G < wr.heap.size := by have := Hgs.out; omega
        obtain ⟨y0, y1, y2, _, _, _⟩ := blk3 hrs.out.2.1
        obtain ⟨s0, s1, _, _⟩ := blk2 hrs.out.2.2.1
        clear hit hin hrs hok hgs
        by_cases hlti : i < b.its.length
        · have him : i < m.length := by rw [HMl.out]; exact hlti
          have hil : i < (exK m (x, y) i).length := by rw [exK_length]; exact him
          have hgi : (exK m (x, y) i)[i]'hil = m[i]'him := by rw [exK_get m (x, y) i him, if_neg (Nat.lt_irrefl i)]
          obtain ⟨g, A1, c1, A2, c2, rfl, hps, e0, fz, hlog, hg, hI⟩ := HIt.out.cell hil
          rw [hgi] at hps e0 hI
          have h40 := (HM40.out _ (List.getElem_mem him)).1
          have hiI : (i : Int) < (b.its.length : Int) := by omega
          have hi0 : (0 : Int) ≤ (i : Int) := by omega
          have HPs := Lib.hid hps
          have HI := Lib.hid hI
          have HE0 := Lib.hid (And.intro e0 fz)
          have hAsc := (HOrd.out i him).1
          have HAsc := Lib.hid hAsc
          have HSkip := Lib.hid (fun (hx : x ∉ (m[i]'him).1) => exK_skip m (x, y) him (exM_out (P := (m[i]'him).1) (s := (x, y)) hx))
          have HOkS := Lib.hid (show (x ∈ (m[i]'him).1 → y < i) → ∀ k (hk : k < m.length), k < i + 1 → x ∈ m[k].1 → y < k from fun h k hk hki hx => by
            by_cases e : k = i
            · subst e; exact h hx
            · exact HOk.out k hk (by omega) hx)
          obtain ⟨np, hnp⟩ : ∃ np, np = (m[i]'him).1.length := ⟨_, rfl⟩
          have ci0 := index_any A1 c1 wr.heap.size (m[i]'him).1 x wr (by omega) hI
          rw [← hnp] at e0 ci0 h40
          have Hnp := Lib.hid hnp
          have ciH := Lib.hid ci0
          clear ci0 hI hps fz hAsc hnp
          by_cases hx : x ∈ (m[i]'him).1
          · obtain ⟨r, hr, hix, hPr⟩ := idx_in HAsc.out hx
            rw [hix] at ciH
            have hrI : (r : Int) < (np : Int) := by have := Hnp.out; omega
            have hr0 : (0 : Int) ≤ (r : Int) := by omega
            have ci0 := fun (W : World) (hW : Below wr.heap.size wr W) => index_any A1 c1 W.heap.size (m[i]'him).1 x W (by have := Hnp.out; omega) (HI.out.below hW hW.size)
            rw [hix, ← Hnp.out] at ci0
            have ciW := Lib.hid ci0
            have Hr := Lib.hid (And.intro hr hPr)
            clear ci0 hix
            by_cases hy : y < (i : Int)
            · have HOk2 := Lib.hid (HOkS.out fun _ => hy)
              go_wp2_with fail
              refine wp_region_E (S := fun W => W.cell? ⟨g, i * 2, none⟩ = some (.slice A1 np c1) ∧ W.cell? ⟨Gs, 0, none⟩ = some (.int .i64 x)) (E := fun _ => false) (by kernel_rfl) ?_
              have hbi : Below wr.heap.size wr wr.drew := (Below.refl _ _).drew
              have ci := Lib.hid (ciW.out wr.drew hbi)
              have Keep := Lib.hid (show wr.drew.cell? ⟨g, i * 2, none⟩ = some (.slice A1 np c1) ∧ wr.drew.cell? ⟨Gs, 0, none⟩ = some (.int .i64 x) from ⟨e0, s0⟩)
              have HIt2 := Lib.hid (HIt.out.below hbi)
              have HRs2 := Lib.hid (HRs.out.below hbi)
              have hgs2 : Gs < wr.drew.heap.size := Nat.lt_of_lt_of_le hgsw hbi.size
              generalize wr.drew = wi0 at *
              have hS := Keep.out
              clear hbi ciW ciH
              refine anyE_tk 0 30 (oi := ?oi1) (v := ?v1) ?hi1 ?hd1 (by kernel_rfl) (by kernel_rfl) (by kernel_rfl) ?hQ1 ?hy1 hS ?rest1
              case hi1 => simp only [List.getElem?_toArray, List.getElem?_cons_zero, List.getElem?_cons_succ]; rfl
              case hd1 => rfl
              case hQ1 => exact fun _ _ _ h => h
              case hy1 => (refine Or.inl ⟨by rfl, ?_⟩; intro w hSw; (try dsimp only at hSw); go_simp; try with_reducible rfl)
              simp only [List.setIfInBounds_toArray, List.set_cons_zero, List.set_cons_succ]
              refine anyE_tk 1 31 (oi := ?oi2) (v := ?v2) ?hi2 ?hd2 (by kernel_rfl) (by kernel_rfl) (by kernel_rfl) ?hQ2 ?hy2 hS ?rest2
              case hi2 => simp only [List.getElem?_toArray, List.getElem?_cons_zero, List.getElem?_cons_succ]; rfl
              case hd2 => rfl
              case hQ2 => exact fun _ _ _ h => h
              case hy2 => (refine Or.inl ⟨by rfl, ?_⟩; intro w hSw; (try dsimp only at hSw); go_simp; try with_reducible rfl)
              simp only [List.setIfInBounds_toArray, List.set_cons_zero, List.set_cons_succ]
              refine anyE_tk 2 32 (oi := ?oi3) (v := ?v3) ?hi3 ?hd3 (by kernel_rfl) (by kernel_rfl) (by kernel_rfl) ?hQ3 ?hy3 hS ?rest3
              case hi3 => simp only [List.getElem?_toArray, List.getElem?_cons_zero, List.getElem?_cons_succ]; rfl
              case hd3 => rfl
              case hQ3 => exact fun _ _ _ h => h
              case hy3 => (refine Or.inl ⟨by rfl, ?_⟩; intro w hSw; (try dsimp only at hSw); go_simp; try with_reducible rfl)
              simp only [List.setIfInBounds_toArray, List.set_cons_zero, List.set_cons_succ]
              refine anyE_tk 3 33 (oi := ?oi4) (v := ?v4) ?hi4 ?hd4 (by kernel_rfl) (by kernel_rfl) (by kernel_rfl) ?hQ4 ?hy4 hS ?rest4
              case hi4 => simp only [List.getElem?_toArray, List.getElem?_cons_zero, List.getElem?_cons_succ]; rfl
              case hd4 => rfl
              case hQ4 => exact fun _ _ _ h => h
              case hy4 => (refine Or.inl ⟨by rfl, ?_⟩; intro w hSw; (try dsimp only at hSw); go_simp; try with_reducible rfl)
              simp only [List.setIfInBounds_toArray, List.set_cons_zero, List.set_cons_succ]
              refine anyE_tk 4 34 (oi := ?oi5) (v := ?v5) ?hi5 ?hd5 (by kernel_rfl) (by kernel_rfl) (by kernel_rfl) ?hQ5 ?hy5 hS ?rest5
              case hi5 => simp only [List.getElem?_toArray, List.getElem?_cons_zero, List.getElem?_cons_succ]; rfl
              case hd5 => rfl
              case hQ5 => exact fun _ _ _ h => h
              case hy5 => (refine Or.inl ⟨by rfl, ?_⟩; intro w hSw; (try dsimp only at hSw); go_simp; try with_reducible rfl)
              simp only [List.setIfInBounds_toArray, List.set_cons_zero, List.set_cons_succ]
              refine anyE_tk 5 35 (oi := ?oi6) (v := ?v6) ?hi6 ?hd6 (by kernel_rfl) (by kernel_rfl) (by kernel_rfl) ?hQ6 ?hy6 hS ?rest6
              case hi6 => simp only [List.getElem?_toArray, List.getElem?_cons_zero, List.getElem?_cons_succ]; rfl
              case hd6 => rfl
              case hQ6 => exact fun _ _ _ h => h
              case hy6 => (refine Or.inl ⟨by rfl, ?_⟩; intro w hSw; (try dsimp only at hSw); go_simp; try with_reducible rfl)
              simp only [List.setIfInBounds_toArray, List.set_cons_zero, List.set_cons_succ]
              clear hS
              refine anyE_one (i := 6) (o := ?oi7) (by kernel_rfl) ?hi7 (fun K hK => ?step7)
              case hi7 => simp only [List.getElem?_toArray, List.getElem?_cons_zero, List.getElem?_cons_succ]; rfl
              go_simp
              refine ci.out.mono ?_
              rintro e w7 ⟨rfl, hw7⟩
              subst w7
              go_wp2_with fail
              refine hK.out _ _ (fun _ => Keep.out) ?_
              clear hK K
              try simp only [Act.put, List.setIfInBounds_toArray, List.set_cons_zero, List.set_cons_succ]
              refine anyE_one (i := 7) (o := ?oi8) (by kernel_rfl) ?hi8 (fun K hK => ?step8)
              case hi8 => simp only [List.getElem?_toArray, List.getElem?_cons_zero, List.getElem?_cons_succ]; rfl
              go_simp
              go_wp2_with fail
              refine hK.out _ _ (fun _ => Keep.out) ?_
              clear hK K
              try simp only [Act.put, List.setIfInBounds_toArray, List.set_cons_zero, List.set_cons_succ]
              refine anyE_done (by kernel_rfl) ?_ _
              obtain ⟨_, s1w, _, _⟩ := blk2 HRs2.out.2.2.1
              go_wp2_with fail
              have hbi3 : Below wi0.heap.size wi0 wi0.drew := (Below.refl _ _).drew
              have HIt3 := Lib.hid (HIt2.out.below hbi3)
              have HRs3 := Lib.hid (HRs2.out.below hbi3)
              have hgs3 : Gs < wi0.drew.heap.size := Nat.lt_of_lt_of_le hgs2 hbi3.size
              obtain ⟨q, c1', v2, ep, hlq, hqw, hqg, hqc, hqf, hput⟩ := HIt3.out.put hil (r := r) (by rw [hgi]; exact hr)
              simp only [hgi] at ep hqc hput
              have e9 := HPs.out.symm.trans ep
              injection e9 with e9
              injection e9 with e9 _
              injection e9 with e9 _ e10
              subst e9 e10
              have HPut := Lib.hid (hput y)
              have HQc := Lib.hid hqc
              have HQf := Lib.hid hqf
              obtain ⟨_, w1, _, _⟩ := blk2 HRs3.out.2.2.1
              have Keep3 := Lib.hid (show wi0.drew.cell? ⟨g, i * 2, none⟩ = some (.slice (some ⟨q, 0, none⟩) np c1) ∧ wi0.drew.cell? ⟨Gs, 1, none⟩ = some (.int .i64 y) from ⟨Keep.out.1, w1⟩)
              clear Keep s0 s1 s1w y0 y1 y2 w1 e0 hput ep hqc hqf
              refine wp_region_E (S := fun W => W.cell? ⟨g, i * 2, none⟩ = some (.slice (some ⟨q, 0, none⟩) np c1) ∧ W.cell? ⟨Gs, 1, none⟩ = some (.int .i64 y)) (E := fun j => [8].contains j) (by kernel_rfl) ?_
              have hgw3 : g < wi0.drew.heap.size := (HIt3.out.2.1.lt g rfl).2
              have hlo3 : W1.heap.size ≤ wi0.drew.heap.size := HRs3.out.2.2.2.size
              have Keep := Lib.hid Keep3.out
              clear Keep3 HIt2 HRs2 hgs2 hbi3
              generalize wi0.drew = wi1 at *
              have hS := Keep.out
              have hqb := (HIn.out.2 i _ _ HPs.out).1 q rfl
              have HRs4 := Lib.hid (HRs3.out.put ⟨Hmid.out.2, Nat.lt_succ_self _⟩ hqb hlq r (.int .i64 y))
              obtain ⟨g', A1', c1'', A2', c2', eg, ep', e13, fz13, _, hg13, hI13⟩ := HPut.out.cell (k := i) (by rw [List.length_set]; exact hil)
              simp only [List.getElem_set_self] at ep' e13 hI13
              injection eg with eg
              injection eg with eg _ _
              subst eg
              have e9 := HPs.out.symm.trans ep'
              injection e9 with e9
              injection e9 with e9 _
              injection e9 with e9 _ e10
              subst e9 e10
              have cs0 := sorted_own (some ⟨q, 0, none⟩) c1 _ _ _ (by rw [List.length_set]; have := Hnp.out; omega) hI13
              rw [exM_set (s := (x, y)) HAsc.out Hr.out.1 Hr.out.2] at cs0
              rw [List.length_set] at cs0 e13
              rw [← Hnp.out] at cs0 e13
              have CS := Lib.hid cs0
              have E13 := Lib.hid (And.intro e13 fz13)
              have hgs4 : Gs < (wi1.setCell ⟨q, r, none⟩ (.int .i64 y)).heap.size := by simpa [World.setCell] using hgs3
              have hlo4 : W1.heap.size ≤ (wi1.setCell ⟨q, r, none⟩ (.int .i64 y)).heap.size := by simpa [World.setCell] using hlo3
              clear cs0 e13 fz13 hI13 ep'
              refine anyE_tx 0 44 [8] [8] (oi := ?oi9) (v := ?v9) ?hi9 ?hd9 (by kernel_rfl) (by kernel_rfl) (by kernel_rfl) (by kernel_rfl) ?hQ9 ?hy9 hS ?rest9
              case hi9 => simp only [List.getElem?_toArray, List.getElem?_cons_zero, List.getElem?_cons_succ]; rfl
              case hd9 => rfl
              case hQ9 => exact fun _ _ _ h => h
              case hy9 => (refine Or.inl ⟨by rfl, ?_⟩; intro w hSw; (try dsimp only at hSw); go_simp; try with_reducible rfl)
              simp only [List.setIfInBounds_toArray, List.set_cons_zero, List.set_cons_succ]
              refine anyE_tx 1 45 [8] [8] (oi := ?oi10) (v := ?v10) ?hi10 ?hd10 (by kernel_rfl) (by kernel_rfl) (by kernel_rfl) (by kernel_rfl) ?hQ10 ?hy10 hS ?rest10
              case hi10 => simp only [List.getElem?_toArray, List.getElem?_cons_zero, List.getElem?_cons_succ]; rfl
              case hd10 => rfl
              case hQ10 => exact fun _ _ _ h => h
              case hy10 => (refine Or.inl ⟨by rfl, ?_⟩; intro w hSw; (try dsimp only at hSw); go_simp; try with_reducible rfl)
              simp only [List.setIfInBounds_toArray, List.set_cons_zero, List.set_cons_succ]
              refine anyE_tx 2 46 [8] [8] (oi := ?oi11) (v := ?v11) ?hi11 ?hd11 (by kernel_rfl) (by kernel_rfl) (by kernel_rfl) (by kernel_rfl) ?hQ11 ?hy11 hS ?rest11
              case hi11 => simp only [List.getElem?_toArray, List.getElem?_cons_zero, List.getElem?_cons_succ]; rfl
              case hd11 => rfl
              case hQ11 => exact fun _ _ _ h => h
              case hy11 => (refine Or.inl ⟨by rfl, ?_⟩; intro w hSw; (try dsimp only at hSw); go_simp; try with_reducible rfl)
              simp only [List.setIfInBounds_toArray, List.set_cons_zero, List.set_cons_succ]
              refine anyE_tx 3 47 [8] [8] (oi := ?oi12) (v := ?v12) ?hi12 ?hd12 (by kernel_rfl) (by kernel_rfl) (by kernel_rfl) (by kernel_rfl) ?hQ12 ?hy12 hS ?rest12
              case hi12 => simp only [List.getElem?_toArray, List.getElem?_cons_zero, List.getElem?_cons_succ]; rfl
              case hd12 => rfl
              case hQ12 => exact fun _ _ _ h => h
              case hy12 => (refine Or.inl ⟨by rfl, ?_⟩; intro w hSw; (try dsimp only at hSw); go_simp; try with_reducible rfl)
              simp only [List.setIfInBounds_toArray, List.set_cons_zero, List.set_cons_succ]
              refine anyE_tx 4 48 [8] [8] (oi := ?oi13) (v := ?v13) ?hi13 ?hd13 (by kernel_rfl) (by kernel_rfl) (by kernel_rfl) (by kernel_rfl) ?hQ13 ?hy13 hS ?rest13
              case hi13 => simp only [List.getElem?_toArray, List.getElem?_cons_zero, List.getElem?_cons_succ]; rfl
              case hd13 => rfl
              case hQ13 => exact fun _ _ _ h => h
              case hy13 => (refine Or.inl ⟨by rfl, ?_⟩; intro w hSw; (try dsimp only at hSw); go_simp; try with_reducible rfl)
              simp only [List.setIfInBounds_toArray, List.set_cons_zero, List.set_cons_succ]
              refine anyE_tx 5 49 [8] [8] (oi := ?oi14) (v := ?v14) ?hi14 ?hd14 (by kernel_rfl) (by kernel_rfl) (by kernel_rfl) (by kernel_rfl) ?hQ14 ?hy14 hS ?rest14
              case hi14 => simp only [List.getElem?_toArray, List.getElem?_cons_zero, List.getElem?_cons_succ]; rfl
              case hd14 => rfl
              case hQ14 => exact fun _ _ _ h => h
              case hy14 => (refine Or.inl ⟨by rfl, ?_⟩; intro w hSw; (try dsimp only at hSw); go_simp; try with_reducible rfl)
              simp only [List.setIfInBounds_toArray, List.set_cons_zero, List.set_cons_succ]
              refine anyE_tx 6 50 [8] [8] (oi := ?oi15) (v := ?v15) ?hi15 ?hd15 (by kernel_rfl) (by kernel_rfl) (by kernel_rfl) (by kernel_rfl) ?hQ15 ?hy15 hS ?rest15
              case hi15 => simp only [List.getElem?_toArray, List.getElem?_cons_zero, List.getElem?_cons_succ]; rfl
              case hd15 => rfl
              case hQ15 => exact fun _ _ _ h => h
              case hy15 => (refine Or.inl ⟨by rfl, ?_⟩; intro w hSw; (try dsimp only at hSw); go_simp; try with_reducible rfl)
              simp only [List.setIfInBounds_toArray, List.set_cons_zero, List.set_cons_succ]
              clear hS
              refine anyE_one (i := 7) (o := ?oi16) (by kernel_rfl) ?hi16 (fun K hK => ?step16)
              case hi16 => simp only [List.getElem?_toArray, List.getElem?_cons_zero, List.getElem?_cons_succ]; rfl
              go_simp
              go_wp2_with fail
              refine hK.out _ _ (fun _ => Keep.out) ?_
              clear hK K
              try simp only [Act.put, List.setIfInBounds_toArray, List.set_cons_zero, List.set_cons_succ]
              have q8 := HQc.out
              have q9 := HQf.out
              refine anyE_one (i := 8) (o := ?oi17) (by kernel_rfl) ?hi17 (fun K hK => ?step17)
              case hi17 => simp only [List.getElem?_toArray, List.getElem?_cons_zero, List.getElem?_cons_succ]; rfl
              go_simp
              refine hK.out _ _ (fun h => absurd h (by decide)) ?_
              clear hK K
              try simp only [Act.put, List.setIfInBounds_toArray, List.set_cons_zero, List.set_cons_succ]
              refine anyE_done (by kernel_rfl) ?_ _
              generalize wi1.setCell ⟨q, r, none⟩ (.int .i64 y) = w13 at *
              obtain ⟨e13, fz13⟩ := E13.out
              go_wp2_with (go_at_call 105; refine CS.out.mono ?_; rintro e w14 ⟨A', c', rfl, hown, hb14⟩; have e14 := (hb14.cell (p := ⟨g, i * 2, none⟩) hg13).trans e13; have fz14 : w14.frozen? ⟨g, i * 2, none⟩ = false := (World.frozen?_of_block (hb14.block g hg13)).trans fz13; have hg14 : g < w14.heap.size := Nat.lt_of_lt_of_le hg13 hb14.size)
              obtain ⟨v2', hrep, v1, ev⟩ := HPut.out.repl (k := i) (by rw [List.length_set]; exact hil) hlo4 hb14 hown rfl
              have hset : ((exK m (x, y) i).set i ((m[i]'him).1.set r y, (m[i]'him).2)).set i (exM (m[i]'him).1 (x, y), (((exK m (x, y) i).set i ((m[i]'him).1.set r y, (m[i]'him).2))[i]'(by rw [List.length_set]; exact hil)).2) = exK m (x, y) (i + 1) := by
                rw [List.set_set, ← exK_set m (x, y) him]
                simp
              rw [hset] at hrep
              have HRep := Lib.hid hrep
              have hgb := HIn.out.1 g rfl
              have HRs5 := Lib.hid ((HRs4.out.below hb14).put ⟨Hmid.out.2, Nat.lt_succ_self _⟩ hgb hlog (i * 2) (.slice A' (exM (m[i]'him).1 (x, y)).length c'))
              have HIn5 := Lib.hid (HIn.out.set (v1 := .slice A' (exM (m[i]'him).1 (x, y)).length c') ev fun q2 hq2 => by
                have := (hown.lt q2 hq2).1
                have := Hgs.out
                exact ⟨.inr (by omega), by omega⟩)
              have hgs5 : Gs < (w14.setCell ⟨g, i * 2, none⟩ (.slice A' (exM (m[i]'him).1 (x, y)).length c')).heap.size := by
                have : Gs < w14.heap.size := Nat.lt_of_lt_of_le hgs4 hb14.size
                simpa [World.setCell] using this
              go_roundw
              case rel => exact ⟨i + 1, ps.set i (Value.slice A' (exM (m[i]'him).1 (x, y)).length c', v2'), by omega, by go_num, HRep.out, HIn5.out, HRs5.out, HOk2.out, hgs5⟩
              case measure => simp [intOf]; omega
            · have hyi : (i : Int) ≤ y := by omega
              have HNo := Lib.hid (HBa.out fun hex => hy (hex i him hx))
              go_wp2_with fail
              refine wp_region_E (S := fun W => W.cell? ⟨g, i * 2, none⟩ = some (.slice A1 np c1) ∧ W.cell? ⟨Gs, 0, none⟩ = some (.int .i64 x)) (E := fun _ => false) (by kernel_rfl) ?_
              have hbi : Below wr.heap.size wr wr.drew := (Below.refl _ _).drew
              have ci := Lib.hid (ciW.out wr.drew hbi)
              have Keep := Lib.hid (show wr.drew.cell? ⟨g, i * 2, none⟩ = some (.slice A1 np c1) ∧ wr.drew.cell? ⟨Gs, 0, none⟩ = some (.int .i64 x) from ⟨e0, s0⟩)
              have HRs2 := Lib.hid (HRs.out.below hbi)
              have hgs2 : Gs < wr.drew.heap.size := Nat.lt_of_lt_of_le hgsw hbi.size
              generalize wr.drew = wi0 at *
              have hS := Keep.out
              clear hbi ciW ciH
              refine anyE_tk 0 30 (oi := ?oi18) (v := ?v18) ?hi18 ?hd18 (by kernel_rfl) (by kernel_rfl) (by kernel_rfl) ?hQ18 ?hy18 hS ?rest18
              case hi18 => simp only [List.getElem?_toArray, List.getElem?_cons_zero, List.getElem?_cons_succ]; rfl
              case hd18 => rfl
              case hQ18 => exact fun _ _ _ h => h
              case hy18 => (refine Or.inl ⟨by rfl, ?_⟩; intro w hSw; (try dsimp only at hSw); go_simp; try with_reducible rfl)
              simp only [List.setIfInBounds_toArray, List.set_cons_zero, List.set_cons_succ]
              refine anyE_tk 1 31 (oi := ?oi19) (v := ?v19) ?hi19 ?hd19 (by kernel_rfl) (by kernel_rfl) (by kernel_rfl) ?hQ19 ?hy19 hS ?rest19
              case hi19 => simp only [List.getElem?_toArray, List.getElem?_cons_zero, List.getElem?_cons_succ]; rfl
              case hd19 => rfl
              case hQ19 => exact fun _ _ _ h => h
              case hy19 => (refine Or.inl ⟨by rfl, ?_⟩; intro w hSw; (try dsimp only at hSw); go_simp; try with_reducible rfl)
              simp only [List.setIfInBounds_toArray, List.set_cons_zero, List.set_cons_succ]
              refine anyE_tk 2 32 (oi := ?oi20) (v := ?v20) ?hi20 ?hd20 (by kernel_rfl) (by kernel_rfl) (by kernel_rfl) ?hQ20 ?hy20 hS ?rest20
              case hi20 => simp only [List.getElem?_toArray, List.getElem?_cons_zero, List.getElem?_cons_succ]; rfl
              case hd20 => rfl
              case hQ20 => exact fun _ _ _ h => h
              case hy20 => (refine Or.inl ⟨by rfl, ?_⟩; intro w hSw; (try dsimp only at hSw); go_simp; try with_reducible rfl)
              simp only [List.setIfInBounds_toArray, List.set_cons_zero, List.set_cons_succ]
              refine anyE_tk 3 33 (oi := ?oi21) (v := ?v21) ?hi21 ?hd21 (by kernel_rfl) (by kernel_rfl) (by kernel_rfl) ?hQ21 ?hy21 hS ?rest21
              case hi21 => simp only [List.getElem?_toArray, List.getElem?_cons_zero, List.getElem?_cons_succ]; rfl
              case hd21 => rfl
              case hQ21 => exact fun _ _ _ h => h
              case hy21 => (refine Or.inl ⟨by rfl, ?_⟩; intro w hSw; (try dsimp only at hSw); go_simp; try with_reducible rfl)
              simp only [List.setIfInBounds_toArray, List.set_cons_zero, List.set_cons_succ]
              refine anyE_tk 4 34 (oi := ?oi22) (v := ?v22) ?hi22 ?hd22 (by kernel_rfl) (by kernel_rfl) (by kernel_rfl) ?hQ22 ?hy22 hS ?rest22
              case hi22 => simp only [List.getElem?_toArray, List.getElem?_cons_zero, List.getElem?_cons_succ]; rfl
              case hd22 => rfl
              case hQ22 => exact fun _ _ _ h => h
              case hy22 => (refine Or.inl ⟨by rfl, ?_⟩; intro w hSw; (try dsimp only at hSw); go_simp; try with_reducible rfl)
              simp only [List.setIfInBounds_toArray, List.set_cons_zero, List.set_cons_succ]
              refine anyE_tk 5 35 (oi := ?oi23) (v := ?v23) ?hi23 ?hd23 (by kernel_rfl) (by kernel_rfl) (by kernel_rfl) ?hQ23 ?hy23 hS ?rest23
              case hi23 => simp only [List.getElem?_toArray, List.getElem?_cons_zero, List.getElem?_cons_succ]; rfl
              case hd23 => rfl
              case hQ23 => exact fun _ _ _ h => h
              case hy23 => (refine Or.inl ⟨by rfl, ?_⟩; intro w hSw; (try dsimp only at hSw); go_simp; try with_reducible rfl)
              simp only [List.setIfInBounds_toArray, List.set_cons_zero, List.set_cons_succ]
              clear hS
              refine anyE_one (i := 6) (o := ?oi24) (by kernel_rfl) ?hi24 (fun K hK => ?step24)
              case hi24 => simp only [List.getElem?_toArray, List.getElem?_cons_zero, List.getElem?_cons_succ]; rfl
              go_simp
              refine ci.out.mono ?_
              rintro e w7 ⟨rfl, hw7⟩
              subst w7
              go_wp2_with fail
              refine hK.out _ _ (fun _ => Keep.out) ?_
              clear hK K
              try simp only [Act.put, List.setIfInBounds_toArray, List.set_cons_zero, List.set_cons_succ]
              refine anyE_one (i := 7) (o := ?oi25) (by kernel_rfl) ?hi25 (fun K hK => ?step25)
              case hi25 => simp only [List.getElem?_toArray, List.getElem?_cons_zero, List.getElem?_cons_succ]; rfl
              go_simp
              go_wp2_with fail
              refine hK.out _ _ (fun _ => Keep.out) ?_
              clear hK K
              try simp only [Act.put, List.setIfInBounds_toArray, List.set_cons_zero, List.set_cons_succ]
              refine anyE_done (by kernel_rfl) ?_ _
              have HR1 := Lib.hid (HK1.out.below HRs2.out.2.2.2 HK1.out.lt)
              obtain ⟨t0, t1, t2, g0, g1, g2⟩ := blk3 HR1.out
              have hlR : w.heap.size + 1 < wi0.heap.size := HR1.out.lt
              clear s0 s1 y0 y1 y2
              obtain ⟨_, s1, _, _⟩ := blk2 HRs2.out.2.2.1
              go_wp2_with fail
              have HP := Lib.hid ((((Only.refl (w.heap.size + 1) wi0).put 0 (.int .i64 0)).put 1 (.slice none 0 0)).put 2 (.slice none 0 0))
              have HB2 := Lib.hid (((HR1.out.put 0 (.int .i64 0)).put 1 (.slice none 0 0)).put 2 (.slice none 0 0))
              have hlow := HB1.out.trans (HRs2.out.2.2.2.mono HB1.out.size)
              refine bodyPost_ret (results_cell_row2 rfl _ _ (w.heap.size + 1) 25 _ (0, 0) _ rfl HB2.out Tryd.underlying25 rfl (by kernel_rfl)) rfl ⟨.inr ⟨HNo.out, rfl⟩, hlow.trans (HP.out.below (Nat.le_succ _) hlow.size)⟩
          · have hix := idx_out hx
            rw [hix] at ciH
            have HSk := Lib.hid (HSkip.out hx)
            have HOk2 := Lib.hid (HOkS.out fun h => absurd h hx)
            go_wp2_with fail
            refine wp_region_E (S := fun W => W.cell? ⟨g, i * 2, none⟩ = some (.slice A1 np c1) ∧ W.cell? ⟨Gs, 0, none⟩ = some (.int .i64 x)) (E := fun _ => false) (by kernel_rfl) ?_
            have hbi : Below wr.heap.size wr wr.drew := (Below.refl _ _).drew
            have ci := Lib.hid (show Calls Tryd.prog 111 #[.slice A1 np c1, .int .i64 x] wr.drew fun e w' => e = .returned (.int .i64 (-1)) ∧ w' = wr.drew from by
              have := index_any A1 c1 wr.drew.heap.size (m[i]'him).1 x wr.drew (by have := Hnp.out; omega) (HI.out.below hbi hbi.size)
              rw [hix, ← Hnp.out] at this
              exact this)
            have Keep := Lib.hid (show wr.drew.cell? ⟨g, i * 2, none⟩ = some (.slice A1 np c1) ∧ wr.drew.cell? ⟨Gs, 0, none⟩ = some (.int .i64 x) from ⟨e0, s0⟩)
            have HIt2 := Lib.hid (HIt.out.below hbi)
            have HRs2 := Lib.hid (HRs.out.below hbi)
            have hgs2 : Gs < wr.drew.heap.size := Nat.lt_of_lt_of_le hgsw hbi.size
            generalize wr.drew = wi0 at *
            have hS := Keep.out
            clear hbi
            refine anyE_tk 0 30 (oi := ?oi26) (v := ?v26) ?hi26 ?hd26 (by kernel_rfl) (by kernel_rfl) (by kernel_rfl) ?hQ26 ?hy26 hS ?rest26
            case hi26 => simp only [List.getElem?_toArray, List.getElem?_cons_zero, List.getElem?_cons_succ]; rfl
            case hd26 => rfl
            case hQ26 => exact fun _ _ _ h => h
            case hy26 => (refine Or.inl ⟨by rfl, ?_⟩; intro w hSw; (try dsimp only at hSw); go_simp; try with_reducible rfl)
            simp only [List.setIfInBounds_toArray, List.set_cons_zero, List.set_cons_succ]
            refine anyE_tk 1 31 (oi := ?oi27) (v := ?v27) ?hi27 ?hd27 (by kernel_rfl) (by kernel_rfl) (by kernel_rfl) ?hQ27 ?hy27 hS ?rest27
            case hi27 => simp only [List.getElem?_toArray, List.getElem?_cons_zero, List.getElem?_cons_succ]; rfl
            case hd27 => rfl
            case hQ27 => exact fun _ _ _ h => h
            case hy27 => (refine Or.inl ⟨by rfl, ?_⟩; intro w hSw; (try dsimp only at hSw); go_simp; try with_reducible rfl)
            simp only [List.setIfInBounds_toArray, List.set_cons_zero, List.set_cons_succ]
            refine anyE_tk 2 32 (oi := ?oi28) (v := ?v28) ?hi28 ?hd28 (by kernel_rfl) (by kernel_rfl) (by kernel_rfl) ?hQ28 ?hy28 hS ?rest28
            case hi28 => simp only [List.getElem?_toArray, List.getElem?_cons_zero, List.getElem?_cons_succ]; rfl
            case hd28 => rfl
            case hQ28 => exact fun _ _ _ h => h
            case hy28 => (refine Or.inl ⟨by rfl, ?_⟩; intro w hSw; (try dsimp only at hSw); go_simp; try with_reducible rfl)
            simp only [List.setIfInBounds_toArray, List.set_cons_zero, List.set_cons_succ]
            refine anyE_tk 3 33 (oi := ?oi29) (v := ?v29) ?hi29 ?hd29 (by kernel_rfl) (by kernel_rfl) (by kernel_rfl) ?hQ29 ?hy29 hS ?rest29
            case hi29 => simp only [List.getElem?_toArray, List.getElem?_cons_zero, List.getElem?_cons_succ]; rfl
            case hd29 => rfl
            case hQ29 => exact fun _ _ _ h => h
            case hy29 => (refine Or.inl ⟨by rfl, ?_⟩; intro w hSw; (try dsimp only at hSw); go_simp; try with_reducible rfl)
            simp only [List.setIfInBounds_toArray, List.set_cons_zero, List.set_cons_succ]
            refine anyE_tk 4 34 (oi := ?oi30) (v := ?v30) ?hi30 ?hd30 (by kernel_rfl) (by kernel_rfl) (by kernel_rfl) ?hQ30 ?hy30 hS ?rest30
            case hi30 => simp only [List.getElem?_toArray, List.getElem?_cons_zero, List.getElem?_cons_succ]; rfl
            case hd30 => rfl
            case hQ30 => exact fun _ _ _ h => h
            case hy30 => (refine Or.inl ⟨by rfl, ?_⟩; intro w hSw; (try dsimp only at hSw); go_simp; try with_reducible rfl)
            simp only [List.setIfInBounds_toArray, List.set_cons_zero, List.set_cons_succ]
            refine anyE_tk 5 35 (oi := ?oi31) (v := ?v31) ?hi31 ?hd31 (by kernel_rfl) (by kernel_rfl) (by kernel_rfl) ?hQ31 ?hy31 hS ?rest31
            case hi31 => simp only [List.getElem?_toArray, List.getElem?_cons_zero, List.getElem?_cons_succ]; rfl
            case hd31 => rfl
            case hQ31 => exact fun _ _ _ h => h
            case hy31 => (refine Or.inl ⟨by rfl, ?_⟩; intro w hSw; (try dsimp only at hSw); go_simp; try with_reducible rfl)
            simp only [List.setIfInBounds_toArray, List.set_cons_zero, List.set_cons_succ]
            clear hS
            refine anyE_one (i := 6) (o := ?oi32) (by kernel_rfl) ?hi32 (fun K hK => ?step32)
            case hi32 => simp only [List.getElem?_toArray, List.getElem?_cons_zero, List.getElem?_cons_succ]; rfl
            go_simp
            refine ci.out.mono ?_
            rintro e w7 ⟨rfl, hw7⟩
            subst w7
            go_wp2_with fail
            refine hK.out _ _ (fun _ => Keep.out) ?_
            clear hK K
            try simp only [Act.put, List.setIfInBounds_toArray, List.set_cons_zero, List.set_cons_succ]
            refine anyE_one (i := 7) (o := ?oi33) (by kernel_rfl) ?hi33 (fun K hK => ?step33)
            case hi33 => simp only [List.getElem?_toArray, List.getElem?_cons_zero, List.getElem?_cons_succ]; rfl
            go_simp
            go_wp2_with fail
            refine hK.out _ _ (fun _ => Keep.out) ?_
            clear hK K
            try simp only [Act.put, List.setIfInBounds_toArray, List.set_cons_zero, List.set_cons_succ]
            refine anyE_done (by kernel_rfl) ?_ _
            go_wp2_with fail
            go_roundw
            case rel => exact ⟨i + 1, ps, by omega, by go_num, by rw [← HSk.out]; exact HIt2.out, HIn.out, HRs2.out, HOk2.out, hgs2⟩
            case measure => simp [intOf]; omega
        · obtain rfl : i = b.its.length := by omega
          have hOk := HGo.out (fun k hk hx => HOk.out k hk (by rw [← HMl.out]; exact hk) hx)
          have HEx2 := Lib.hid hOk
          have HIt2 := Lib.hid (show ItP W1.heap.size (.slice AI' b.its.length cI') wr ps (exK m (x, y) m.length) by rw [HMl.out]; exact HIt.out)
          have HIn2 := Lib.hid (HIn.out.imp (NB' := fun b => b < mid ∨ G + 1 ≤ b) fun q hq => hq.1)
          clear hOk
          go_wp2_with fail
          go_roundw
          case rel => exact ⟨j + 1, _, ps, by omega, by go_num, HEx2.out, HIt2.out, HIn2.out, HRs.out.1, HRs.out.2.1, HRs.out.2.2.2, (by have := Hgs.out; omega : G + 1 ≤ wr.heap.size)⟩
          case measure => simp [intOf]; omega
    · obtain rfl : j = ss.length := by omega
      have HR1 := Lib.hid (HK1.out.below HBr.out HK1.out.lt)
      obtain ⟨t0, t1, t2, g0, g1, g2⟩ := blk3 HR1.out
      have hlR : w.heap.size + 1 < wr.heap.size := HR1.out.lt
      have HM := Lib.hid (HAll.out m HEx.out)
      go_wp2_with fail
      have HP := Lib.hid ((((Only.refl (w.heap.size + 1) wr).put 0 (.int .i64 b.p)).put 1 (.slice AI' b.its.length cI')).put 2 (.slice AR' b.rus.length cR'))
      have HB2 := Lib.hid (((HR1.out.put 0 (.int .i64 b.p)).put 1 (.slice AI' b.its.length cI')).put 2 (.slice AR' b.rus.length cR'))
      have hlow := HB1.out.trans (HBr.out.mono HB1.out.size)
      refine bodyPost_ret (results_cell_row2 rfl _ _ (w.heap.size + 1) 25 _ (0, 0) _ rfl HB2.out Tryd.underlying25 rfl (by kernel_rfl)) rfl ⟨.inl ⟨m, AI', AR', cI', cR', HM.out, rfl, ?_, ?_⟩, hlow.trans (HP.out.below (Nat.le_succ _) hlow.size)⟩
      · exact (HIt.out.only HP.out HS0.out).itsN HMl.out.symm fun q hq => Nat.le_trans HB1.out.size hq
      · exact (HRu.out.keep (fun q hq e => by have := hq.1; have := Hmid.out.1; have := HS0.out; omega) HP.out).imp fun q hq => by have := hq.1; have := Hmid.out.1; have := HB1.out.size; omega
end Go.Proofs.YtgoojcjfhghmgaaDoor


set_option linter.unusedSimpArgs false
set_option linter.unusedVariables false
namespace Go.Proofs.YtgoojcjfhghmgaaDoor
open Go Go.RowKit

theorem il (l : List Nat) : (intL l).length = l.length := by simp [intL]
theorem own_sl {w : World} {base e size n : Nat} {v : Value} {xs : List Value} (h : w.ownsRow base e size v n xs) : ∃ A c, v = .slice A n c := by
  rcases h.2 with ⟨e1, e2⟩ | ⟨g, cap, cur, e1, _⟩
  · exact ⟨none, 0, by rw [e1, e2]⟩
  · exact ⟨some ⟨g, 0, none⟩, cap, e1⟩
theorem balc {w w' : World} {o : Obj} (h : Below w.heap.size w w') : Below w.heap.size w (w'.alloc o) := h.trans ((balloc (Below.refl _ _) _).mono h.size)
/-- The places of a set, listed. -/
theorem list_at {W0 : World} (hT0 : Tab W0) {ss : List (Int × Int)} (h8 : ss.length ≤ 8) (n : Nat) (hn : n < 2 ^ ss.length) (W : World) (hW : Below W0.heap.size W0 W) : Calls Tryd.prog 65 #[.int .i64 n] W fun e w' => ∃ A' c', e = .returned (.slice A' (bl n).length c') ∧ IntsAt w'.heap.size w' A' (intL (bl n)) ∧ Below W.heap.size W w' := by
  have h1 : n < 1152921504606846976 := Nat.lt_trans (set_small h8 hn) (by decide)
  have h2 : (bl n).length ≤ 1000 := Nat.le_trans (chS_facts h8 hn).2.1 (by decide)
  refine (list_any n h1 W (hT0.below hW hT0.2) h2).mono ?_
  rintro e w' ⟨v, rfl, hown, hd⟩
  obtain ⟨A', c', rfl⟩ := own_sl hown
  obtain ⟨A4, c4, hv4, hI4⟩ := IntsAt.of_nat hown
  injection hv4 with q1 q2 q3
  subst q1
  exact ⟨A', c', rfl, hI4, hd⟩
theorem info79 : (Tryd.prog.info? 79).map (fun i => (i.zero, i.size, i.bytes)) = some (some (.agg #[.int .i64 0, .int .i64 0]), 2, 16) := by kernel_rfl

set_option maxRecDepth 100000 in
set_option maxHeartbeats 16000000 in
theorem Fewest_good (AI AR : Option Addr) (cI cR : Nat) (A : Option Addr) (c : Nat) (A2 : Option Addr) (c2 B : Nat) (b : Bk) (item : Int) (av : List Int) (ss : List (Int × Int)) (w : World) (hB : B ≤ w.heap.size) (h : ItsAt B w AI b.its) (h' : RusAt B w AR b.rus) (hs : Short b) (hi : IntsAt B w A av) (hal : av.length ≤ 100) (hp : PairsAt B w A2 ss) (hm : ss.length ≤ 1000) (hT : Tab w) (h0 : nmR b item = 0) (hS : isS av b.p = true) (h2 : swE b.its.length ss = 0) :
    Calls Tryd.prog 55 #[.agg #[.int .i64 b.p, .slice AI b.its.length cI, .slice AR b.rus.length cR], .int .i64 item, .slice A av.length c, .slice A2 ss.length c2] w fun e w' =>
      ∃ A' c', e = .returned (.tuple #[.slice A' ((feV b item av ss).getD []).length c', .bool (feV b item av ss).isSome, .int .i64 (feE b item av ss)]) ∧ IntsAt w'.heap.size w' A' (intL ((feV b item av ss).getD [])) ∧ Below w.heap.size w w' := by
  have hb0 := Blk.new w 25 #[.int .i64 b.p, .slice AI b.its.length cI, .slice AR b.rus.length cR]
  have hw0 : Below w.heap.size w (w.alloc (.cells #[.int .i64 b.p, .slice AI b.its.length cI, .slice AR b.rus.length cR] 25)) := (Below.refl _ _).alloc (Nat.le_refl _) _
  obtain ⟨W0, hW0⟩ : ∃ W0, W0 = w.alloc (.cells #[.int .i64 b.p, .slice AI b.its.length cI, .slice AR b.rus.length cR] 25) := ⟨_, rfl⟩
  rw [← hW0] at hb0 hw0
  have hlt : w.heap.size < W0.heap.size := hb0.lt
  have hI := (h.below (Below.refl _ _) hB).below hw0 (Nat.le_of_lt hlt)
  have hR := (h'.below (Below.refl _ _) hB).below hw0 (Nat.le_of_lt hlt)
  have hA := (hi.below (Below.refl _ _) hB).below hw0 (Nat.le_of_lt hlt)
  have hP := (hp.below (Below.refl _ _) hB).below hw0 (Nat.le_of_lt hlt)
  have hT0 := hT.below hw0 hT.2
  have cn := Lib.hid (named_any AI AR cI cR _ b item W0 (Nat.le_refl _) hI hR hs)
  have cS := Lib.hid (fun W (hW : Below W0.heap.size W0 W) => isSet_any A c W0.heap.size av b.p W hW.size (hA.below hW (Nat.le_refl _)) (by omega))
  have cw := Lib.hid (fun W (hW : Below W0.heap.size W0 W) => swappable_any AI AR cI cR A2 c2 W0.heap.size b ss W hW.size (hP.below hW (Nat.le_refl _)) hs.1 hm)
  have HX := Lib.hid (fun W (hW : Below W0.heap.size W0 W) => blk3 (hb0.below hW hlt))
  have Hw := Lib.hid hw0
  have tok := Lib.hid (Nat.le_refl 0)
  obtain ⟨hv0, hi0, hi1⟩ := nm_zero h0
  have hv := vl_zero hv0
  have HE := Lib.hid (show feE b item av ss = 0 by unfold feE; rw [if_pos h0, if_pos hS, h2])
  obtain ⟨m, rfl⟩ : ∃ m : Nat, item = (m : Int) := ⟨item.toNat, (Int.toNat_of_nonneg hi0).symm⟩
  have hav := isS_mem hS
  have hp10 := hv.p1
  obtain ⟨al, rfl, hal10⟩ : ∃ al : List Nat, av = intL al ∧ ∀ x ∈ al, x < 10 := ⟨natL av, (int_nat fun x hx => (hav x hx).1).symm, fun x hx => by obtain ⟨y, hy, rfl⟩ := List.mem_map.1 hx; have := hav y hy; omega⟩
  have HV := Lib.hid (show feV b (m : Int) (intL al) ss = feN b m al ss (2 ^ ss.length) by unfold feV; rw [if_pos HE.out, Int.toNat_natCast, natL_intL])
  obtain ⟨h8, hsw⟩ := sw_zero h2
  rw [il] at hal cS ⊢
  rw [h0] at cn
  rw [hS] at cS
  rw [h2] at cw
  have hmi : m < b.its.length := by omega
  have HC := Lib.hid (fun n (hn : n < 2 ^ ss.length) => chS_facts h8 hn)
  have HCt := Lib.hid (fun n => chTo_all ss n)
  have HCs := Lib.hid (fun n k (hk : k < (bl n).length) (hi : (bl n)[k] < ss.length) => chTo_succ hk hi)
  have cl := Lib.hid (list_at hT0 h8)
  have cc := Lib.hid (fun (A1 A3 : Option Addr) (c1 c3 : Nat) (l l' : List Nat) (hl : l.length ≤ 8) (hl' : l'.length ≤ 8) W (h1 : IntsAt W.heap.size W A1 (intL l)) (h3 : IntsAt W.heap.size W A3 (intL l')) => show Calls Tryd.prog 102 #[.slice A1 l.length c1, .slice A3 l'.length c3] W fun e w' => e = .returned (.int .i64 (cmpL (intL l) (intL l'))) ∧ W = w' by
    have := slCompare_any A1 A3 c1 c3 W.heap.size (intL l) (intL l') W h1 h3 (by rw [il]; omega) (by rw [il]; omega)
    rwa [il, il] at this)
  have ce := Lib.hid (fun (A3 : Option Addr) (c3 n : Nat) (hn : n < 2 ^ ss.length) W (hW : Below W0.heap.size W0 W) (h3 : PairsAt W.heap.size W A3 (chS ss n)) => show Calls Tryd.prog 95 #[.agg #[.int .i64 b.p, .slice AI b.its.length cI, .slice AR b.rus.length cR], .slice A3 (bl n).length c3] W fun e w' =>
      ((∃ mm AI' AR' cI' cR', exN b.its (chS ss n) = some mm ∧ e = .returned (.tuple #[.agg #[.int .i64 b.p, .slice AI' b.its.length cI', .slice AR' b.rus.length cR'], .bool true]) ∧ ItsAt w'.heap.size w' AI' mm ∧ RusAt w'.heap.size w' AR' b.rus) ∨
        (¬ feG b m al ss n ∧ e = .returned (.tuple #[.agg #[.int .i64 0, .slice none 0 0, .slice none 0 0], .bool false]))) ∧ Below W.heap.size W w' by
    obtain ⟨f1, f2, f3⟩ := chS_facts h8 hn
    have := exchanged_any AI AR cI cR A3 c3 W.heap.size b (chS ss n) W (Nat.le_refl _) (hI.below hW hW.size) (hR.below hW hW.size) hs (vl_ord hv) h3 (by rw [chS_length]; exact f2) (fun s hs => (hsw s (f3 s hs)).2.2.1)
    rw [chS_length] at this
    refine this.mono ?_
    rintro e w' ⟨⟨mm, AI', AR', cI', cR', hex, rfl, g1, g2⟩ | ⟨hex, rfl⟩, hd⟩
    · exact ⟨.inl ⟨mm, AI', AR', cI', cR', hex, rfl, g1.at, g2.at⟩, hd⟩
    · exact ⟨.inr ⟨feG_none hex, rfl⟩, hd⟩)
  have cb := Lib.hid (fun (n : Nat) (mm : List It) (AI' AR' : Option Addr) (cI' cR' : Nat) (hn : n < 2 ^ ss.length) (hex : exN b.its (chS ss n) = some mm) W (hW : Below W0.heap.size W0 W) (g1 : ItsAt W.heap.size W AI' mm) (g2 : RusAt W.heap.size W AR' b.rus) =>
      show Calls Tryd.prog 72 #[.agg #[.int .i64 b.p, .slice AI' b.its.length cI', .slice AR' b.rus.length cR'], .int .i64 m] W fun e w' => ∃ x : Nat, e = .returned (.int .i64 x) ∧ ((feG b m al ss n ∧ (bits BinOp.and IntKind.i64 (x : Int) (mk al : Int) == 0) = true) ∨ (¬ feG b m al ss n ∧ (bits BinOp.and IntKind.i64 (x : Int) (mk al : Int) == 0) = false)) ∧ Below W.heap.size W w' by
    obtain ⟨f1, f2, f3⟩ := chS_facts h8 hn
    obtain ⟨hv', hml⟩ := exN_vbk hv (fun s hs => (hsw s (f3 s hs)).2.2.1) hex
    have := label_any AI' AR' cI' cR' W.heap.size ⟨b.p, mm, b.rus⟩ m W (Nat.le_refl _) g1 g2 (vbk_short hv') hv' (by show m < mm.length; omega) (hT0.below hW hT0.2)
    dsimp only at this
    rw [hml] at this
    refine this.mono ?_
    rintro e w' ⟨x, rfl, hx, hd⟩
    refine ⟨x, rfl, ?_, hd⟩
    have hxl : x < 2 ^ 60 := Nat.lt_of_lt_of_le hx.2 (Nat.pow_le_pow_right (by decide) (by show b.p.toNat ≤ 60; omega))
    have hml2 : mk al < 2 ^ 60 := mk_lt fun q hq => by have := hal10 q hq; omega
    rw [and_nat _ _ (Nat.lt_trans hxl (by decide)) (Nat.lt_trans hml2 (by decide))]
    have hz : (((x &&& mk al : Nat) : Int) == 0) = decide (x &&& mk al = 0) := by
      rw [Bool.eq_iff_iff]; simp
    rw [hz]
    have hg := (feG_iff (av := al) hex hx).trans (and_mask (x := x) (av := al)).symm
    by_cases hG : feG b m al ss n
    · exact .inl ⟨hG, by simpa using hg.1 hG⟩
    · exact .inr ⟨hG, by simpa using fun h => hG (hg.2 h)⟩)
  have cm := Lib.hid (fun W (hW : Below W0.heap.size W0 W) => mask_any A c W0.heap.size al W (hA.below hW (Nat.le_refl _)) (by omega) (fun x hx => by have := hal10 x hx; omega))
  have HF0 := Lib.hid (show feN b m al ss 0 = none from rfl)
  have HFt := Lib.hid (fun n => feN_take (b := b) (item := m) (av := al) (ss := ss) (n := n))
  have HFl := Lib.hid (fun n l => feN_late (b := b) (item := m) (av := al) (ss := ss) (n := n) (l := l))
  have HFb := Lib.hid (fun n => feN_bad (b := b) (item := m) (av := al) (ss := ss) (n := n))
  have HFs := Lib.hid (fun n l (h : feN b m al ss n = some l) (hn : n ≤ 2 ^ ss.length) => show l.length ≤ 8 by obtain ⟨k, hk, rfl, _⟩ := feN_some h; exact (chS_facts h8 (by omega)).2.1)
  have HP := Lib.hid hP
  have hNN : 2 ^ ss.length ≤ 256 := Nat.le_trans (Nat.pow_le_pow_right (by decide) h8) (by decide)
  have hpw : wrap64 ((2 : Int) ^ ss.length) = ((2 ^ ss.length : Nat) : Int) := by rw [pow_wrap (show ss.length < 63 by omega)]; simp
  clear hi0 hi1 hv hv0 hS h0 h2 h h' hi hp hs hI hR hA hP hb0 hw0 hT hT0 hB hav hal10 hsw hp10 hmi
  generalize hNe : 2 ^ ss.length = NN at *
  clear hNe
  generalize feN b m al ss = fn at *
  generalize feG b m al ss = fg at *
  obtain ⟨j0, hj, hy0, hy1, hy2⟩ := info_parts info79
  go_enter Tryd.func55, Tryd.ntmps55
  go_wp2_with (first
    | (have tk := tok; clear tok; go_at_call 67; rw [← hW0]; clear hW0; refine cn.out.mono ?_; rintro e w1 ⟨rfl, hd1⟩; have tok2 := tk; obtain ⟨z0, z1, z2, _⟩ := HX.out _ hd1)
    | (have tk := tok2; clear tok2; go_at_call 59; refine (cS.out _ hd1).mono ?_; rintro e w2 ⟨rfl, hd2⟩; have hb2 := hd1.trans (hd2.mono hd1.size); clear z0 z1 z2; obtain ⟨z0, z1, z2, _⟩ := HX.out _ hb2; have tok3 := tk)
    | (have tk := tok3; clear tok3; go_at_call 94; refine (cw.out _ hb2).mono ?_; rintro e w3 ⟨rfl, hd3⟩; have hb3 := hb2.trans (hd3.mono hb2.size)))
  rw [hpw]
  clear h8 hpw
  have HB3 := Lib.hid hb3
  clear hb3 hb2 hd1 hd2 hd3 z0 z1 z2
  go_loopw [13, 14, 42] (fun bv fv nv wr => ∃ (n : Nat) (o : Option (List Nat)) (A1 : Option Addr) (c1 : Nat), n ≤ NN ∧ nv = .int .i64 n ∧ bv = .slice A1 (o.getD []).length c1 ∧ fv = .bool o.isSome ∧ Aside (fn n = o) ∧ Aside (IntsAt wr.heap.size wr A1 (intL (o.getD []))) ∧ Aside (Below W0.heap.size W0 wr)) (fun _ _ nv _ => NN - (intOf nv).toNat)
  case atStart => exact ⟨0, none, none, 0, Nat.zero_le _, rfl, rfl, rfl, HF0.out, IntsAt.nil _ _ _, HB3.out⟩
  case round =>
    clear HB3
    obtain ⟨n, o, A1, c1, hn, rfl, rfl, rfl, hf, hin, hbr⟩ := hrel
    have HF := Lib.hid hf.out
    have HIn := Lib.hid hin.out
    have HBr := Lib.hid hbr.out
    clear hf hin hbr
    by_cases hltn : n < NN
    · have hnI : (n : Int) < (NN : Int) := by omega
      obtain ⟨hii, hl8, _⟩ := HC.out n hltn
      have HII := Lib.hid hii
      have cl0 := Lib.hid (cl.out n hltn wr HBr.out)
      clear hii
      cases o with
      | none =>
        simp only [Option.getD_none, List.length_nil, Option.isSome_none] at HIn ⊢
        have HTk := Lib.hid (fun h => HFt.out n (fun l hl => by rw [HF.out] at hl; cases hl) h)
        go_wp2_with ((go_at_call 65; refine cl0.out.mono ?_; rintro e w4 ⟨A4, c4, rfl, hI4, hd4⟩; have HI4 := Lib.hid hI4; have hd4 := Lib.hid hd4; clear hI4))
        go_loopw [17, 70] (fun lv iv wi => ∃ k : Nat, k ≤ (bl n).length ∧ iv = .int .i64 k ∧ Aside (wi.ownsRow w4.heap.size 79 2 lv k (flat2 (chTo ss n k))) ∧ Aside (Below w4.heap.size w4 wi)) (fun _ iv _ => (bl n).length - (intOf iv).toNat)
        case atStart => exact ⟨0, Nat.zero_le _, rfl, World.ownsRow_nil _ _ _ _, Below.refl _ _⟩
        case round =>
          obtain ⟨k, hk, rfl, hown, hbi⟩ := hrel
          have HO := Lib.hid hown.out
          have Hbi := Lib.hid hbi.out
          clear hown hbi
          by_cases hkl : k < (bl n).length
          · have hkI : (k : Int) < ((bl n).length : Int) := by omega
            obtain ⟨b1, o1, rfl, _, y0⟩ := IntsAt.at (IntsAt.below HI4.out Hbi.out Hbi.out.size) (k := k) (by rw [il]; exact hkl)
            rw [show (intL (bl n))[k]'(by rw [il]; exact hkl) = (((bl n)[k] : Nat) : Int) by simp [intL]] at y0
            have hi' : (bl n)[k] < ss.length := HII.out _ (List.getElem_mem hkl)
            have HS := Lib.hid (HCs.out n k hkl hi')
            obtain ⟨b2, o2, rfl, _, p0, p1⟩ := PairsAt.at (HP.out.below (HBr.out.trans ((hd4.out.trans (Hbi.out.mono hd4.out.size)).mono HBr.out.size)) (HBr.out.trans ((hd4.out.trans (Hbi.out.mono hd4.out.size)).mono HBr.out.size)).size) hi'
            generalize ss[(bl n)[k]] = s at *
            generalize (bl n)[k] = i at *
            obtain ⟨x, y⟩ := s
            simp only at p0 p1
            have hiI : (i : Int) < (ss.length : Int) := by omega
            go_wp2_with (at_builtin; refine wpList_append_own _ rfl _ _ 67 rfl w4.heap.size 79 j0 _ 2 16 Tryd.underlying67 hj hy0 hy1 hy2 rfl (by decide) _ _ _ rfl (HO.out.alloc _) ⟨_, 0, none⟩ 1 1 _ rfl rfl (cells_new _ [.int .i64 x, .int .i64 y] 79) (by simp [Value.oneCell']) (by simp only [maxLen]; omega) (by omega) (Hbi.out.alloc Hbi.out.size _).size ?_; intro v' w7 hown7 hg7 _)
            obtain ⟨A7, c7, rfl⟩ := own_sl hown7
            have b7 : Below w4.heap.size w4 w7 := (Hbi.out.alloc Hbi.out.size _).grown hg7 (Hbi.out.alloc Hbi.out.size _).size (fun x hx => (HO.out.lt x hx).1)
            go_roundw
            case rel => exact ⟨k + 1, by omega, by go_num, by rw [HS.out, flat2_append]; exact hown7, b7⟩
            case measure => simp [intOf]; omega
          · obtain rfl : k = (bl n).length := by omega
            have hkI : ((bl n).length : Int) ≤ ((bl n).length : Int) := Int.le_refl _
            have hown := HO.out
            rw [HCt.out n] at hown
            obtain ⟨A5, c5, rfl⟩ := own_sl hown
            have h5 := Lib.hid (show PairsAt wr.heap.size wr A5 (chS ss n) from PairsAt.of_own (by rw [chS_length]; exact hown))
            have HBw := Lib.hid (HBr.out.trans ((hd4.out.trans (Hbi.out.mono hd4.out.size)).mono HBr.out.size))
            have HBn := Lib.hid (hd4.out.trans (Hbi.out.mono hd4.out.size))
            have HI4w := Lib.hid (IntsAt.below HI4.out Hbi.out Hbi.out.size)
            obtain ⟨z0, z1, z2, _⟩ := HX.out _ HBw.out
            clear hown HO
            go_wp2_with fail
            go_at_call 95
            refine (ce.out A5 c5 n hltn wr HBw.out h5.out).mono ?_
            rintro e w6 ⟨⟨mm, AI', AR', cI', cR', hex, rfl, hI6, hR6⟩ | ⟨hng, rfl⟩, hd6⟩
            · have hba : Below w6.heap.size w6 (w6.alloc (.cells #[.int .i64 b.p, .slice AI' b.its.length cI', .slice AR' b.rus.length cR'] 25)) := balloc (Below.refl _ _) _
              have HI7 := Lib.hid (hI6.below hba hba.size)
              have HR7 := Lib.hid (hR6.below hba hba.size)
              have hbw7 := HBw.out.trans ((hd6.trans (hba.mono hd6.size)).mono HBw.out.size)
              have HB7 := Lib.hid hbw7
              have HD7 := Lib.hid (HBn.out.trans ((hd6.trans (hba.mono hd6.size)).mono HBn.out.size))
              have HD6 := Lib.hid (hd6.trans (hba.mono hd6.size))
              have HEx := Lib.hid hex
              have HK7 := Lib.hid (Blk.new w6 25 #[.int .i64 b.p, .slice AI' b.its.length cI', .slice AR' b.rus.length cR'])
              clear hI6 hR6 hex hd6 hbw7 hba z0 z1 z2
              go_wp2_with fail
              generalize w6.alloc (.cells #[.int .i64 b.p, .slice AI' b.its.length cI', .slice AR' b.rus.length cR'] 25) = w7 at *
              obtain ⟨z0, z1, z2, _⟩ := blk3 HK7.out
              go_wp2_with fail
              go_at_call 72
              refine (cb.out n mm AI' AR' cI' cR' hltn HEx.out w7 HB7.out HI7.out HR7.out).mono ?_
              rintro e w8 ⟨x, rfl, ⟨hG, hz⟩ | ⟨hG, hz⟩, hd8⟩
              · have hb8 := HB7.out.trans (hd8.mono HB7.out.size)
                have cm8 := Lib.hid (cm.out w8 hb8)
                have HTG := Lib.hid (HTk.out hG)
                go_wp2_with (go_at_call 76; refine cm8.out.mono ?_; rintro e w9 ⟨rfl, rfl⟩)
                go_roundw
                case rel => exact ⟨n + 1, some (bl n), A4, c4, by omega, by go_num, rfl, rfl, HTG.out, IntsAt.below HI4w.out (HD6.out.trans (hd8.mono HD6.out.size)) (HD6.out.trans (hd8.mono HD6.out.size)).size, hb8⟩
                case measure => simp [intOf]; omega
              · have hb8 := HB7.out.trans (hd8.mono HB7.out.size)
                have cm8 := Lib.hid (cm.out w8 hb8)
                have HTG := Lib.hid ((HFb.out n hG).trans HF.out)
                go_wp2_with (go_at_call 76; refine cm8.out.mono ?_; rintro e w9 ⟨rfl, rfl⟩)
                go_roundw
                case rel => exact ⟨n + 1, none, A1, c1, by omega, by go_num, rfl, rfl, HTG.out, IntsAt.below HIn.out (HD7.out.trans (hd8.mono HD7.out.size)) (HD7.out.trans (hd8.mono HD7.out.size)).size, hb8⟩
                case measure => simp [intOf]; omega
            · go_wp2_with fail
              go_roundw
              case rel => exact ⟨n + 1, none, A1, c1, by omega, by go_num, rfl, rfl, (HFb.out n hng).trans HF.out, IntsAt.below HIn.out (HBn.out.trans ((balc hd6).mono HBn.out.size)) (HBn.out.trans ((balc hd6).mono HBn.out.size)).size, HBw.out.trans ((balc hd6).mono HBw.out.size)⟩
              case measure => simp [intOf]; omega
      | some l =>
        simp only [Option.getD_some, Option.isSome_some] at HIn ⊢
        have hll8 := HFs.out n l HF.out hn
        by_cases hq : l.length < (bl n).length
        · have HQ := Lib.hid (show frB (intL (bl n)) (intL l) = false by rw [frB_long (by rw [il, il]; omega), il, il]; simp; omega)
          have hg1 : decide (l.length < (bl n).length) = true := by simp; omega
          go_wp2_with ((go_at_call 65; refine cl0.out.mono ?_; rintro e w4 ⟨A4, c4, rfl, hI4, hd4⟩; have HI4 := Lib.hid hI4; have hd4 := Lib.hid hd4; clear hI4))
          go_roundw
          case rel => exact ⟨n + 1, some l, A1, c1, by omega, by go_num, rfl, rfl, HFl.out n l HF.out HQ.out, IntsAt.below HIn.out hd4.out hd4.out.size, HBr.out.trans (hd4.out.mono HBr.out.size)⟩
          case measure => simp [intOf]; omega
        · have hg1 : decide (l.length < (bl n).length) = false := by simp; omega
          by_cases hq2 : (bl n).length = l.length
          · have hg2 : (((bl n).length : Int) == (l.length : Int)) = true := by simp [hq2]
            have HQ0 := Lib.hid (show frB (intL (bl n)) (intL l) = decide (cmpL (intL (bl n)) (intL l) < 0) from if_pos (by rw [il, il]; exact hq2))
            clear hq hq2
            cases hz : decide (cmpL (intL (bl n)) (intL l) < 0) with
            | false =>
              have hg3 : decide ((0 : Int) ≤ cmpL (intL (bl n)) (intL l)) = true := by simp at hz ⊢; omega
              have HQ := Lib.hid (HQ0.out.trans hz)
              clear hz HQ0
              have cc0 := Lib.hid (fun A4 c4 => cc.out A4 A1 c4 c1 (bl n) l hl8 hll8)
              generalize cmpL (intL (bl n)) (intL l) = z at *
              go_wp2_with (first
                | (go_at_call 65; refine cl0.out.mono ?_; rintro e w4 ⟨A4, c4, rfl, hI4, hd4⟩; have HI4 := Lib.hid hI4; have hd4 := Lib.hid hd4; clear hI4)
                | (go_at_call 102; refine (cc0.out A4 c4 _ HI4.out (IntsAt.below HIn.out hd4.out hd4.out.size)).mono ?_; rintro e w5 ⟨rfl, rfl⟩))
              go_roundw
              case rel => exact ⟨n + 1, some l, A1, c1, by omega, by go_num, rfl, rfl, HFl.out n l HF.out HQ.out, IntsAt.below HIn.out hd4.out hd4.out.size, HBr.out.trans (hd4.out.mono HBr.out.size)⟩
              case measure => simp [intOf]; omega
            | true =>
              have hg3 : decide ((0 : Int) ≤ cmpL (intL (bl n)) (intL l)) = false := by simp at hz ⊢; omega
              have HTk := Lib.hid (fun h => HFt.out n (fun l' hl => by rw [HF.out] at hl; injection hl with hl; subst hl; exact HQ0.out.trans hz) h)
              clear hz HQ0
              have cc0 := Lib.hid (fun A4 c4 => cc.out A4 A1 c4 c1 (bl n) l hl8 hll8)
              generalize cmpL (intL (bl n)) (intL l) = z at *
              go_wp2_with (first
                | (go_at_call 65; refine cl0.out.mono ?_; rintro e w4 ⟨A4, c4, rfl, hI4, hd4⟩; have HI4 := Lib.hid hI4; have hd4 := Lib.hid hd4; clear hI4)
                | (go_at_call 102; refine (cc0.out A4 c4 _ HI4.out (IntsAt.below HIn.out hd4.out hd4.out.size)).mono ?_; rintro e w5 ⟨rfl, rfl⟩))
              go_loopw [17, 70] (fun lv iv wi => ∃ k : Nat, k ≤ (bl n).length ∧ iv = .int .i64 k ∧ Aside (wi.ownsRow w4.heap.size 79 2 lv k (flat2 (chTo ss n k))) ∧ Aside (Below w4.heap.size w4 wi)) (fun _ iv _ => (bl n).length - (intOf iv).toNat)
              case atStart => exact ⟨0, Nat.zero_le _, rfl, World.ownsRow_nil _ _ _ _, Below.refl _ _⟩
              case round =>
                obtain ⟨k, hk, rfl, hown, hbi⟩ := hrel
                have HO := Lib.hid hown.out
                have Hbi := Lib.hid hbi.out
                clear hown hbi
                by_cases hkl : k < (bl n).length
                · have hkI : (k : Int) < ((bl n).length : Int) := by omega
                  obtain ⟨b1, o1, rfl, _, y0⟩ := IntsAt.at (IntsAt.below HI4.out Hbi.out Hbi.out.size) (k := k) (by rw [il]; exact hkl)
                  rw [show (intL (bl n))[k]'(by rw [il]; exact hkl) = (((bl n)[k] : Nat) : Int) by simp [intL]] at y0
                  have hi' : (bl n)[k] < ss.length := HII.out _ (List.getElem_mem hkl)
                  have HS := Lib.hid (HCs.out n k hkl hi')
                  obtain ⟨b2, o2, rfl, _, p0, p1⟩ := PairsAt.at (HP.out.below (HBr.out.trans ((hd4.out.trans (Hbi.out.mono hd4.out.size)).mono HBr.out.size)) (HBr.out.trans ((hd4.out.trans (Hbi.out.mono hd4.out.size)).mono HBr.out.size)).size) hi'
                  generalize ss[(bl n)[k]] = s at *
                  generalize (bl n)[k] = i at *
                  obtain ⟨x, y⟩ := s
                  simp only at p0 p1
                  have hiI : (i : Int) < (ss.length : Int) := by omega
                  go_wp2_with (at_builtin; refine wpList_append_own _ rfl _ _ 67 rfl w4.heap.size 79 j0 _ 2 16 Tryd.underlying67 hj hy0 hy1 hy2 rfl (by decide) _ _ _ rfl (HO.out.alloc _) ⟨_, 0, none⟩ 1 1 _ rfl rfl (cells_new _ [.int .i64 x, .int .i64 y] 79) (by simp [Value.oneCell']) (by simp only [maxLen]; omega) (by omega) (Hbi.out.alloc Hbi.out.size _).size ?_; intro v' w7 hown7 hg7 _)
                  obtain ⟨A7, c7, rfl⟩ := own_sl hown7
                  have b7 : Below w4.heap.size w4 w7 := (Hbi.out.alloc Hbi.out.size _).grown hg7 (Hbi.out.alloc Hbi.out.size _).size (fun x hx => (HO.out.lt x hx).1)
                  go_roundw
                  case rel => exact ⟨k + 1, by omega, by go_num, by rw [HS.out, flat2_append]; exact hown7, b7⟩
                  case measure => simp [intOf]; omega
                · obtain rfl : k = (bl n).length := by omega
                  have hkI : ((bl n).length : Int) ≤ ((bl n).length : Int) := Int.le_refl _
                  have hown := HO.out
                  rw [HCt.out n] at hown
                  obtain ⟨A5, c5, rfl⟩ := own_sl hown
                  have h5 := Lib.hid (show PairsAt wr.heap.size wr A5 (chS ss n) from PairsAt.of_own (by rw [chS_length]; exact hown))
                  have HBw := Lib.hid (HBr.out.trans ((hd4.out.trans (Hbi.out.mono hd4.out.size)).mono HBr.out.size))
                  have HBn := Lib.hid (hd4.out.trans (Hbi.out.mono hd4.out.size))
                  have HI4w := Lib.hid (IntsAt.below HI4.out Hbi.out Hbi.out.size)
                  obtain ⟨z0, z1, z2, _⟩ := HX.out _ HBw.out
                  clear hown HO
                  go_wp2_with fail
                  go_at_call 95
                  refine (ce.out A5 c5 n hltn wr HBw.out h5.out).mono ?_
                  rintro e w6 ⟨⟨mm, AI', AR', cI', cR', hex, rfl, hI6, hR6⟩ | ⟨hng, rfl⟩, hd6⟩
                  · have hba : Below w6.heap.size w6 (w6.alloc (.cells #[.int .i64 b.p, .slice AI' b.its.length cI', .slice AR' b.rus.length cR'] 25)) := balloc (Below.refl _ _) _
                    have HI7 := Lib.hid (hI6.below hba hba.size)
                    have HR7 := Lib.hid (hR6.below hba hba.size)
                    have hbw7 := HBw.out.trans ((hd6.trans (hba.mono hd6.size)).mono HBw.out.size)
                    have HB7 := Lib.hid hbw7
                    have HD7 := Lib.hid (HBn.out.trans ((hd6.trans (hba.mono hd6.size)).mono HBn.out.size))
                    have HD6 := Lib.hid (hd6.trans (hba.mono hd6.size))
                    have HEx := Lib.hid hex
                    have HK7 := Lib.hid (Blk.new w6 25 #[.int .i64 b.p, .slice AI' b.its.length cI', .slice AR' b.rus.length cR'])
                    clear hI6 hR6 hex hd6 hbw7 hba z0 z1 z2
                    go_wp2_with fail
                    generalize w6.alloc (.cells #[.int .i64 b.p, .slice AI' b.its.length cI', .slice AR' b.rus.length cR'] 25) = w7 at *
                    obtain ⟨z0, z1, z2, _⟩ := blk3 HK7.out
                    go_wp2_with fail
                    go_at_call 72
                    refine (cb.out n mm AI' AR' cI' cR' hltn HEx.out w7 HB7.out HI7.out HR7.out).mono ?_
                    rintro e w8 ⟨x, rfl, ⟨hG, hz⟩ | ⟨hG, hz⟩, hd8⟩
                    · have hb8 := HB7.out.trans (hd8.mono HB7.out.size)
                      have cm8 := Lib.hid (cm.out w8 hb8)
                      have HTG := Lib.hid (HTk.out hG)
                      go_wp2_with (go_at_call 76; refine cm8.out.mono ?_; rintro e w9 ⟨rfl, rfl⟩)
                      go_roundw
                      case rel => exact ⟨n + 1, some (bl n), A4, c4, by omega, by go_num, rfl, rfl, HTG.out, IntsAt.below HI4w.out (HD6.out.trans (hd8.mono HD6.out.size)) (HD6.out.trans (hd8.mono HD6.out.size)).size, hb8⟩
                      case measure => simp [intOf]; omega
                    · have hb8 := HB7.out.trans (hd8.mono HB7.out.size)
                      have cm8 := Lib.hid (cm.out w8 hb8)
                      have HTG := Lib.hid ((HFb.out n hG).trans HF.out)
                      go_wp2_with (go_at_call 76; refine cm8.out.mono ?_; rintro e w9 ⟨rfl, rfl⟩)
                      go_roundw
                      case rel => exact ⟨n + 1, some l, A1, c1, by omega, by go_num, rfl, rfl, HTG.out, IntsAt.below HIn.out (HD7.out.trans (hd8.mono HD7.out.size)) (HD7.out.trans (hd8.mono HD7.out.size)).size, hb8⟩
                      case measure => simp [intOf]; omega
                  · go_wp2_with fail
                    go_roundw
                    case rel => exact ⟨n + 1, some l, A1, c1, by omega, by go_num, rfl, rfl, (HFb.out n hng).trans HF.out, IntsAt.below HIn.out (HBn.out.trans ((balc hd6).mono HBn.out.size)) (HBn.out.trans ((balc hd6).mono HBn.out.size)).size, HBw.out.trans ((balc hd6).mono HBw.out.size)⟩
                    case measure => simp [intOf]; omega
          · have hg2 : (((bl n).length : Int) == (l.length : Int)) = false := by simp; omega
            have HTk := Lib.hid (fun h => HFt.out n (fun l' hl => by rw [HF.out] at hl; injection hl with hl; subst hl; rw [frB_long (by rw [il, il]; exact hq2), il, il]; simp; omega) h)
            clear hq hq2
            go_wp2_with ((go_at_call 65; refine cl0.out.mono ?_; rintro e w4 ⟨A4, c4, rfl, hI4, hd4⟩; have HI4 := Lib.hid hI4; have hd4 := Lib.hid hd4; clear hI4))
            go_loopw [17, 70] (fun lv iv wi => ∃ k : Nat, k ≤ (bl n).length ∧ iv = .int .i64 k ∧ Aside (wi.ownsRow w4.heap.size 79 2 lv k (flat2 (chTo ss n k))) ∧ Aside (Below w4.heap.size w4 wi)) (fun _ iv _ => (bl n).length - (intOf iv).toNat)
            case atStart => exact ⟨0, Nat.zero_le _, rfl, World.ownsRow_nil _ _ _ _, Below.refl _ _⟩
            case round =>
              obtain ⟨k, hk, rfl, hown, hbi⟩ := hrel
              have HO := Lib.hid hown.out
              have Hbi := Lib.hid hbi.out
              clear hown hbi
              by_cases hkl : k < (bl n).length
              · have hkI : (k : Int) < ((bl n).length : Int) := by omega
                obtain ⟨b1, o1, rfl, _, y0⟩ := IntsAt.at (IntsAt.below HI4.out Hbi.out Hbi.out.size) (k := k) (by rw [il]; exact hkl)
                rw [show (intL (bl n))[k]'(by rw [il]; exact hkl) = (((bl n)[k] : Nat) : Int) by simp [intL]] at y0
                have hi' : (bl n)[k] < ss.length := HII.out _ (List.getElem_mem hkl)
                have HS := Lib.hid (HCs.out n k hkl hi')
                obtain ⟨b2, o2, rfl, _, p0, p1⟩ := PairsAt.at (HP.out.below (HBr.out.trans ((hd4.out.trans (Hbi.out.mono hd4.out.size)).mono HBr.out.size)) (HBr.out.trans ((hd4.out.trans (Hbi.out.mono hd4.out.size)).mono HBr.out.size)).size) hi'
                generalize ss[(bl n)[k]] = s at *
                generalize (bl n)[k] = i at *
                obtain ⟨x, y⟩ := s
                simp only at p0 p1
                have hiI : (i : Int) < (ss.length : Int) := by omega
                go_wp2_with (at_builtin; refine wpList_append_own _ rfl _ _ 67 rfl w4.heap.size 79 j0 _ 2 16 Tryd.underlying67 hj hy0 hy1 hy2 rfl (by decide) _ _ _ rfl (HO.out.alloc _) ⟨_, 0, none⟩ 1 1 _ rfl rfl (cells_new _ [.int .i64 x, .int .i64 y] 79) (by simp [Value.oneCell']) (by simp only [maxLen]; omega) (by omega) (Hbi.out.alloc Hbi.out.size _).size ?_; intro v' w7 hown7 hg7 _)
                obtain ⟨A7, c7, rfl⟩ := own_sl hown7
                have b7 : Below w4.heap.size w4 w7 := (Hbi.out.alloc Hbi.out.size _).grown hg7 (Hbi.out.alloc Hbi.out.size _).size (fun x hx => (HO.out.lt x hx).1)
                go_roundw
                case rel => exact ⟨k + 1, by omega, by go_num, by rw [HS.out, flat2_append]; exact hown7, b7⟩
                case measure => simp [intOf]; omega
              · obtain rfl : k = (bl n).length := by omega
                have hkI : ((bl n).length : Int) ≤ ((bl n).length : Int) := Int.le_refl _
                have hown := HO.out
                rw [HCt.out n] at hown
                obtain ⟨A5, c5, rfl⟩ := own_sl hown
                have h5 := Lib.hid (show PairsAt wr.heap.size wr A5 (chS ss n) from PairsAt.of_own (by rw [chS_length]; exact hown))
                have HBw := Lib.hid (HBr.out.trans ((hd4.out.trans (Hbi.out.mono hd4.out.size)).mono HBr.out.size))
                have HBn := Lib.hid (hd4.out.trans (Hbi.out.mono hd4.out.size))
                have HI4w := Lib.hid (IntsAt.below HI4.out Hbi.out Hbi.out.size)
                obtain ⟨z0, z1, z2, _⟩ := HX.out _ HBw.out
                clear hown HO
                go_wp2_with fail
                go_at_call 95
                refine (ce.out A5 c5 n hltn wr HBw.out h5.out).mono ?_
                rintro e w6 ⟨⟨mm, AI', AR', cI', cR', hex, rfl, hI6, hR6⟩ | ⟨hng, rfl⟩, hd6⟩
                · have hba : Below w6.heap.size w6 (w6.alloc (.cells #[.int .i64 b.p, .slice AI' b.its.length cI', .slice AR' b.rus.length cR'] 25)) := balloc (Below.refl _ _) _
                  have HI7 := Lib.hid (hI6.below hba hba.size)
                  have HR7 := Lib.hid (hR6.below hba hba.size)
                  have hbw7 := HBw.out.trans ((hd6.trans (hba.mono hd6.size)).mono HBw.out.size)
                  have HB7 := Lib.hid hbw7
                  have HD7 := Lib.hid (HBn.out.trans ((hd6.trans (hba.mono hd6.size)).mono HBn.out.size))
                  have HD6 := Lib.hid (hd6.trans (hba.mono hd6.size))
                  have HEx := Lib.hid hex
                  have HK7 := Lib.hid (Blk.new w6 25 #[.int .i64 b.p, .slice AI' b.its.length cI', .slice AR' b.rus.length cR'])
                  clear hI6 hR6 hex hd6 hbw7 hba z0 z1 z2
                  go_wp2_with fail
                  generalize w6.alloc (.cells #[.int .i64 b.p, .slice AI' b.its.length cI', .slice AR' b.rus.length cR'] 25) = w7 at *
                  obtain ⟨z0, z1, z2, _⟩ := blk3 HK7.out
                  go_wp2_with fail
                  go_at_call 72
                  refine (cb.out n mm AI' AR' cI' cR' hltn HEx.out w7 HB7.out HI7.out HR7.out).mono ?_
                  rintro e w8 ⟨x, rfl, ⟨hG, hz⟩ | ⟨hG, hz⟩, hd8⟩
                  · have hb8 := HB7.out.trans (hd8.mono HB7.out.size)
                    have cm8 := Lib.hid (cm.out w8 hb8)
                    have HTG := Lib.hid (HTk.out hG)
                    go_wp2_with (go_at_call 76; refine cm8.out.mono ?_; rintro e w9 ⟨rfl, rfl⟩)
                    go_roundw
                    case rel => exact ⟨n + 1, some (bl n), A4, c4, by omega, by go_num, rfl, rfl, HTG.out, IntsAt.below HI4w.out (HD6.out.trans (hd8.mono HD6.out.size)) (HD6.out.trans (hd8.mono HD6.out.size)).size, hb8⟩
                    case measure => simp [intOf]; omega
                  · have hb8 := HB7.out.trans (hd8.mono HB7.out.size)
                    have cm8 := Lib.hid (cm.out w8 hb8)
                    have HTG := Lib.hid ((HFb.out n hG).trans HF.out)
                    go_wp2_with (go_at_call 76; refine cm8.out.mono ?_; rintro e w9 ⟨rfl, rfl⟩)
                    go_roundw
                    case rel => exact ⟨n + 1, some l, A1, c1, by omega, by go_num, rfl, rfl, HTG.out, IntsAt.below HIn.out (HD7.out.trans (hd8.mono HD7.out.size)) (HD7.out.trans (hd8.mono HD7.out.size)).size, hb8⟩
                    case measure => simp [intOf]; omega
                · go_wp2_with fail
                  go_roundw
                  case rel => exact ⟨n + 1, some l, A1, c1, by omega, by go_num, rfl, rfl, (HFb.out n hng).trans HF.out, IntsAt.below HIn.out (HBn.out.trans ((balc hd6).mono HBn.out.size)) (HBn.out.trans ((balc hd6).mono HBn.out.size)).size, HBw.out.trans ((balc hd6).mono HBw.out.size)⟩
                  case measure => simp [intOf]; omega
    · obtain rfl : n = NN := by omega
      have hnI : (n : Int) ≤ (n : Int) := Int.le_refl _
      go_wp2_with fail
      refine bodyPost_ret (results_tmp3 rfl _ _ _) rfl ?_
      exact ⟨A1, c1, by rw [HV.out, HE.out, HF.out]; rfl, by rw [HV.out, HF.out]; exact HIn.out, Hw.out.trans (HBr.out.mono Hw.out.size)⟩

set_option maxRecDepth 100000 in
set_option maxHeartbeats 16000000 in
theorem Fewest_any (AI AR : Option Addr) (cI cR : Nat) (A : Option Addr) (c : Nat) (A2 : Option Addr) (c2 B : Nat) (b : Bk) (item : Int) (av : List Int) (ss : List (Int × Int)) (w : World) (hB : B ≤ w.heap.size) (h : ItsAt B w AI b.its) (h' : RusAt B w AR b.rus) (hs : Short b) (hi : IntsAt B w A av) (hal : av.length ≤ 100) (hp : PairsAt B w A2 ss) (hm : ss.length ≤ 1000) (hT : Tab w) :
    Calls Tryd.prog 55 #[.agg #[.int .i64 b.p, .slice AI b.its.length cI, .slice AR b.rus.length cR], .int .i64 item, .slice A av.length c, .slice A2 ss.length c2] w fun e w' =>
      ∃ A' c', e = .returned (.tuple #[.slice A' ((feV b item av ss).getD []).length c', .bool (feV b item av ss).isSome, .int .i64 (feE b item av ss)]) ∧ IntsAt w'.heap.size w' A' (intL ((feV b item av ss).getD [])) ∧ Below w.heap.size w w' := by
  have hb0 := Blk.new w 25 #[.int .i64 b.p, .slice AI b.its.length cI, .slice AR b.rus.length cR]
  have hw0 : Below w.heap.size w (w.alloc (.cells #[.int .i64 b.p, .slice AI b.its.length cI, .slice AR b.rus.length cR] 25)) := (Below.refl _ _).alloc (Nat.le_refl _) _
  obtain ⟨W0, hW0⟩ : ∃ W0, W0 = w.alloc (.cells #[.int .i64 b.p, .slice AI b.its.length cI, .slice AR b.rus.length cR] 25) := ⟨_, rfl⟩
  rw [← hW0] at hb0 hw0
  have hlt : w.heap.size < W0.heap.size := hb0.lt
  have hI := (h.below (Below.refl _ _) hB).below hw0 (Nat.le_of_lt hlt)
  have hR := (h'.below (Below.refl _ _) hB).below hw0 (Nat.le_of_lt hlt)
  have hA := (hi.below (Below.refl _ _) hB).below hw0 (Nat.le_of_lt hlt)
  have hP := (hp.below (Below.refl _ _) hB).below hw0 (Nat.le_of_lt hlt)
  have hT0 := hT.below hw0 hT.2
  have cn := Lib.hid (named_any AI AR cI cR _ b item W0 (Nat.le_refl _) hI hR hs)
  have cS := Lib.hid (fun W (hW : Below W0.heap.size W0 W) => isSet_any A c W0.heap.size av b.p W hW.size (hA.below hW (Nat.le_refl _)) (by omega))
  have cw := Lib.hid (fun W (hW : Below W0.heap.size W0 W) => swappable_any AI AR cI cR A2 c2 W0.heap.size b ss W hW.size (hP.below hW (Nat.le_refl _)) hs.1 hm)
  have HX := Lib.hid (fun W (hW : Below W0.heap.size W0 W) => blk3 (hb0.below hW hlt))
  have Hw := Lib.hid hw0
  have tok := Lib.hid (Nat.le_refl 0)
  by_cases h0 : nmR b item = 0
  · obtain ⟨hv0, hi0, hi1⟩ := nm_zero h0
    have hv := vl_zero hv0
    cases hS : isS av b.p with
    | false =>
      have HE := Lib.hid (show feE b item av ss = 1 by unfold feE; rw [if_pos h0, if_neg (by rw [hS]; decide)])
      have HV := Lib.hid (show feV b item av ss = none from if_neg (by rw [HE.out]; decide))
      rw [h0] at cn
      rw [hS] at cS
      clear hi0 hi1 hv hv0 hS h0 h h' hi hp hs hI hR hA hP hb0 hw0 hT hT0 hB
      go_enter Tryd.func55, Tryd.ntmps55
      go_wp2_with (first
        | (have tk := tok; clear tok; go_at_call 67; rw [← hW0]; clear hW0; refine cn.out.mono ?_; rintro e w1 ⟨rfl, hd1⟩; have tok2 := tk; obtain ⟨z0, z1, z2, _⟩ := HX.out _ hd1)
        | (have tk := tok2; clear tok2; go_at_call 59; refine (cS.out _ hd1).mono ?_; rintro e w2 ⟨rfl, hd2⟩; have hb2 := hd1.trans (hd2.mono hd1.size); clear z0 z1 z2; obtain ⟨z0, z1, z2, _⟩ := HX.out _ hb2; have tok3 := tk))
      refine bodyPost_ret (results_tmp3 rfl _ _ _) rfl ?_
      exact ⟨none, 0, by rw [HV.out, HE.out]; rfl, by rw [HV.out]; exact IntsAt.nil _ _ _, Hw.out.trans (hb2.mono Hw.out.size)⟩
    | true =>
      by_cases h2 : swE b.its.length ss = 0
      · exact Fewest_good AI AR cI cR A c A2 c2 B b item av ss w hB h h' hs hi hal hp hm hT h0 hS h2
      · have HE := Lib.hid (show feE b item av ss = swE b.its.length ss by unfold feE; rw [if_pos h0, if_pos hS])
        have HV := Lib.hid (show feV b item av ss = none from if_neg (by rw [HE.out]; exact h2))
        have he1 : (swE b.its.length ss == 0) = false := by simpa using h2
        have he2 : (swE b.its.length ss != 0) = true := by simpa using h2
        rw [h0] at cn
        rw [hS] at cS
        generalize swE b.its.length ss = r at *
        clear hi0 hi1 hv hv0 hS h0 h2 h h' hi hp hs hI hR hA hP hb0 hw0 hT hT0 hB
        go_enter Tryd.func55, Tryd.ntmps55
        go_wp2_with (first
          | (have tk := tok; clear tok; go_at_call 67; rw [← hW0]; clear hW0; refine cn.out.mono ?_; rintro e w1 ⟨rfl, hd1⟩; have tok2 := tk; obtain ⟨z0, z1, z2, _⟩ := HX.out _ hd1)
          | (have tk := tok2; clear tok2; go_at_call 59; refine (cS.out _ hd1).mono ?_; rintro e w2 ⟨rfl, hd2⟩; have hb2 := hd1.trans (hd2.mono hd1.size); clear z0 z1 z2; obtain ⟨z0, z1, z2, _⟩ := HX.out _ hb2; have tok3 := tk)
          | (have tk := tok3; clear tok3; go_at_call 94; refine (cw.out _ hb2).mono ?_; rintro e w3 ⟨rfl, hd3⟩; have hb3 := hb2.trans (hd3.mono hb2.size)))
        refine bodyPost_ret (results_tmp3 rfl _ _ _) rfl ?_
        exact ⟨none, 0, by rw [HV.out, HE.out]; rfl, by rw [HV.out]; exact IntsAt.nil _ _ _, Hw.out.trans (hb3.mono Hw.out.size)⟩
  · have HE := Lib.hid (show feE b item av ss = nmR b item from if_neg h0)
    have HV := Lib.hid (show feV b item av ss = none from if_neg (by rw [HE.out]; exact h0))
    have he1 : (nmR b item == 0) = false := by simpa using h0
    have he2 : (nmR b item != 0) = true := by simpa using h0
    generalize nmR b item = r at *
    clear h0 h h' hi hp hs hI hR hA hP hb0 hw0 hT hT0 hB
    go_enter Tryd.func55, Tryd.ntmps55
    go_wp2_with (first
      | (have tk := tok; clear tok; go_at_call 67; rw [← hW0]; clear hW0; refine cn.out.mono ?_; rintro e w1 ⟨rfl, hd1⟩; have tok2 := tk; obtain ⟨z0, z1, z2, _⟩ := HX.out _ hd1))
    refine bodyPost_ret (results_tmp3 rfl _ _ _) rfl ?_
    exact ⟨none, 0, by rw [HV.out, HE.out]; rfl, by rw [HV.out]; exact IntsAt.nil _ _ _, Hw.out.trans (hd1.mono Hw.out.size)⟩
end Go.Proofs.YtgoojcjfhghmgaaDoor


set_option linter.unusedSimpArgs false
set_option linter.unusedVariables false
namespace Go.Proofs.YtgoojcjfhghmgaaDoor
open Go Go.RowKit

/-- The error of exchanges in a book. -/
noncomputable def exE (b : Bk) (ss : List (Int × Int)) : Int := if vlR b ≠ 0 then vlR b else if swE b.its.length ss ≠ 0 then swE b.its.length ss else if exN b.its ss = none then 7 else 0
set_option maxRecDepth 100000 in
set_option maxHeartbeats 4000000 in
theorem Exchange_any (AI AR : Option Addr) (cI cR : Nat) (A : Option Addr) (c B : Nat) (b : Bk) (ss : List (Int × Int)) (w : World) (hB : B ≤ w.heap.size) (h : ItsAt B w AI b.its) (h' : RusAt B w AR b.rus) (hs : Short b) (hp : PairsAt B w A ss) (hm : ss.length ≤ 1000) :
    Calls Tryd.prog 51 #[.agg #[.int .i64 b.p, .slice AI b.its.length cI, .slice AR b.rus.length cR], .slice A ss.length c] w fun e w' =>
      ((∃ m AI' AR' cI' cR', exE b ss = 0 ∧ exN b.its ss = some m ∧ e = .returned (.tuple #[.agg #[.int .i64 b.p, .slice AI' b.its.length cI', .slice AR' b.rus.length cR'], .int .i64 0]) ∧ ItsAt w'.heap.size w' AI' m ∧ RusAt w'.heap.size w' AR' b.rus) ∨
        (exE b ss ≠ 0 ∧ e = .returned (.tuple #[.agg #[.int .i64 0, .slice none 0 0, .slice none 0 0], .int .i64 (exE b ss)]))) ∧ Below w.heap.size w w' := by
  have hT := h.below (Below.refl _ _) hB
  have hT' := h'.below (Below.refl _ _) hB
  have hP := hp.below (Below.refl _ _) hB
  have cv := Lib.hid (fun W (hW : Below w.heap.size w W) => Validate_any AI AR cI cR w.heap.size b W hW.size (hT.below hW (Nat.le_refl _)) (hT'.below hW (Nat.le_refl _)) hs)
  have cs := Lib.hid (fun W (hW : Below w.heap.size w W) => swappable_any AI AR cI cR A c w.heap.size b ss W hW.size (hP.below hW (Nat.le_refl _)) hs.1 hm)
  have HB0 := Lib.hid (show Below w.heap.size w ((w.alloc (.cells #[.int .i64 b.p, .slice AI b.its.length cI, .slice AR b.rus.length cR] 25)).alloc (.cells #[.int .i64 0, .slice none 0 0, .slice none 0 0] 25)) from balloc (balloc (Below.refl _ _) _) _)
  by_cases h0 : vlR b = 0
  · rw [h0] at cv
    by_cases h1 : swE b.its.length ss = 0
    · rw [h1] at cs
      obtain ⟨h8, hsw⟩ := sw_zero h1
      have ce := Lib.hid (fun W (hW : Below w.heap.size w W) => exchanged_any AI AR cI cR A c w.heap.size b ss W hW.size (hT.below hW (Nat.le_refl _)) (hT'.below hW (Nat.le_refl _)) hs (vl_ord (vl_zero h0)) (hP.below hW (Nat.le_refl _)) h8 (fun s hs => (hsw s hs).2.2.1))
      have HE := Lib.hid (show (∀ m, exN b.its ss = some m → exE b ss = 0) ∧ (exN b.its ss = none → exE b ss = 7) from by
        unfold exE
        rw [if_neg (by simpa using h0), if_neg (by simpa using h1)]
        exact ⟨fun m hm => by rw [if_neg (by rw [hm]; simp)], fun hm => by rw [if_pos hm]⟩)
      clear h h' hs hp hT hT' hP h0 h1 hsw hB
      go_enter Tryd.func51, Tryd.ntmps51
      go_wp2_with fail
      generalize hW0 : (w.alloc (.cells #[.int .i64 b.p, .slice AI b.its.length cI, .slice AR b.rus.length cR] 25)).alloc (.cells #[.int .i64 0, .slice none 0 0, .slice none 0 0] 25) = W0
      rw [hW0] at HB0
      have HK0 := Lib.hid (show Blk W0 w.heap.size 25 #[.int .i64 b.p, .slice AI b.its.length cI, .slice AR b.rus.length cR] by rw [← hW0]; exact (Blk.new _ _ _).alloc _)
      have HK1 := Lib.hid (show Blk W0 (w.heap.size + 1) 25 #[.int .i64 0, .slice none 0 0, .slice none 0 0] by rw [← hW0]; exact blk_new' (by simp))
      clear hW0
      obtain ⟨x0, x1, x2, _⟩ := blk3 HK0.out
      go_wp2_with (first
        | (go_at_call 20; refine (cv.out _ HB0.out).mono ?_; rintro e w1 ⟨rfl, hb1⟩; have hB1 := HB0.out.trans (hb1.mono HB0.out.size); clear x0 x1 x2; obtain ⟨x0, x1, x2, _⟩ := blk3 (HK0.out.below hb1 HK0.out.lt))
        | (go_at_call 94; refine (cs.out _ hB1).mono ?_; rintro e w2 ⟨rfl, hb2⟩; have hB2 := hB1.trans (hb2.mono hB1.size); have hd2 := hb1.trans (hb2.mono hb1.size); clear x0 x1 x2; obtain ⟨x0, x1, x2, _⟩ := blk3 (HK0.out.below hd2 HK0.out.lt)))
      go_at_call 95
      refine (ce.out _ hB2).mono ?_
      rintro e w3 ⟨⟨m, AI', AR', cI', cR', hex, rfl, hit, hru⟩ | ⟨hex, rfl⟩, hb3⟩
      · have hd3 := hd2.trans (hb3.mono hd2.size)
        have HR1 := Lib.hid ((HK1.out.below hd3 HK1.out.lt).alloc (.cells #[.int .i64 b.p, .slice AI' b.its.length cI', .slice AR' b.rus.length cR'] 25))
        have HR0 := Lib.hid ((HK1.out.below hd3 HK1.out.lt))
        have hB3 := hB2.trans (hb3.mono hB2.size)
        have HE0 := Lib.hid (HE.out.1 m hex)
        have HEx := Lib.hid hex
        have HIt := Lib.hid hit
        have HRu := Lib.hid hru
        have HS := Lib.hid (show w.heap.size + 1 < w3.heap.size from HR0.out.lt)
        have hlR : w.heap.size + 1 < (w3.alloc (.cells #[.int .i64 b.p, .slice AI' b.its.length cI', .slice AR' b.rus.length cR'] 25)).heap.size := HR1.out.lt
        obtain ⟨t0, t1, t2, g0, g1, g2⟩ := blk3 HR1.out
        clear hex hit hru x0 x1 x2 HE
        go_wp2_with fail
        have hBa := balloc (Below.refl w3.heap.size w3) (.cells #[.int .i64 b.p, .slice AI' b.its.length cI', .slice AR' b.rus.length cR'] 25)
        have HBa := Lib.hid (hB3.trans (hBa.mono hB3.size))
        have HI4 := Lib.hid ((HIt.out.below hBa))
        have HU4 := Lib.hid ((HRu.out.below hBa))
        have hR0 : w.heap.size + 1 < w2.heap.size := Nat.lt_of_lt_of_le HK1.out.lt hd2.size
        generalize w3.alloc (.cells #[.int .i64 b.p, .slice AI' b.its.length cI', .slice AR' b.rus.length cR'] 25) = w4 at *
        have HP := Lib.hid ((((Only.refl (w.heap.size + 1) w4).put 0 (.int .i64 b.p)).put 1 (.slice AI' b.its.length cI')).put 2 (.slice AR' b.rus.length cR'))
        have HB2 := Lib.hid (((HR1.out.put 0 (.int .i64 b.p)).put 1 (.slice AI' b.its.length cI')).put 2 (.slice AR' b.rus.length cR'))
        refine bodyPost_ret (results_cell_row2 rfl _ _ (w.heap.size + 1) 25 _ (0, 0) _ rfl HB2.out Tryd.underlying25 rfl (by kernel_rfl)) rfl ⟨.inl ⟨m, AI', AR', cI', cR', HE0.out, HEx.out, rfl, ?_, ?_⟩, HBa.out.trans (HP.out.below (Nat.le_succ _) HBa.out.size)⟩
        · exact (HI4.out.keep (fun q hq e => by omega) HP.out).at
        · exact (HU4.out.keep (fun q hq e => by omega) HP.out).at

      · have hd3 := hd2.trans (hb3.mono hd2.size)
        have HR1 := Lib.hid ((HK1.out.below hd3 HK1.out.lt).alloc (.cells #[.int .i64 0, .slice none 0 0, .slice none 0 0] 25))
        have hB3 := hB2.trans (hb3.mono hB2.size)
        have HE0 := Lib.hid (HE.out.2 hex)
        have hlR : w.heap.size + 1 < (w3.alloc (.cells #[.int .i64 0, .slice none 0 0, .slice none 0 0] 25)).heap.size := HR1.out.lt
        obtain ⟨t0, t1, t2, g0, g1, g2⟩ := blk3 HR1.out
        have hBa := balloc (Below.refl w3.heap.size w3) (.cells #[.int .i64 0, .slice none 0 0, .slice none 0 0] 25)
        have HBa := Lib.hid (hB3.trans (hBa.mono hB3.size))
        clear hex x0 x1 x2 HE hBa
        go_wp2_with fail
        generalize w3.alloc (.cells #[.int .i64 0, .slice none 0 0, .slice none 0 0] 25) = w4 at *
        have HP := Lib.hid ((((Only.refl (w.heap.size + 1) w4).put 0 (.int .i64 0)).put 1 (.slice none 0 0)).put 2 (.slice none 0 0))
        have HB2 := Lib.hid (((HR1.out.put 0 (.int .i64 0)).put 1 (.slice none 0 0)).put 2 (.slice none 0 0))
        refine bodyPost_ret (results_cell_row2 rfl _ _ (w.heap.size + 1) 25 _ (0, 0) _ rfl HB2.out Tryd.underlying25 rfl (by kernel_rfl)) rfl ⟨.inr ⟨by rw [HE0.out]; decide, by rw [HE0.out]; rfl⟩, HBa.out.trans (HP.out.below (Nat.le_succ _) HBa.out.size)⟩
    · have HE := Lib.hid (show exE b ss = swE b.its.length ss from by
        unfold exE
        rw [if_neg (by simpa using h0), if_pos h1])
      have HN := Lib.hid h1
      have hne : (swE b.its.length ss != 0) = true := by simpa using h1
      generalize swE b.its.length ss = e0 at *
      clear h h' hs hp hT hT' hP h0 h1 hB
      go_enter Tryd.func51, Tryd.ntmps51
      go_wp2_with fail
      generalize hW0 : (w.alloc (.cells #[.int .i64 b.p, .slice AI b.its.length cI, .slice AR b.rus.length cR] 25)).alloc (.cells #[.int .i64 0, .slice none 0 0, .slice none 0 0] 25) = W0
      rw [hW0] at HB0
      have HK0 := Lib.hid (show Blk W0 w.heap.size 25 #[.int .i64 b.p, .slice AI b.its.length cI, .slice AR b.rus.length cR] by rw [← hW0]; exact (Blk.new _ _ _).alloc _)
      have HK1 := Lib.hid (show Blk W0 (w.heap.size + 1) 25 #[.int .i64 0, .slice none 0 0, .slice none 0 0] by rw [← hW0]; exact blk_new' (by simp))
      clear hW0
      obtain ⟨x0, x1, x2, _⟩ := blk3 HK0.out
      go_wp2_with (first
        | (go_at_call 20; refine (cv.out _ HB0.out).mono ?_; rintro e w1 ⟨rfl, hb1⟩; have hB1 := HB0.out.trans (hb1.mono HB0.out.size); clear x0 x1 x2; obtain ⟨x0, x1, x2, _⟩ := blk3 (HK0.out.below hb1 HK0.out.lt))
        | (go_at_call 94; refine (cs.out _ hB1).mono ?_; rintro e w2 ⟨rfl, hb2⟩; have hB2 := hB1.trans (hb2.mono hB1.size); have hd2 := hb1.trans (hb2.mono hb1.size); obtain ⟨t0, t1, t2, g0, g1, g2⟩ := blk3 (HK1.out.below hd2 HK1.out.lt); have hlR : w.heap.size + 1 < w2.heap.size := (HK1.out.below hd2 HK1.out.lt).lt))
      have HR1 := Lib.hid (HK1.out.below hd2 HK1.out.lt)
      have HP := Lib.hid ((((Only.refl (w.heap.size + 1) w2).put 0 (.int .i64 0)).put 1 (.slice none 0 0)).put 2 (.slice none 0 0))
      have HB2 := Lib.hid (((HR1.out.put 0 (.int .i64 0)).put 1 (.slice none 0 0)).put 2 (.slice none 0 0))
      refine bodyPost_ret (results_cell_row2 rfl _ _ (w.heap.size + 1) 25 _ (0, 0) _ rfl HB2.out Tryd.underlying25 rfl (by kernel_rfl)) rfl ⟨.inr ⟨by rw [HE.out]; exact HN.out, by rw [HE.out]; rfl⟩, hB2.trans (HP.out.below (Nat.le_succ _) hB2.size)⟩
  · have HE := Lib.hid (show exE b ss = vlR b from by
      unfold exE
      rw [if_pos h0])
    have HN := Lib.hid h0
    have hne : (vlR b != 0) = true := by simpa using h0
    generalize vlR b = e0 at *
    clear h h' hs hp hT hT' hP h0 cs hB
    go_enter Tryd.func51, Tryd.ntmps51
    go_wp2_with fail
    generalize hW0 : (w.alloc (.cells #[.int .i64 b.p, .slice AI b.its.length cI, .slice AR b.rus.length cR] 25)).alloc (.cells #[.int .i64 0, .slice none 0 0, .slice none 0 0] 25) = W0
    rw [hW0] at HB0
    have HK0 := Lib.hid (show Blk W0 w.heap.size 25 #[.int .i64 b.p, .slice AI b.its.length cI, .slice AR b.rus.length cR] by rw [← hW0]; exact (Blk.new _ _ _).alloc _)
    have HK1 := Lib.hid (show Blk W0 (w.heap.size + 1) 25 #[.int .i64 0, .slice none 0 0, .slice none 0 0] by rw [← hW0]; exact blk_new' (by simp))
    clear hW0
    obtain ⟨x0, x1, x2, _⟩ := blk3 HK0.out
    go_wp2_with (go_at_call 20; refine (cv.out _ HB0.out).mono ?_; rintro e w2 ⟨rfl, hd2⟩; have hB2 := HB0.out.trans (hd2.mono HB0.out.size); obtain ⟨t0, t1, t2, g0, g1, g2⟩ := blk3 (HK1.out.below hd2 HK1.out.lt); have hlR : w.heap.size + 1 < w2.heap.size := (HK1.out.below hd2 HK1.out.lt).lt)
    have HR1 := Lib.hid (HK1.out.below hd2 HK1.out.lt)
    have HP := Lib.hid ((((Only.refl (w.heap.size + 1) w2).put 0 (.int .i64 0)).put 1 (.slice none 0 0)).put 2 (.slice none 0 0))
    have HB2 := Lib.hid (((HR1.out.put 0 (.int .i64 0)).put 1 (.slice none 0 0)).put 2 (.slice none 0 0))
    refine bodyPost_ret (results_cell_row2 rfl _ _ (w.heap.size + 1) 25 _ (0, 0) _ rfl HB2.out Tryd.underlying25 rfl (by kernel_rfl)) rfl ⟨.inr ⟨by rw [HE.out]; exact HN.out, by rw [HE.out]; rfl⟩, hB2.trans (HP.out.below (Nat.le_succ _) hB2.size)⟩

end Go.Proofs.YtgoojcjfhghmgaaDoor


set_option linter.unusedSimpArgs false
set_option linter.unusedVariables false
namespace Go.Proofs.YtgoojcjfhghmgaaDoor
open Go Go.RowKit

theorem itsE_back {p : Int} : ∀ (l : List It) (i : Nat), (∀ k (hk : k < l.length), itE p (i + k) l[k] = 0) → itsE p i l = 0
  | [], _, _ => rfl
  | x :: l, i, h => by
    have h0 : itE p i x = 0 := h 0 (by simp)
    unfold itsE
    rw [if_pos h0]
    exact itsE_back l (i + 1) fun k hk => by
      have := h (k + 1) (by simp; omega)
      rw [show i + (k + 1) = i + 1 + k by omega] at this
      simpa using this
theorem vbk_vl {b : Bk} (h : VBk b) : vlR b = 0 := by
  have hi : itsE b.p 0 b.its = 0 := itsE_back b.its 0 fun k hk => by
    obtain ⟨h1, h2, h3⟩ := h.parts k hk
    unfold itE
    rw [Nat.zero_add]
    simp [h1, h2, h3]
  have := h.p0; have := h.p1; have := h.ni; have := h.nr
  unfold vlR
  rw [if_neg (by omega), if_neg (by omega), if_pos hi, if_pos (List.all_eq_true.2 h.rules)]
/-- What the chosen exchanges do. -/
theorem fe_facts {b : Bk} {item : Int} {av : List Int} {ss : List (Int × Int)} {l : List Nat} (h : feV b item av ss = some l) :
    ∃ k m x, l = bl k ∧ k < 2 ^ ss.length ∧ ss.length ≤ 8 ∧ exE b (chS ss k) = 0 ∧ exN b.its (chS ss k) = some m ∧ VBk ⟨b.p, m, b.rus⟩ ∧ nmR ⟨b.p, m, b.rus⟩ item = 0 ∧ m.length = b.its.length ∧ Lbl ⟨b.p, m, b.rus⟩ item.toNat x ∧ ∀ q ∈ av, q ∉ intL (bl x) := by
  obtain ⟨h0, k, hk, rfl, m, x, h1, h2, h3⟩ := feV_some h
  obtain ⟨g1, g2, g3⟩ := feE_zero h0
  obtain ⟨hv0, hi0, hi1⟩ := nm_zero g1
  have hv := vl_zero hv0
  obtain ⟨h8, hsw⟩ := sw_zero g3
  obtain ⟨f1, f2, f3⟩ := chS_facts h8 hk
  obtain ⟨hv', hml⟩ := exN_vbk hv (fun s hs => (hsw s (f3 s hs)).2.2.1) h1
  have hs0 : swE b.its.length (chS ss k) = 0 := by
    unfold swE
    rw [if_neg (by rw [chS_length]; omega), if_pos (List.all_eq_true.2 fun s hs => by simpa using hsw s (f3 s hs))]
  refine ⟨k, m, x, rfl, hk, h8, ?_, h1, hv', ?_, hml, h2, ?_⟩
  · unfold exE
    rw [if_neg (by simpa using hv0), if_neg (by simpa using hs0), if_neg (by rw [h1]; simp)]
  · unfold nmR
    rw [if_pos (vbk_vl hv'), if_neg (by show ¬ (item < 0 ∨ (m.length : Int) ≤ item); omega)]
  · intro q hq hm
    have hq0 := isS_mem g2 q hq
    have h4 := h3 q.toNat (List.mem_map.2 ⟨q, hq, rfl⟩)
    rw [mem_intL hq0.1, mem_bl x (p64 h2.2 (by have := hv.p1; show b.p.toNat ≤ 10; omega)), h4] at hm
    cases hm
end Go.Proofs.YtgoojcjfhghmgaaDoor
