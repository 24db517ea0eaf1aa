/- Reduce f47. -/
import Derived.Test.YtgoojcjfhghmgaaDoorDisFb
import Derived.Test.YtgoojcjfhghmgaaDoorDisFf
import Derived.Test.YtgoojcjfhghmgaaDoorDisG
import Derived.Deep.RegionLaw
import Derived.Lib.SliceRun
import Derived.Test.YtgoojcjfhghmgaaDoorDisEf
import Derived.Laws.ResultCell

set_option linter.unusedSimpArgs false
set_option linter.unusedVariables false
namespace Go.Proofs.YtgoojcjfhghmgaaDoor
open Go.RowKit

theorem own_cellB {w : World} {base e n c : Nat} {A : Option Addr} {xs : List Value} (h : w.ownsRow base e 1 (.slice A n c) n xs) {k : Nat} (hk : k < n) {u : Value} (hu : xs[k]? = some u) :
    ∃ g, A = some ⟨g, 0, none⟩ ∧ g < w.heap.size ∧ base ≤ g ∧ w.cell? ⟨g, k, none⟩ = some u := by
  rcases h.2 with ⟨e1, e2⟩ | ⟨g, cap, cur, e1, hb, _⟩
  · omega
  · injection e1 with e1 e3 e4
    subst e1 e4
    have := h.cells (g := g) rfl k u hu
    rw [Addr.add_lit, Nat.zero_add] at this
    exact ⟨g, rfl, (h.lt g rfl).2, hb, this⟩
/-- Rows of a call's own, none in block gx, no two in one block. -/
def RowsOwn (base : Nat) (gx : Option Nat) (w : World) (vs : List Value) (rows : List (List Int)) : Prop :=
  vs.length = rows.length ∧ (∀ i (h : i < rows.length), ∃ A c, vs[i]? = some (.slice A rows[i].length c) ∧ w.ownsRow base 3 1 (.slice A rows[i].length c) rows[i].length (rows[i].map (Value.int .i64)) ∧ (∀ k, (Value.slice A rows[i].length c).ownBlock = some k → gx ≠ some k)) ∧
  ∀ (i k : Nat) (v v' : Value), i < k → vs[i]? = some v → vs[k]? = some v' → ∀ b, v.ownBlock = some b → v'.ownBlock ≠ some b
namespace RowsOwn
variable {base : Nat} {gx gx' : Option Nat} {w w' : World} {vs : List Value} {rows : List (List Int)}
theorem nil (base : Nat) (gx : Option Nat) (w : World) : RowsOwn base gx w [] [] := ⟨rfl, fun i h => by simp at h, fun i k v v' _ h => by simp at h⟩
theorem below (h : RowsOwn base gx w vs rows) (hb : Below w.heap.size w w') : RowsOwn base gx w' vs rows := by
  refine ⟨h.1, fun i hi => ?_, h.2.2⟩
  obtain ⟨A, c, h1, h2, h3⟩ := h.2.1 i hi
  exact ⟨A, c, h1, own_below h2 hb, h3⟩
theorem grown (h : RowsOwn base gx w vs rows) (hg : w.grownBy w' gx) (hat : ∀ k, gx' = some k → gx = some k ∨ k = w.heap.size) : RowsOwn base gx' w' vs rows := by
  refine ⟨h.1, fun i hi => ?_, h.2.2⟩
  obtain ⟨A, c, h1, h2, h3⟩ := h.2.1 i hi
  refine ⟨A, c, h1, ?_, fun k hk e => ?_⟩
  · by_cases hn : (Value.slice A rows[i].length c).ownBlock = none
    · refine ⟨h2.1, ?_⟩
      rcases h2.2 with hz | ⟨g, cap, cur, hv, _⟩
      · exact .inl hz
      · rw [hv] at hn; cases hn
    · obtain ⟨k, hk⟩ := Option.ne_none_iff_exists'.1 hn
      exact h2.kept hg (.inr (fun e => h3 k hk (by rw [← hk, e])))
  · rcases hat k e with h4 | h4
    · exact h3 k hk h4
    · have := (h2.lt k hk).2; omega
theorem snoc {A : Option Addr} {c n : Nat} {o : List Int} (h : RowsOwn base gx w vs rows) (lo : Nat) (hlo : base ≤ lo) (hn : o.length = n) (hown : w.ownsRow lo 3 1 (.slice A n c) n (o.map (Value.int .i64)))
    (hgx : ∀ k, gx = some k → k < lo) (hvs : ∀ (i : Nat) (v : Value), vs[i]? = some v → ∀ b, v.ownBlock = some b → b < lo) : RowsOwn base gx w (vs ++ [.slice A n c]) (rows ++ [o]) := by
  subst hn
  have hl := h.1
  refine ⟨by simp [hl], fun i hi => ?_, fun i k v v' hik hv hv' b hb => ?_⟩
  · simp only [List.length_append, List.length_cons, List.length_nil, Nat.zero_add] at hi
    by_cases hlt : i < rows.length
    · obtain ⟨A', c', r⟩ := h.2.1 i hlt
      rw [List.getElem_append_left hlt, List.getElem?_append_left (by rw [hl]; exact hlt)]
      exact ⟨A', c', r⟩
    · obtain rfl : i = rows.length := by omega
      refine ⟨A, c, ?_, ?_, fun k hk e => ?_⟩
      · rw [List.getElem?_append_right (by rw [hl]; exact Nat.le_refl _), hl]; simp
      · simpa using own_base hown hlo
      · have h1 := hgx k e
        have h2 := (hown.lt k (by simpa [Value.ownBlock] using hk)).1
        omega
  · have hklt : k < (vs ++ [Value.slice A o.length c]).length := by
      rcases Nat.lt_or_ge k (vs ++ [Value.slice A o.length c]).length with h | h
      · exact h
      · rw [List.getElem?_eq_none h] at hv'; cases hv'
    simp only [List.length_append, List.length_cons, List.length_nil, Nat.zero_add] at hklt
    rw [List.getElem?_append_left (by omega)] at hv
    by_cases hk : k < vs.length
    · rw [List.getElem?_append_left hk] at hv'
      exact h.2.2 i k v v' hik hv hv' b hb
    · obtain rfl : k = vs.length := by omega
      rw [List.getElem?_append_right (Nat.le_refl _)] at hv'
      simp at hv'
      subst hv'
      intro e
      have h1 := (hown.lt b e).1
      have h2 := hvs i v hv b hb
      omega
theorem lt (h : RowsOwn base gx w vs rows) {i : Nat} {v : Value} (hv : vs[i]? = some v) {b : Nat} (hb : v.ownBlock = some b) : b < w.heap.size := by
  have hi : i < rows.length := by
    rcases Nat.lt_or_ge i vs.length with h' | h'
    · rw [← h.1]; exact h'
    · rw [List.getElem?_eq_none h'] at hv; cases hv
  obtain ⟨A, c, h1, h2, _⟩ := h.2.1 i hi
  rw [h1] at hv
  injection hv with hv
  subst hv
  exact (h2.lt b hb).2
end RowsOwn
theorem RowsOwn.base {base base' : Nat} {gx : Option Nat} {w : World} {vs : List Value} {rows : List (List Int)} (h : RowsOwn base gx w vs rows) (hb : base' ≤ base) : RowsOwn base' gx w vs rows :=
  ⟨h.1, fun i hi => by
    obtain ⟨A, c, h1, h2, h3⟩ := h.2.1 i hi
    exact ⟨A, c, h1, own_base h2 hb, h3⟩, h.2.2⟩
theorem RowsOwn.put {base : Nat} {gx : Option Nat} {w : World} {vs : List Value} {rows : List (List Int)} (h : RowsOwn base gx w vs rows) {i k : Nat} (hi : i < rows.length) (hk : k < rows[i].length) :
    ∃ b c, vs[i]? = some (.slice (some ⟨b, 0, none⟩) rows[i].length c) ∧ b < w.heap.size ∧ base ≤ b ∧ gx ≠ some b ∧ w.cell? ⟨b, k, none⟩ = some (.int .i64 rows[i][k]) ∧ w.frozen? ⟨b, k, none⟩ = false ∧
      ∀ v, RowsOwn base gx (w.setCell ⟨b, k, none⟩ (.int .i64 v)) vs (rows.set i (rows[i].set k v)) := by
  obtain ⟨A, c, h1, h2, h3⟩ := h.2.1 i hi
  obtain ⟨b, rfl, hb, hbb, hcell⟩ := own_cellB h2 (k := k) (u := .int .i64 rows[i][k]) hk (by simp [hk])
  refine ⟨b, c, h1, hb, hbb, h3 b rfl, hcell, ?_, fun v => ⟨by rw [List.length_set]; exact h.1, fun j hj => ?_, h.2.2⟩⟩
  · rcases h2.2 with ⟨e, _⟩ | ⟨g', cap, cur, e, _, h5, _⟩
    · cases e
    · injection e with e
      injection e with e
      injection e with e
      subst e
      exact Blk.frozen (show Blk w b 3 cur from h5) k
  · rw [List.length_set] at hj
    by_cases e : j = i
    · subst e
      rw [List.getElem_set_self]
      refine ⟨some ⟨b, 0, none⟩, c, by rw [List.length_set]; exact h1, ?_, fun k' hk' => h3 k' (by rw [List.length_set] at hk'; exact hk')⟩
      rw [List.length_set, List.map_set]
      exact (h2.stored k (.int .i64 v)).1
    · rw [List.getElem_set_ne (fun h => e h.symm)]
      obtain ⟨A', c', q1, q2, q3⟩ := h.2.1 j hj
      refine ⟨A', c', q1, ownsRow_setCell_other q2 (fun hb' => ?_) _, q3⟩
      have hb'' : (Value.slice A' rows[j].length c').ownBlock = some b := hb'
      rcases Nat.lt_or_ge j i with hlt | hge
      · exact h.2.2 j i _ _ hlt q1 h1 b hb'' rfl
      · exact h.2.2 i j _ _ (by omega) h1 q1 b rfl hb''

/-- All lists of items, of rules. -/
def flI (l : List It) : List (List Int) := l.flatMap fun x => [x.1, x.2]
def flR (l : List Ru) : List (List Int) := l.map (·.1)
theorem flI_length (l : List It) : (flI l).length = l.length * 2 := by
  induction l with
  | nil => rfl
  | cons p ps ih => simp only [flI, List.flatMap_cons, List.length_append, List.length_cons, List.length_nil] at ih ⊢; omega
theorem flI_get : ∀ (l : List It) (k : Nat) (hk : k < l.length), (flI l)[k * 2]? = some l[k].1 ∧ (flI l)[k * 2 + 1]? = some l[k].2
  | p :: ps, 0, _ => by simp [flI]
  | p :: ps, k + 1, hk => by
    have := flI_get ps k (by simpa using hk)
    simp only [flI, List.flatMap_cons] at this ⊢
    rw [List.getElem?_append_right (by simp; omega), List.getElem?_append_right (by simp; omega)]
    simp only [List.length_cons, List.length_nil, List.getElem_cons_succ]
    rw [show (k + 1) * 2 - (0 + 1 + 1) = k * 2 by omega, show (k + 1) * 2 + 1 - (0 + 1 + 1) = k * 2 + 1 by omega]
    exact this
theorem flI_snoc (l : List It) (x : It) : flI (l ++ [x]) = flI l ++ [x.1] ++ [x.2] := by simp [flI]
theorem flR_snoc (l : List Ru) (x : Ru) : flR (l ++ [x]) = flR l ++ [x.1] := by simp [flR]
/-- Items of a call's own: with their cells. -/
def ItP (lo : Nat) (out : Value) (w : World) (ps : List (Value × Value)) (l : List It) : Prop := ps.length = l.length ∧ w.ownsRow lo 84 2 out l.length (flatV ps) ∧ RowsOwn lo out.ownBlock w (flatV ps) (flI l)
/-- Rules of a call's own: with their cells. -/
def RuP (lo : Nat) (out : Value) (w : World) (ps : List (Value × Value)) (l : List Ru) : Prop := ps.length = l.length ∧ w.ownsRow lo 42 2 out l.length (flatV ps) ∧ RowsOwn lo out.ownBlock w (ps.map (·.1)) (flR l) ∧ ps.map (·.2) = l.map fun x => .int .i64 x.2
theorem ItP.nil (lo : Nat) (w : World) : ItP lo (.slice none 0 0) w [] [] := ⟨rfl, World.ownsRow_nil _ _ _ _, RowsOwn.nil _ _ _⟩
theorem RuP.nil (lo : Nat) (w : World) : RuP lo (.slice none 0 0) w [] [] := ⟨rfl, World.ownsRow_nil _ _ _ _, RowsOwn.nil _ _ _, rfl⟩
section
variable {lo : Nat} {out : Value} {w w' : World} {ps : List (Value × Value)}
theorem ItP.below {l : List It} (h : ItP lo out w ps l) (hb : Below w.heap.size w w') : ItP lo out w' ps l := ⟨h.1, own_below h.2.1 hb, h.2.2.below hb⟩
theorem RuP.below {l : List Ru} (h : RuP lo out w ps l) (hb : Below w.heap.size w w') : RuP lo out w' ps l := ⟨h.1, own_below h.2.1 hb, h.2.2.1.below hb, h.2.2.2⟩
theorem ItP.snoc {l : List It} {x : It} {wr Wb Wc W w8 : World} {A6 A7 A8 : Option Addr} {n1 n2 c6 c7 c8 : Nat} {k : Nat} (h : ItP lo out wr ps l) (hk : l.length = k) (hlo : lo ≤ wr.heap.size) (hn1 : n1 = x.1.length) (hn2 : n2 = x.2.length)
    (hb1 : Below wr.heap.size wr Wb) (ho1 : Wb.ownsRow wr.heap.size 3 1 (.slice A6 n1 c6) n1 (x.1.map (Value.int .i64))) (hb2 : Below Wb.heap.size Wb Wc) (ho2 : Wc.ownsRow Wb.heap.size 3 1 (.slice A7 n2 c7) n2 (x.2.map (Value.int .i64))) (hb3 : Below Wc.heap.size Wc W)
    (hown : w8.ownsRow lo 84 2 (.slice A8 (k + 1) c8) (k + 1) (flatV (ps ++ [(.slice A6 n1 c6, .slice A7 n2 c7)]))) (hg : W.grownBy w8 out.ownBlock) (hat : ∀ j, (Value.slice A8 (k + 1) c8).ownBlock = some j → out.ownBlock = some j ∨ j = W.heap.size) :
    ItP lo (.slice A8 (k + 1) c8) w8 (ps ++ [(.slice A6 n1 c6, .slice A7 n2 c7)]) (l ++ [x]) := by
  subst hn1 hn2 hk
  have hlt : ∀ j, out.ownBlock = some j → j < wr.heap.size := fun j hj => (h.2.1.lt j hj).2
  have r1 := (h.2.2.below hb1).snoc (o := x.1) wr.heap.size hlo rfl ho1 hlt (fun i v hv b hb => h.2.2.lt hv hb)
  have r2 := (r1.below hb2).snoc (o := x.2) Wb.heap.size (Nat.le_trans hlo hb1.size) rfl ho2 (fun j hj => Nat.lt_of_lt_of_le (hlt j hj) hb1.size) (fun i v hv b hb => r1.lt hv hb)
  have r3 := (r2.below hb3).grown hg hat
  refine ⟨by simp [h.1], by simpa using hown, ?_⟩
  rw [flI_snoc, flatV_snoc]
  simpa using r3
theorem RuP.snoc {l : List Ru} {x : Ru} {wr Wb W w8 : World} {A6 A8 : Option Addr} {n1 c6 c8 : Nat} {k : Nat} (h : RuP lo out wr ps l) (hk : l.length = k) (hlo : lo ≤ wr.heap.size) (hn1 : n1 = x.1.length)
    (hb1 : Below wr.heap.size wr Wb) (ho1 : Wb.ownsRow wr.heap.size 3 1 (.slice A6 n1 c6) n1 (x.1.map (Value.int .i64))) (hb3 : Below Wb.heap.size Wb W)
    (hown : w8.ownsRow lo 42 2 (.slice A8 (k + 1) c8) (k + 1) (flatV (ps ++ [(.slice A6 n1 c6, .int .i64 x.2)]))) (hg : W.grownBy w8 out.ownBlock) (hat : ∀ j, (Value.slice A8 (k + 1) c8).ownBlock = some j → out.ownBlock = some j ∨ j = W.heap.size) :
    RuP lo (.slice A8 (k + 1) c8) w8 (ps ++ [(.slice A6 n1 c6, .int .i64 x.2)]) (l ++ [x]) := by
  subst hn1 hk
  have hlt : ∀ j, out.ownBlock = some j → j < wr.heap.size := fun j hj => (h.2.1.lt j hj).2
  have r1 := (h.2.2.1.below hb1).snoc (o := x.1) wr.heap.size hlo rfl ho1 hlt (fun i v hv b hb => h.2.2.1.lt hv hb)
  have r3 := (r1.below hb3).grown hg hat
  refine ⟨by simp [h.1], by simpa using hown, ?_, by simp [h.2.2.2]⟩
  rw [flR_snoc, List.map_append]
  simpa using r3
theorem RowsOwn.only {base : Nat} {gx : Option Nat} {w w' : World} {vs : List Value} {rows : List (List Int)} {G : Nat} (h : RowsOwn base gx w vs rows) (o : Only G w w') (hG : G < base) : RowsOwn base gx w' vs rows :=
  ⟨h.1, fun i hi => by
    obtain ⟨A, c, h1, h2, h3⟩ := h.2.1 i hi
    exact ⟨A, c, h1, o.own h2 (own_ne h2 hG), h3⟩, h.2.2⟩
theorem ItP.only {lo G : Nat} {out : Value} {w w' : World} {ps : List (Value × Value)} {l : List It} (h : ItP lo out w ps l) (o : Only G w w') (hG : G < lo) : ItP lo out w' ps l := ⟨h.1, o.own h.2.1 (own_ne h.2.1 hG), h.2.2.only o hG⟩
theorem RuP.only {lo G : Nat} {out : Value} {w w' : World} {ps : List (Value × Value)} {l : List Ru} (h : RuP lo out w ps l) (o : Only G w w') (hG : G < lo) : RuP lo out w' ps l := ⟨h.1, o.own h.2.1 (own_ne h.2.1 hG), h.2.2.1.only o hG, h.2.2.2⟩
theorem ItP.base {lo lo' : Nat} {out : Value} {w : World} {ps : List (Value × Value)} {l : List It} (h : ItP lo out w ps l) (hl : lo' ≤ lo) : ItP lo' out w ps l := ⟨h.1, own_base h.2.1 hl, h.2.2.base hl⟩
theorem RuP.base {lo lo' : Nat} {out : Value} {w : World} {ps : List (Value × Value)} {l : List Ru} (h : RuP lo out w ps l) (hl : lo' ≤ lo) : RuP lo' out w ps l := ⟨h.1, own_base h.2.1 hl, h.2.2.1.base hl, h.2.2.2⟩
/-- The blocks of rows lie below mid. -/
def UpTo (mid : Nat) (out : Value) (vs : List Value) : Prop := (∀ b, out.ownBlock = some b → b < mid) ∧ ∀ (i : Nat) (v : Value), vs[i]? = some v → ∀ b, v.ownBlock = some b → b < mid
theorem ItP.upTo {lo : Nat} {out : Value} {w : World} {ps : List (Value × Value)} {l : List It} (h : ItP lo out w ps l) : UpTo w.heap.size out (flatV ps) := ⟨fun b hb => (h.2.1.lt b hb).2, fun i v hv b hb => h.2.2.lt hv hb⟩
theorem ItP.at {l : List It} {A : Option Addr} {n c : Nat} (h : ItP lo (.slice A n c) w ps l) (hn : n = l.length) : ItsAt w.heap.size w A l := by
  subst hn
  intro k hk
  have hkp : k < ps.length := by rw [h.1]; exact hk
  obtain ⟨g, rfl, hg, q0, q1⟩ := own_cell2 h.2.1 h.1 hkp
  obtain ⟨f0, f1⟩ := flatV_get ps k hkp
  obtain ⟨g0, g1⟩ := flI_get l k hk
  have hl := flI_length l
  obtain ⟨A1, c1, e1, o1, _⟩ := h.2.2.2.1 (k * 2) (by omega)
  obtain ⟨A2, c2, e2, o2, _⟩ := h.2.2.2.1 (k * 2 + 1) (by omega)
  have x1 : (flI l)[k * 2]'(by omega) = l[k].1 := by rw [List.getElem?_eq_getElem (by omega)] at g0; injection g0
  have x2 : (flI l)[k * 2 + 1]'(by omega) = l[k].2 := by rw [List.getElem?_eq_getElem (by omega)] at g1; injection g1
  rw [x1] at e1 o1
  rw [x2] at e2 o2
  rw [f0] at e1
  rw [f1] at e2
  injection e1 with e1
  injection e2 with e2
  refine ⟨g, 0, A1, c1, A2, c2, rfl, hg, ?_, ?_, IntsAt.of_own o1, IntsAt.of_own o2⟩
  · rw [Nat.zero_add, q0, e1]
  · rw [Nat.zero_add, q1, e2]
theorem RuP.at {l : List Ru} {A : Option Addr} {n c : Nat} (h : RuP lo (.slice A n c) w ps l) (hn : n = l.length) : RusAt w.heap.size w A l := by
  subst hn
  intro k hk
  have hkp : k < ps.length := by rw [h.1]; exact hk
  obtain ⟨g, rfl, hg, q0, q1⟩ := own_cell2 h.2.1 h.1 hkp
  obtain ⟨A1, c1, e1, o1, _⟩ := h.2.2.1.2.1 k (by simpa [flR] using hk)
  have x1 : (flR l)[k]'(by simpa [flR] using hk) = l[k].1 := by simp [flR]
  rw [x1] at e1 o1
  rw [List.getElem?_map, List.getElem?_eq_getElem hkp] at e1
  have e1' : ps[k].1 = .slice A1 l[k].1.length c1 := by simpa using e1
  have e2 : ps[k].2 = .int .i64 l[k].2 := by
    have := congrArg (fun l => l[k]?) h.2.2.2
    simpa [hkp, hk] using this
  refine ⟨g, 0, A1, c1, rfl, hg, ?_, ?_, IntsAt.of_own o1⟩
  · rw [Nat.zero_add, q0, e1']
  · rw [Nat.zero_add, q1, e2]
end
end Go.Proofs.YtgoojcjfhghmgaaDoor


set_option linter.unusedSimpArgs false
set_option linter.unusedVariables false
namespace Go.Proofs.YtgoojcjfhghmgaaDoor
open Go Go.RowKit

section
variable {P : Program} {md : Region.Mode} {ops : Array Oper} {Q : Exit → Act → World → Prop} {S : World → Prop}
/-- Number i is taken first; the exempt ones wait for it; its place is written out. -/
theorem anyE_tx (i d : Nat) (xs N : List Nat) {oi : Oper} {v : Value} {n : Nat} {listed : Array Bool} {a : Act} {w : World} (hi : ops[i]? = some oi) (hd : oi.dst = some d)
    (hs : Region.noSelect ops = true) (hf : Region.free md ops listed i = true) (hr : (Region.ready md ops listed).contains i = true) (hx : waitsE md ops listed xs N i = true)
    (hQ : ∀ c a w, Q (.panic c) (a.put oi.dst v) w → Q (.panic c) a w) (hy : YieldsIf P ops S oi v a) (hS : S w)
    (h : anyE P md ops Q S (fun j => xs.contains j) n (listed.setIfInBounds i true) { a with tmps := a.tmps.setIfInBounds d v } w) : anyE P md ops Q S (fun j => xs.contains j) (n + 1) listed a w := by
  refine anyE_take N hi hs hf hr hx hQ hy hS ?_
  rw [hd]; exact h
end
set_option maxRecDepth 100000 in
set_option maxHeartbeats 4000000 in
theorem clone_bk (AI AR : Option Addr) (cI cR B : Nat) (b : Bk) (w : World) (hB : B ≤ w.heap.size) (h : ItsAt B w AI b.its) (h' : RusAt B w AR b.rus) (hs : Short b) :
    Calls Tryd.prog 90 #[.agg #[.int .i64 b.p, .slice AI b.its.length cI, .slice AR b.rus.length cR]] w fun e w' => ∃ AI' AR' cI' cR' ps qs mid, e = .returned (.agg #[.int .i64 b.p, .slice AI' b.its.length cI', .slice AR' b.rus.length cR']) ∧
      ItP w.heap.size (.slice AI' b.its.length cI') w' ps b.its ∧ UpTo mid (.slice AI' b.its.length cI') (flatV ps) ∧ w.heap.size ≤ mid ∧ mid ≤ w'.heap.size ∧ RuP mid (.slice AR' b.rus.length cR') w' qs b.rus ∧ Below w.heap.size w w' := by
  obtain ⟨j0, hj, hy0, hy1, hy2⟩ := info_parts info84
  obtain ⟨i0, hi, hz0, hz1, hz2⟩ := info_parts info42
  have H := Lib.hid (h.below (Below.refl _ _) hB)
  have H' := Lib.hid (h'.below (Below.refl _ _) hB)
  have Hs := Lib.hid hs
  have ni := hs.1
  have nr := hs.2.1
  clear h h' hs hB
  go_enter Tryd.func90, Tryd.ntmps90
  go_wp2_with fail
  generalize hW0 : ((w.alloc (.cells #[.int .i64 b.p, .slice AI b.its.length cI, .slice AR b.rus.length cR] 25)).alloc (.cells #[.int .i64 0, .slice none 0 0, .slice none 0 0] 25)).alloc (.cells #[.int .i64 b.p, .slice none 0 0, .slice none 0 0] 25) = W0
  have HB0 := Lib.hid (show Below w.heap.size w W0 by rw [← hW0]; exact balloc (balloc (balloc (Below.refl _ _) _) _) _)
  have HK0 := Lib.hid (show Blk W0 w.heap.size 25 #[.int .i64 b.p, .slice AI b.its.length cI, .slice AR b.rus.length cR] by rw [← hW0]; exact ((Blk.new _ _ _).alloc _).alloc _)
  have HK1 := Lib.hid (show Blk W0 (w.heap.size + 1) 25 #[.int .i64 0, .slice none 0 0, .slice none 0 0] by rw [← hW0]; exact (blk_new' (by simp)).alloc _)
  have HKG := Lib.hid (show Blk W0 (w.heap.size + 1 + 1) 25 #[.int .i64 b.p, .slice none 0 0, .slice none 0 0] by rw [← hW0]; exact blk_new' (by simp))
  have HG := Lib.hid (show w.heap.size + 1 + 1 < W0.heap.size from HKG.out.lt)
  clear hW0
  obtain ⟨G, hG⟩ : ∃ G, G = w.heap.size + 1 + 1 := ⟨_, rfl⟩
  rw [← hG] at HKG HG ⊢
  have HGe := Lib.hid hG
  have hlo0 : G < W0.heap.size := HG.out
  clear hG
  go_loopw [14] (fun i wr => ∃ (k : Nat) (AIx : Option Addr) (cIx : Nat) (ps : List (Value × Value)), k ≤ b.its.length ∧ i = .int .i64 k ∧ Aside (ItP W0.heap.size (.slice AIx k cIx) wr ps (b.its.take k)) ∧ Aside (Only G W0 wr) ∧ Aside (Blk wr G 25 #[.int .i64 b.p, .slice AIx k cIx, .slice none 0 0])) (fun i _ => b.its.length - (intOf i).toNat)
  case atStart => exact ⟨0, none, 0, [], Nat.zero_le _, rfl, ItP.nil _ _, Only.refl _ _, HKG.out⟩
  case round =>
    obtain ⟨k, AIx, cIx, ps, hk, rfl, hit, hon, hbl⟩ := hrel
    have HIt := Lib.hid hit.out
    have HOn := Lib.hid hon.out
    have HBl := Lib.hid hbl.out
    have hlow : Below w.heap.size w wr := HB0.out.trans (hon.out.below (by rw [HGe.out]; omega) HB0.out.size)
    have HLow := Lib.hid hlow
    have hlo : W0.heap.size ≤ wr.heap.size := hon.out.size
    have hGr : G < wr.heap.size := hbl.out.lt
    clear hit hon hbl
    by_cases hlt : k < b.its.length
    · obtain ⟨bb, off, A1, c1, A2, c2, rfl, hbB, e0, e1, i1, i2⟩ := H.out k hlt
      obtain ⟨m1, m2⟩ := Hs.out.2.2.1 b.its[k] (List.getElem_mem hlt)
      have d0 := (hlow.cell (p := ⟨bb, off + k * 2, none⟩) hbB).trans e0
      have d1 := (hlow.cell (p := ⟨bb, off + k * 2 + 1, none⟩) hbB).trans e1
      have cc1 := Lib.hid (fun W (hW : Below wr.heap.size wr W) => clone_any A1 c1 w.heap.size b.its[k].1 W (by omega) (i1.below (hlow.trans (hW.mono hlow.size)) (Nat.le_refl _)))
      have cc2 := Lib.hid (fun W (hW : Below wr.heap.size wr W) => clone_any A2 c2 w.heap.size b.its[k].2 W (by omega) (i2.below (hlow.trans (hW.mono hlow.size)) (Nat.le_refl _)))
      have hbw := hlow.size
      have hbbw : bb < wr.heap.size := by omega
      clear e0 e1 i1 i2 hlow
      obtain ⟨n1, hn1⟩ : ∃ n1, n1 = b.its[k].1.length := ⟨_, rfl⟩
      obtain ⟨n2, hn2⟩ : ∃ n2, n2 = b.its[k].2.length := ⟨_, rfl⟩
      rw [← hn1] at d0 cc1
      rw [← hn2] at d1 cc2
      have Hn1 := Lib.hid hn1
      have Hn2 := Lib.hid hn2
      clear hn1 hn2
      obtain ⟨y0, y1, y2, f0, f1, f2⟩ := blk3 HBl.out
      go_wp2_with fail
      have hbi : Below wr.heap.size wr (wr.alloc (.cells #[.slice A1 n1 c1, .slice A2 n2 c2] 84)).drew := (balloc (Below.refl _ _) _).drew
      have HTi := Lib.hid (show Blk (wr.alloc (.cells #[.slice A1 n1 c1, .slice A2 n2 c2] 84)).drew wr.heap.size 84 #[.slice A1 n1 c1, .slice A2 n2 c2] from (Blk.new _ _ _).drew)
      refine wp_region_E (S := fun W => W.cell? ⟨G, 1, none⟩ = some (.slice AIx k cIx) ∧ W.cell? ⟨wr.heap.size, 0, none⟩ = some (.slice A1 n1 c1) ∧ W.cell? ⟨wr.heap.size, 1, none⟩ = some (.slice A2 n2 c2)) (E := fun j => [12].contains j) (by kernel_rfl) ?_
      generalize (wr.alloc (.cells #[.slice A1 n1 c1, .slice A2 n2 c2] 84)).drew = wi0 at hbi HTi ⊢
      have HBi := Lib.hid (Below.refl wi0.heap.size wi0)
      have cc1 := Lib.hid (fun W (hW : Below wi0.heap.size wi0 W) => cc1.out W (hbi.trans (hW.mono hbi.size)))
      have cc2 := Lib.hid (fun W (hW : Below wi0.heap.size wi0 W) => cc2.out W (hbi.trans (hW.mono hbi.size)))
      have HOw := Lib.hid (show wi0.ownsRow W0.heap.size 84 2 (.slice AIx k cIx) k (flatV ps) from by
        have := (HIt.out.below hbi).2.1
        rw [List.length_take, Nat.min_eq_left hk] at this
        exact this)
      have HNE := Lib.hid (show some G ≠ (Value.slice AIx k cIx).ownBlock from own_ne HOw.out hlo0)
      have HNT := Lib.hid (show some wr.heap.size ≠ (Value.slice AIx k cIx).ownBlock from fun e => by have := (HIt.out.2.1.lt _ e.symm).2; omega)
      have HSn := Lib.hid (fun (Wb Wc W w8 : World) (A6 A7 A8 : Option Addr) (c6 c7 c8 : Nat) hb1 ho1 hb2 ho2 hb3 hown hg hat => show ItP W0.heap.size (.slice A8 (k + 1) c8) w8 (ps ++ [(.slice A6 n1 c6, .slice A7 n2 c7)]) (b.its.take (k + 1)) from by
        have := ItP.snoc (x := b.its[k]'hlt) (wr := wi0) (Wb := Wb) (Wc := Wc) (W := W) (w8 := w8) (A6 := A6) (A7 := A7) (A8 := A8) (c6 := c6) (c7 := c7) (c8 := c8) (n1 := n1) (n2 := n2) (k := k) (HIt.out.below hbi) (by simp; omega) (Nat.le_trans hlo hbi.size) Hn1.out Hn2.out hb1 ho1 hb2 ho2 hb3 hown hg hat
        rw [List.take_succ_eq_append_getElem hlt]
        exact this)
      have HOn := Lib.hid (HOn.out.trans (Only.of_below hbi G))
      have HBl := Lib.hid (HBl.out.below hbi hGr)
      have hlo : W0.heap.size ≤ wi0.heap.size := Nat.le_trans hlo hbi.size
      have hGr : G < wi0.heap.size := Nat.lt_of_lt_of_le hGr hbi.size
      have Keep := Lib.hid (show ∀ W, Below wi0.heap.size wi0 W → W.cell? ⟨G, 1, none⟩ = some (.slice AIx k cIx) ∧ W.cell? ⟨wr.heap.size, 0, none⟩ = some (.slice A1 n1 c1) ∧ W.cell? ⟨wr.heap.size, 1, none⟩ = some (.slice A2 n2 c2) from fun W hW => ⟨(HBl.out.below hW hGr).cell 1, (HTi.out.below hW HTi.out.lt).cell 0, (HTi.out.below hW HTi.out.lt).cell 1⟩)
      generalize b.its[k].1.map (Value.int .i64) = o1 at cc1 HSn
      generalize b.its[k].2.map (Value.int .i64) = o2 at cc2 HSn
      have hS := Keep.out _ HBi.out
      clear d0 d1 y0 y1 y2 f0 f1 f2 m1 m2 hbi
      refine anyE_tx 0 18 [12] [12] (oi := ?oi1) (v := ?v1) ?hi1 ?hd1 (by kernel_rfl) (by kernel_rfl) (by kernel_rfl) (by kernel_rfl) ?hQ1 ?hy1 hS ?rest1
      case hi1 => simp only [List.getElem?_toArray, List.getElem?_cons_zero, List.getElem?_cons_succ]; rfl
      case hd1 => rfl
      case hQ1 => exact fun _ _ _ h => h
      case hy1 => (refine Or.inl ⟨by rfl, ?_⟩; intro w hSw; (try dsimp only at hSw); go_simp; try with_reducible rfl)
      simp only [List.setIfInBounds_toArray, List.set_cons_zero, List.set_cons_succ]
      refine anyE_tx 1 19 [12] [12] (oi := ?oi2) (v := ?v2) ?hi2 ?hd2 (by kernel_rfl) (by kernel_rfl) (by kernel_rfl) (by kernel_rfl) ?hQ2 ?hy2 hS ?rest2
      case hi2 => simp only [List.getElem?_toArray, List.getElem?_cons_zero, List.getElem?_cons_succ]; rfl
      case hd2 => rfl
      case hQ2 => exact fun _ _ _ h => h
      case hy2 => (refine Or.inl ⟨by rfl, ?_⟩; intro w hSw; (try dsimp only at hSw); go_simp; try with_reducible rfl)
      simp only [List.setIfInBounds_toArray, List.set_cons_zero, List.set_cons_succ]
      refine anyE_tx 2 20 [12] [12] (oi := ?oi3) (v := ?v3) ?hi3 ?hd3 (by kernel_rfl) (by kernel_rfl) (by kernel_rfl) (by kernel_rfl) ?hQ3 ?hy3 hS ?rest3
      case hi3 => simp only [List.getElem?_toArray, List.getElem?_cons_zero, List.getElem?_cons_succ]; rfl
      case hd3 => rfl
      case hQ3 => exact fun _ _ _ h => h
      case hy3 => (refine Or.inl ⟨by rfl, ?_⟩; intro w hSw; (try dsimp only at hSw); go_simp; try with_reducible rfl)
      simp only [List.setIfInBounds_toArray, List.set_cons_zero, List.set_cons_succ]
      refine anyE_tx 3 21 [12] [12] (oi := ?oi4) (v := ?v4) ?hi4 ?hd4 (by kernel_rfl) (by kernel_rfl) (by kernel_rfl) (by kernel_rfl) ?hQ4 ?hy4 hS ?rest4
      case hi4 => simp only [List.getElem?_toArray, List.getElem?_cons_zero, List.getElem?_cons_succ]; rfl
      case hd4 => rfl
      case hQ4 => exact fun _ _ _ h => h
      case hy4 => (refine Or.inl ⟨by rfl, ?_⟩; intro w hSw; (try dsimp only at hSw); go_simp; try with_reducible rfl)
      simp only [List.setIfInBounds_toArray, List.set_cons_zero, List.set_cons_succ]
      refine anyE_tx 5 23 [12] [12] (oi := ?oi5) (v := ?v5) ?hi5 ?hd5 (by kernel_rfl) (by kernel_rfl) (by kernel_rfl) (by kernel_rfl) ?hQ5 ?hy5 hS ?rest5
      case hi5 => simp only [List.getElem?_toArray, List.getElem?_cons_zero, List.getElem?_cons_succ]; rfl
      case hd5 => rfl
      case hQ5 => exact fun _ _ _ h => h
      case hy5 => (refine Or.inl ⟨by rfl, ?_⟩; intro w hSw; (try dsimp only at hSw); go_simp; try with_reducible rfl)
      simp only [List.setIfInBounds_toArray, List.set_cons_zero, List.set_cons_succ]
      refine anyE_tx 6 24 [12] [12] (oi := ?oi6) (v := ?v6) ?hi6 ?hd6 (by kernel_rfl) (by kernel_rfl) (by kernel_rfl) (by kernel_rfl) ?hQ6 ?hy6 hS ?rest6
      case hi6 => simp only [List.getElem?_toArray, List.getElem?_cons_zero, List.getElem?_cons_succ]; rfl
      case hd6 => rfl
      case hQ6 => exact fun _ _ _ h => h
      case hy6 => (refine Or.inl ⟨by rfl, ?_⟩; intro w hSw; (try dsimp only at hSw); go_simp; try with_reducible rfl)
      simp only [List.setIfInBounds_toArray, List.set_cons_zero, List.set_cons_succ]
      refine anyE_one (i := 4) (o := ?oi7) (by kernel_rfl) ?hi7 (fun K hK => ?step7)
      case hi7 => simp only [List.getElem?_toArray, List.getElem?_cons_zero, List.getElem?_cons_succ]; rfl
      go_simp
      refine (cc1.out _ HBi.out).mono ?_
      rintro e Wb ⟨v6, rfl, ho, hb⟩
      obtain ⟨A6, c6, rfl⟩ := own_form ho
      have HO6 := Lib.hid ho
      have HB6 := Lib.hid hb
      have HBb := Lib.hid (HBi.out.trans (hb.mono HBi.out.size))
      clear ho hb
      go_wp2_with fail
      refine hK.out _ _ (fun _ => Keep.out _ HBb.out) ?_
      clear hK K
      try simp only [Act.put, List.setIfInBounds_toArray, List.set_cons_zero, List.set_cons_succ]
      refine anyE_one (i := 7) (o := ?oi8) (by kernel_rfl) ?hi8 (fun K hK => ?step8)
      case hi8 => simp only [List.getElem?_toArray, List.getElem?_cons_zero, List.getElem?_cons_succ]; rfl
      go_simp
      refine (cc2.out _ HBb.out).mono ?_
      rintro e Wc ⟨v7, rfl, ho, hb⟩
      obtain ⟨A7, c7, rfl⟩ := own_form ho
      have HO7 := Lib.hid ho
      have HB7 := Lib.hid hb
      have HBc := Lib.hid (HBb.out.trans (hb.mono HBb.out.size))
      clear ho hb
      go_wp2_with fail
      refine hK.out _ _ (fun _ => Keep.out _ HBc.out) ?_
      clear hK K
      try simp only [Act.put, List.setIfInBounds_toArray, List.set_cons_zero, List.set_cons_succ]
      refine anyE_tx 8 26 [12] [12] (oi := ?oi9) (v := ?v9) ?hi9 ?hd9 (by kernel_rfl) (by kernel_rfl) (by kernel_rfl) (by kernel_rfl) ?hQ9 ?hy9 (Keep.out _ HBc.out) ?rest9
      case hi9 => simp only [List.getElem?_toArray, List.getElem?_cons_zero, List.getElem?_cons_succ]; rfl
      case hd9 => rfl
      case hQ9 => exact fun _ _ _ h => h
      case hy9 => (refine Or.inl ⟨by rfl, ?_⟩; intro w hSw; (try dsimp only at hSw); go_simp; try with_reducible rfl)
      simp only [List.setIfInBounds_toArray, List.set_cons_zero, List.set_cons_succ]
      refine anyE_one (i := 9) (o := ?oi10) (by kernel_rfl) ?hi10 (fun K hK => ?step10)
      case hi10 => simp only [List.getElem?_toArray, List.getElem?_cons_zero, List.getElem?_cons_succ]; rfl
      go_simp
      go_wp2_with fail
      refine hK.out _ _ (fun _ => Keep.out _ (balloc HBc.out _)) ?_
      clear hK K
      try simp only [Act.put, List.setIfInBounds_toArray, List.set_cons_zero, List.set_cons_succ]
      refine anyE_one (i := 10) (o := ?oi10x) (by kernel_rfl) ?hi10x (fun K hK => ?step10x)
      case hi10x => simp only [List.getElem?_toArray, List.getElem?_cons_zero, List.getElem?_cons_succ]; rfl
      have hbW := balloc HBc.out (.cells #[.slice A6 n1 c6, .slice A7 n2 c7] 84)
      refine step_app2 _ (by rfl) (.tmp 19) (.tmp 27) 22 (by rfl) W0.heap.size 84 j0 _ 2 48 Tryd.underlying22 hj hy0 hy1 hy2 (by rfl) (by decide) (.slice AIx k cIx) k (flatV ps) (by rfl)
        (own_below HOw.out hbW)
        ⟨_, 0, none⟩ 1 1 [.slice A6 n1 c6, .slice A7 n2 c7] (by rfl) (by rfl)
        (news_blk (t := 84) (cs := #[.slice A6 n1 c6, .slice A7 n2 c7]) (blk_new' rfl) _ rfl)
        (by simp [Value.oneCell']) (by omega) (by decide) (Nat.le_trans hlo hbW.size) (k + 1) rfl (flatV (ps ++ [(.slice A6 n1 c6, .slice A7 n2 c7)])) (flatV_snoc _ _ _).symm ?_
      intro A8 c8 w8 hown8 hg8 hlow8 hat8
      have HI8 := Lib.hid (HSn.out Wb Wc _ w8 A6 A7 A8 c6 c7 c8 HB6.out HO6.out HB7.out HO7.out (balloc (Below.refl _ _) _) hown8 hg8 hat8)
      have HB8 := Lib.hid (Blk.grown (HBl.out.below hbW hGr) hg8 HNE.out)
      have HT8 := Lib.hid (Blk.grown (HTi.out.below hbW HTi.out.lt) hg8 HNT.out)
      have hbw8 : Below W0.heap.size wi0 w8 := (Below.mono hbW hlo).grown hg8 (Nat.le_trans hlo hbW.size) (fun j hj => hlow8 j hj)
      have HO8 := Lib.hid (show Only G W0 w8 from ⟨hbw8.os.trans HOn.out.os, hbw8.tape.trans HOn.out.tape, hbw8.output.trans HOn.out.output, Nat.le_trans HOn.out.size hbw8.size, fun i hi hne => (hbw8.block i hi).trans (HOn.out.block i hi hne)⟩)
      have HS8 := Lib.hid (show w8.cell? ⟨G, 1, none⟩ = some (.slice AIx k cIx) ∧ w8.cell? ⟨wr.heap.size, 0, none⟩ = some (.slice A1 n1 c1) ∧ w8.cell? ⟨wr.heap.size, 1, none⟩ = some (.slice A2 n2 c2) from ⟨HB8.out.cell 1, HT8.out.cell 0, HT8.out.cell 1⟩)
      clear hown8 hg8 hlow8 hat8 hbW hbw8
      refine hK.out _ _ (fun _ => HS8.out) ?_
      clear hK K
      try simp only [Act.put, List.setIfInBounds_toArray, List.set_cons_zero, List.set_cons_succ]
      refine anyE_tx 11 29 [12] [12] (oi := ?oi11) (v := ?v11) ?hi11 ?hd11 (by kernel_rfl) (by kernel_rfl) (by kernel_rfl) (by kernel_rfl) ?hQ11 ?hy11 HS8.out ?rest11
      case hi11 => simp only [List.getElem?_toArray, List.getElem?_cons_zero, List.getElem?_cons_succ]; rfl
      case hd11 => rfl
      case hQ11 => exact fun _ _ _ h => h
      case hy11 => (refine Or.inl ⟨by rfl, ?_⟩; intro w hSw; (try dsimp only at hSw); go_simp; try with_reducible rfl)
      simp only [List.setIfInBounds_toArray, List.set_cons_zero, List.set_cons_succ]
      have q8 := HS8.out.1
      have q9 := HB8.out.frozen 1
      refine anyE_one (i := 12) (o := ?oi12) (by kernel_rfl) ?hi12 (fun K hK => ?step12)
      case hi12 => simp only [List.getElem?_toArray, List.getElem?_cons_zero, List.getElem?_cons_succ]; rfl
      go_simp
      refine hK.out _ _ (fun h => absurd h (by decide)) ?_
      clear hK K
      try simp only [Act.put, List.setIfInBounds_toArray, List.set_cons_zero, List.set_cons_succ]
      refine anyE_done (by kernel_rfl) ?_ _
      go_wp2_with fail
      go_roundw
      case rel => exact ⟨k + 1, A8, c8, _, by omega, by go_num, HI8.out.only ((Only.refl G w8).put 1 (.slice A8 (k + 1) c8)) hlo0, HO8.out.put 1 (.slice A8 (k + 1) c8), HB8.out.put 1 (.slice A8 (k + 1) c8)⟩
      case measure => simp [intOf]; omega
    · obtain rfl : k = b.its.length := by omega
      obtain ⟨w1, rfl⟩ : ∃ w1 : World, w1 = wr := ⟨_, rfl⟩
      have HItF := Lib.hid (show ItP W0.heap.size (.slice AIx b.its.length cIx) w1 ps b.its from by
        have := HIt.out
        rw [List.take_length] at this
        exact this)
      have HK0' := Lib.hid (show Blk w1 w.heap.size 25 #[.int .i64 b.p, .slice AI b.its.length cI, .slice AR b.rus.length cR] from (HOn.out.block _ HK0.out.lt (fun e => by injection e with e; have := HGe.out; omega)).trans HK0.out)
      have HK1' := Lib.hid (show Blk w1 (w.heap.size + 1) 25 #[.int .i64 0, .slice none 0 0, .slice none 0 0] from (HOn.out.block _ HK1.out.lt (fun e => by injection e with e; have := HGe.out; omega)).trans HK1.out)
      obtain ⟨x0, x1, x2, _⟩ := blk3 HK0'.out
      have hlow1 := hlow
      have Hlow1 := Lib.hid hlow
      have hG1 : G < w1.heap.size := hGr
      clear hlow HIt HOn hlo hlt
      go_wp2_with fail
      go_loopw [34] (fun i wr => ∃ (k : Nat) (ARx : Option Addr) (cRx : Nat) (qs : List (Value × Value)), k ≤ b.rus.length ∧ i = .int .i64 k ∧ Aside (RuP w1.heap.size (.slice ARx k cRx) wr qs (b.rus.take k)) ∧ Aside (Only G w1 wr) ∧ Aside (Blk wr G 25 #[.int .i64 b.p, .slice AIx b.its.length cIx, .slice ARx k cRx])) (fun i _ => b.rus.length - (intOf i).toNat)
      case atStart => exact ⟨0, none, 0, [], Nat.zero_le _, rfl, RuP.nil _ _, Only.refl _ _, HBl.out⟩
      case round =>
        clear HBl
        obtain ⟨k, ARx, cRx, qs, hk, rfl, hit, hon, hbl⟩ := hrel
        have HIt := Lib.hid hit.out
        have HOn := Lib.hid hon.out
        have HBl := Lib.hid hbl.out
        have hlow : Below w.heap.size w wr := Hlow1.out.trans (hon.out.below (by rw [HGe.out]; omega) Hlow1.out.size)
        have hlo : w1.heap.size ≤ wr.heap.size := hon.out.size
        have hGr : G < wr.heap.size := hbl.out.lt
        clear hit hon hbl
        by_cases hlt : k < b.rus.length
        · obtain ⟨bb, off, A1, c1, rfl, hbB, e0, e1, i1⟩ := H'.out k hlt
          have m1 := Hs.out.2.2.2 b.rus[k] (List.getElem_mem hlt)
          have d0 := (hlow.cell (p := ⟨bb, off + k * 2, none⟩) hbB).trans e0
          have d1 := (hlow.cell (p := ⟨bb, off + k * 2 + 1, none⟩) hbB).trans e1
          have cc1 := Lib.hid (fun W (hW : Below wr.heap.size wr W) => clone_any A1 c1 w.heap.size b.rus[k].1 W (by omega) (i1.below (hlow.trans (hW.mono hlow.size)) (Nat.le_refl _)))
          have hbw := hlow.size
          have hbbw : bb < wr.heap.size := by omega
          clear e0 e1 i1 hlow
          obtain ⟨n1, hn1⟩ : ∃ n1, n1 = b.rus[k].1.length := ⟨_, rfl⟩
          obtain ⟨z, hz⟩ : ∃ z, z = b.rus[k].2 := ⟨_, rfl⟩
          rw [← hn1] at d0 cc1
          rw [← hz] at d1
          have Hn1 := Lib.hid hn1
          have Hz := Lib.hid hz
          clear hn1 hz
          obtain ⟨y0, y1, y2, f0, f1, f2⟩ := blk3 HBl.out
          go_wp2_with fail
          have hbi : Below wr.heap.size wr (wr.alloc (.cells #[.slice A1 n1 c1, .int .i64 z] 42)).drew := (balloc (Below.refl _ _) _).drew
          have HTi := Lib.hid (show Blk (wr.alloc (.cells #[.slice A1 n1 c1, .int .i64 z] 42)).drew wr.heap.size 42 #[.slice A1 n1 c1, .int .i64 z] from (Blk.new _ _ _).drew)
          refine wp_region_E (S := fun W => W.cell? ⟨G, 2, none⟩ = some (.slice ARx k cRx) ∧ W.cell? ⟨wr.heap.size, 0, none⟩ = some (.slice A1 n1 c1) ∧ W.cell? ⟨wr.heap.size, 1, none⟩ = some (.int .i64 z)) (E := fun j => [11].contains j) (by kernel_rfl) ?_
          generalize (wr.alloc (.cells #[.slice A1 n1 c1, .int .i64 z] 42)).drew = wi0 at hbi HTi ⊢
          have HBi := Lib.hid (Below.refl wi0.heap.size wi0)
          have cc1 := Lib.hid (fun W (hW : Below wi0.heap.size wi0 W) => cc1.out W (hbi.trans (hW.mono hbi.size)))
          have HOw := Lib.hid (show wi0.ownsRow w1.heap.size 42 2 (.slice ARx k cRx) k (flatV qs) from by
            have := (HIt.out.below hbi).2.1
            rw [List.length_take, Nat.min_eq_left hk] at this
            exact this)
          have HNE := Lib.hid (show some G ≠ (Value.slice ARx k cRx).ownBlock from own_ne HOw.out hG1)
          have HNT := Lib.hid (show some wr.heap.size ≠ (Value.slice ARx k cRx).ownBlock from fun e => by have := (HIt.out.2.1.lt _ e.symm).2; omega)
          have HSn := Lib.hid (fun (Wb W w8 : World) (A6 A8 : Option Addr) (c6 c8 : Nat) hb1 ho1 hb3 (hown : w8.ownsRow w1.heap.size 42 2 (.slice A8 (k + 1) c8) (k + 1) (flatV (qs ++ [(.slice A6 n1 c6, .int .i64 z)]))) hg hat => show RuP w1.heap.size (.slice A8 (k + 1) c8) w8 (qs ++ [(.slice A6 n1 c6, .int .i64 z)]) (b.rus.take (k + 1)) from by
            have := RuP.snoc (x := b.rus[k]'hlt) (wr := wi0) (Wb := Wb) (W := W) (w8 := w8) (A6 := A6) (A8 := A8) (c6 := c6) (c8 := c8) (n1 := n1) (k := k) (HIt.out.below hbi) (by simp; omega) (Nat.le_trans hlo hbi.size) Hn1.out hb1 ho1 hb3 (by rw [← Hz.out]; exact hown) hg hat
            rw [List.take_succ_eq_append_getElem hlt, Hz.out]
            exact this)
          have HOn := Lib.hid (HOn.out.trans (Only.of_below hbi G))
          have HBl := Lib.hid (HBl.out.below hbi hGr)
          have hlo : w1.heap.size ≤ wi0.heap.size := Nat.le_trans hlo hbi.size
          have hGr : G < wi0.heap.size := Nat.lt_of_lt_of_le hGr hbi.size
          have Keep := Lib.hid (show ∀ W, Below wi0.heap.size wi0 W → W.cell? ⟨G, 2, none⟩ = some (.slice ARx k cRx) ∧ W.cell? ⟨wr.heap.size, 0, none⟩ = some (.slice A1 n1 c1) ∧ W.cell? ⟨wr.heap.size, 1, none⟩ = some (.int .i64 z) from fun W hW => ⟨(HBl.out.below hW hGr).cell 2, (HTi.out.below hW HTi.out.lt).cell 0, (HTi.out.below hW HTi.out.lt).cell 1⟩)
          generalize b.rus[k].1.map (Value.int .i64) = o1 at cc1 HSn
          have hS := Keep.out _ HBi.out
          clear d0 d1 y0 y1 y2 f0 f1 f2 m1 hbi
          refine anyE_tx 0 38 [11] [11] (oi := ?oi13) (v := ?v13) ?hi13 ?hd13 (by kernel_rfl) (by kernel_rfl) (by kernel_rfl) (by kernel_rfl) ?hQ13 ?hy13 hS ?rest13
          case hi13 => simp only [List.getElem?_toArray, List.getElem?_cons_zero, List.getElem?_cons_succ]; rfl
          case hd13 => rfl
          case hQ13 => exact fun _ _ _ h => h
          case hy13 => (refine Or.inl ⟨by rfl, ?_⟩; intro w hSw; (try dsimp only at hSw); go_simp; try with_reducible rfl)
          simp only [List.setIfInBounds_toArray, List.set_cons_zero, List.set_cons_succ]
          refine anyE_tx 1 39 [11] [11] (oi := ?oi14) (v := ?v14) ?hi14 ?hd14 (by kernel_rfl) (by kernel_rfl) (by kernel_rfl) (by kernel_rfl) ?hQ14 ?hy14 hS ?rest14
          case hi14 => simp only [List.getElem?_toArray, List.getElem?_cons_zero, List.getElem?_cons_succ]; rfl
          case hd14 => rfl
          case hQ14 => exact fun _ _ _ h => h
          case hy14 => (refine Or.inl ⟨by rfl, ?_⟩; intro w hSw; (try dsimp only at hSw); go_simp; try with_reducible rfl)
          simp only [List.setIfInBounds_toArray, List.set_cons_zero, List.set_cons_succ]
          refine anyE_tx 2 40 [11] [11] (oi := ?oi15) (v := ?v15) ?hi15 ?hd15 (by kernel_rfl) (by kernel_rfl) (by kernel_rfl) (by kernel_rfl) ?hQ15 ?hy15 hS ?rest15
          case hi15 => simp only [List.getElem?_toArray, List.getElem?_cons_zero, List.getElem?_cons_succ]; rfl
          case hd15 => rfl
          case hQ15 => exact fun _ _ _ h => h
          case hy15 => (refine Or.inl ⟨by rfl, ?_⟩; intro w hSw; (try dsimp only at hSw); go_simp; try with_reducible rfl)
          simp only [List.setIfInBounds_toArray, List.set_cons_zero, List.set_cons_succ]
          refine anyE_tx 3 41 [11] [11] (oi := ?oi16) (v := ?v16) ?hi16 ?hd16 (by kernel_rfl) (by kernel_rfl) (by kernel_rfl) (by kernel_rfl) ?hQ16 ?hy16 hS ?rest16
          case hi16 => simp only [List.getElem?_toArray, List.getElem?_cons_zero, List.getElem?_cons_succ]; rfl
          case hd16 => rfl
          case hQ16 => exact fun _ _ _ h => h
          case hy16 => (refine Or.inl ⟨by rfl, ?_⟩; intro w hSw; (try dsimp only at hSw); go_simp; try with_reducible rfl)
          simp only [List.setIfInBounds_toArray, List.set_cons_zero, List.set_cons_succ]
          refine anyE_tx 5 43 [11] [11] (oi := ?oi17) (v := ?v17) ?hi17 ?hd17 (by kernel_rfl) (by kernel_rfl) (by kernel_rfl) (by kernel_rfl) ?hQ17 ?hy17 hS ?rest17
          case hi17 => simp only [List.getElem?_toArray, List.getElem?_cons_zero, List.getElem?_cons_succ]; rfl
          case hd17 => rfl
          case hQ17 => exact fun _ _ _ h => h
          case hy17 => (refine Or.inl ⟨by rfl, ?_⟩; intro w hSw; (try dsimp only at hSw); go_simp; try with_reducible rfl)
          simp only [List.setIfInBounds_toArray, List.set_cons_zero, List.set_cons_succ]
          refine anyE_tx 6 44 [11] [11] (oi := ?oi18) (v := ?v18) ?hi18 ?hd18 (by kernel_rfl) (by kernel_rfl) (by kernel_rfl) (by kernel_rfl) ?hQ18 ?hy18 hS ?rest18
          case hi18 => simp only [List.getElem?_toArray, List.getElem?_cons_zero, List.getElem?_cons_succ]; rfl
          case hd18 => rfl
          case hQ18 => exact fun _ _ _ h => h
          case hy18 => (refine Or.inl ⟨by rfl, ?_⟩; intro w hSw; (try dsimp only at hSw); go_simp; try with_reducible rfl)
          simp only [List.setIfInBounds_toArray, List.set_cons_zero, List.set_cons_succ]
          refine anyE_one (i := 4) (o := ?oi19) (by kernel_rfl) ?hi19 (fun K hK => ?step19)
          case hi19 => simp only [List.getElem?_toArray, List.getElem?_cons_zero, List.getElem?_cons_succ]; rfl
          go_simp
          refine (cc1.out _ HBi.out).mono ?_
          rintro e Wb ⟨v6, rfl, ho, hb⟩
          obtain ⟨A6, c6, rfl⟩ := own_form ho
          have HO6 := Lib.hid ho
          have HB6 := Lib.hid hb
          have HBb := Lib.hid (HBi.out.trans (hb.mono HBi.out.size))
          clear ho hb
          go_wp2_with fail
          refine hK.out _ _ (fun _ => Keep.out _ HBb.out) ?_
          clear hK K
          try simp only [Act.put, List.setIfInBounds_toArray, List.set_cons_zero, List.set_cons_succ]
          refine anyE_tx 7 45 [11] [11] (oi := ?oi20) (v := ?v20) ?hi20 ?hd20 (by kernel_rfl) (by kernel_rfl) (by kernel_rfl) (by kernel_rfl) ?hQ20 ?hy20 (Keep.out _ HBb.out) ?rest20
          case hi20 => simp only [List.getElem?_toArray, List.getElem?_cons_zero, List.getElem?_cons_succ]; rfl
          case hd20 => rfl
          case hQ20 => exact fun _ _ _ h => h
          case hy20 => (refine Or.inl ⟨by rfl, ?_⟩; intro w hSw; (try dsimp only at hSw); go_simp; try with_reducible rfl)
          simp only [List.setIfInBounds_toArray, List.set_cons_zero, List.set_cons_succ]
          refine anyE_one (i := 8) (o := ?oi21) (by kernel_rfl) ?hi21 (fun K hK => ?step21)
          case hi21 => simp only [List.getElem?_toArray, List.getElem?_cons_zero, List.getElem?_cons_succ]; rfl
          go_simp
          go_wp2_with fail
          refine hK.out _ _ (fun _ => Keep.out _ (balloc HBb.out _)) ?_
          clear hK K
          try simp only [Act.put, List.setIfInBounds_toArray, List.set_cons_zero, List.set_cons_succ]
          refine anyE_one (i := 9) (o := ?oi9y) (by kernel_rfl) ?hi9y (fun K hK => ?step9y)
          case hi9y => simp only [List.getElem?_toArray, List.getElem?_cons_zero, List.getElem?_cons_succ]; rfl
          have hbW := balloc HBb.out (.cells #[.slice A6 n1 c6, .int .i64 z] 42)
          refine step_app2 _ (by rfl) (.tmp 39) (.tmp 46) 23 (by rfl) w1.heap.size 42 i0 _ 2 32 Tryd.underlying23 hi hz0 hz1 hz2 (by rfl) (by decide) (.slice ARx k cRx) k (flatV qs) (by rfl)
            (own_below HOw.out hbW)
            ⟨_, 0, none⟩ 1 1 [.slice A6 n1 c6, .int .i64 z] (by rfl) (by rfl)
            (news_blk (t := 42) (cs := #[.slice A6 n1 c6, .int .i64 z]) (blk_new' rfl) _ rfl)
            (by simp [Value.oneCell']) (by omega) (by decide) (Nat.le_trans hlo hbW.size) (k + 1) rfl (flatV (qs ++ [(.slice A6 n1 c6, .int .i64 z)])) (flatV_snoc _ _ _).symm ?_
          intro A8 c8 w8 hown8 hg8 hlow8 hat8
          have HI8 := Lib.hid (HSn.out Wb _ w8 A6 A8 c6 c8 HB6.out HO6.out (balloc (Below.refl _ _) _) hown8 hg8 hat8)
          have HB8 := Lib.hid (Blk.grown (HBl.out.below hbW hGr) hg8 HNE.out)
          have HT8 := Lib.hid (Blk.grown (HTi.out.below hbW HTi.out.lt) hg8 HNT.out)
          have hbw8 : Below w1.heap.size wi0 w8 := (Below.mono hbW hlo).grown hg8 (Nat.le_trans hlo hbW.size) (fun j hj => hlow8 j hj)
          have HO8 := Lib.hid (show Only G w1 w8 from ⟨hbw8.os.trans HOn.out.os, hbw8.tape.trans HOn.out.tape, hbw8.output.trans HOn.out.output, Nat.le_trans HOn.out.size hbw8.size, fun i hi hne => (hbw8.block i hi).trans (HOn.out.block i hi hne)⟩)
          have HS8 := Lib.hid (show w8.cell? ⟨G, 2, none⟩ = some (.slice ARx k cRx) ∧ w8.cell? ⟨wr.heap.size, 0, none⟩ = some (.slice A1 n1 c1) ∧ w8.cell? ⟨wr.heap.size, 1, none⟩ = some (.int .i64 z) from ⟨HB8.out.cell 2, HT8.out.cell 0, HT8.out.cell 1⟩)
          clear hown8 hg8 hlow8 hat8 hbW hbw8
          refine hK.out _ _ (fun _ => HS8.out) ?_
          clear hK K
          try simp only [Act.put, List.setIfInBounds_toArray, List.set_cons_zero, List.set_cons_succ]
          refine anyE_tx 10 48 [11] [11] (oi := ?oi22) (v := ?v22) ?hi22 ?hd22 (by kernel_rfl) (by kernel_rfl) (by kernel_rfl) (by kernel_rfl) ?hQ22 ?hy22 HS8.out ?rest22
          case hi22 => simp only [List.getElem?_toArray, List.getElem?_cons_zero, List.getElem?_cons_succ]; rfl
          case hd22 => rfl
          case hQ22 => exact fun _ _ _ h => h
          case hy22 => (refine Or.inl ⟨by rfl, ?_⟩; intro w hSw; (try dsimp only at hSw); go_simp; try with_reducible rfl)
          simp only [List.setIfInBounds_toArray, List.set_cons_zero, List.set_cons_succ]
          have q8 := HS8.out.1
          have q9 := HB8.out.frozen 2
          refine anyE_one (i := 11) (o := ?oi23) (by kernel_rfl) ?hi23 (fun K hK => ?step23)
          case hi23 => simp only [List.getElem?_toArray, List.getElem?_cons_zero, List.getElem?_cons_succ]; rfl
          go_simp
          refine hK.out _ _ (fun h => absurd h (by decide)) ?_
          clear hK K
          try simp only [Act.put, List.setIfInBounds_toArray, List.set_cons_zero, List.set_cons_succ]
          refine anyE_done (by kernel_rfl) ?_ _
          go_wp2_with fail
          go_roundw
          case rel => exact ⟨k + 1, A8, c8, _, by omega, by go_num, HI8.out.only ((Only.refl G w8).put 2 (.slice A8 (k + 1) c8)) hG1, HO8.out.put 2 (.slice A8 (k + 1) c8), HB8.out.put 2 (.slice A8 (k + 1) c8)⟩
          case measure => simp [intOf]; omega
        · obtain rfl : k = b.rus.length := by omega
          have HRu := Lib.hid (show RuP w1.heap.size (.slice ARx b.rus.length cRx) wr qs b.rus from by
            have := HIt.out
            rw [List.take_length] at this
            exact this)
          have hne1 : w.heap.size + 1 ≠ G := by have := HGe.out; omega
          have HR1 := Lib.hid (show Blk wr (w.heap.size + 1) 25 #[.int .i64 0, .slice none 0 0, .slice none 0 0] from (HOn.out.block _ HK1'.out.lt (fun e => by injection e with e; omega)).trans HK1'.out)
          obtain ⟨y0, y1, y2, f0, f1, f2⟩ := blk3 HBl.out
          obtain ⟨t0, t1, t2, g0, g1, g2⟩ := blk3 HR1.out
          have hlR : w.heap.size + 1 < wr.heap.size := HR1.out.lt
          have HL1 := Lib.hid (show w.heap.size + 1 < W0.heap.size from HK1.out.lt)
          have HL2 := Lib.hid (show w.heap.size + 1 < w1.heap.size from HK1'.out.lt)
          have HLow := Lib.hid hlow
          clear hlow
          go_wp2_with fail
          have HP := Lib.hid ((((Only.refl (w.heap.size + 1) wr).put 0 (.int .i64 b.p)).put 1 (.slice AIx b.its.length cIx)).put 2 (.slice ARx b.rus.length cRx))
          have HB2 := Lib.hid (((HR1.out.put 0 (.int .i64 b.p)).put 1 (.slice AIx b.its.length cIx)).put 2 (.slice ARx b.rus.length cRx))
          have HD := Lib.hid (below_put' (below_put' (below_put' HLow.out (Nat.le_succ w.heap.size) 0 (.int .i64 b.p)) (Nat.le_succ w.heap.size) 1 (.slice AIx b.its.length cIx)) (Nat.le_succ w.heap.size) 2 (.slice ARx b.rus.length cRx))
          refine bodyPost_ret (results_cell_row rfl _ _ (w.heap.size + 1) 25 _ (0, 0) _ rfl HB2.out Tryd.underlying25 rfl (by kernel_rfl)) rfl ⟨AIx, ARx, cIx, cRx, ps, qs, w1.heap.size, rfl, ?_, ?_, ?_, ?_, ?_, HD.out⟩
          · exact (((HItF.out.only HOn.out hlo0).only HP.out HL1.out).base HB0.out.size)
          · exact HItF.out.upTo
          · exact Hlow1.out.size
          · exact Nat.le_trans hlo HP.out.size
          · exact HRu.out.only HP.out HL2.out
end Go.Proofs.YtgoojcjfhghmgaaDoor


set_option linter.unusedSimpArgs false
set_option linter.unusedVariables false
namespace Go.Proofs.YtgoojcjfhghmgaaDoor
open Go Go.RowKit

def layA : Array Value → Nat → List Value → Array Value
  | cs, _, [] => cs
  | cs, o, v :: vs => layA (cs.setIfInBounds o v) (o + 1) vs
theorem layA_list : ∀ (vs : List Value) (cs : Array Value) (o : Nat), o + vs.length ≤ cs.size → (layA cs o vs).toList = cs.toList.take o ++ vs ++ cs.toList.drop (o + vs.length)
  | [], cs, o, _ => by simp [layA]
  | v :: vs, cs, o, h => by
    simp only [List.length_cons] at h
    rw [layA, layA_list vs _ _ (by simp; omega)]
    have ho : o < cs.toList.length := by simp; omega
    rw [Array.toList_setIfInBounds, List.take_set, List.drop_set_of_lt (by omega), List.take_succ_eq_append_getElem ho]
    rw [List.set_append_right _ _ (by simp; omega)]
    simp only [List.length_take, List.append_assoc, List.length_cons, Nat.min_eq_left (Nat.le_of_lt ho), Nat.sub_self, List.set_cons_zero, List.cons_append, List.nil_append]
    rw [show o + 1 + vs.length = o + (vs.length + 1) by omega]
theorem layA_size : ∀ (vs : List Value) (cs : Array Value) (o : Nat), (layA cs o vs).size = cs.size
  | [], _, _ => rfl
  | v :: vs, cs, o => by rw [layA, layA_size vs]; simp
theorem Blk.lay {g : Nat} {t : TypeId} : ∀ (vs : List Value) {w : World} {cs : Array Value} (o : Nat), Blk w g t cs → Blk (w.setCells g o vs) g t (layA cs o vs)
  | [], _, _, _, h => h
  | v :: vs, _, _, o, h => Blk.lay vs (o + 1) (h.put o v)
theorem only_lay {g : Nat} : ∀ (vs : List Value) (o : Nat) {a w : World}, Only g a w → Only g a (w.setCells g o vs)
  | [], _, _, _, h => h
  | v :: vs, o, _, _, h => only_lay vs (o + 1) (h.put o v)
theorem own_blk {w : World} {base e s n c : Nat} {A : Option Addr} {xs : List Value} (h : w.ownsRow base e s (.slice A n c) n xs) (hn : 0 < n) : ∃ g cs, A = some ⟨g, 0, none⟩ ∧ base ≤ g ∧ Blk w g e cs ∧ n ≤ c ∧ c ≤ maxLen ∧ cs.size = c * s ∧ cs.toList.take (n * s) = xs := by
  rcases h.2 with ⟨_, h0⟩ | ⟨g, cap, cur, e1, hb, hg, h1, h2, h3, h4⟩
  · omega
  · injection e1 with e1 _ e3
    subst e1 e3
    exact ⟨g, cur, rfl, hb, hg, h1, h2, h3, h4⟩
theorem blk_own {w : World} {base e s n c g : Nat} {xs : List Value} {cs : Array Value} (hb : base ≤ g) (h : Blk w g e cs) (h1 : n ≤ c) (h2 : c ≤ maxLen) (h3 : cs.size = c * s) (h4 : cs.toList.take (n * s) = xs) : w.ownsRow base e s (.slice (some ⟨g, 0, none⟩) n c) n xs := by
  refine ⟨?_, .inr ⟨g, c, cs, rfl, hb, h, h1, h2, h3, h4⟩⟩
  rw [← h4, List.length_take, Array.length_toList, h3]
  exact Nat.min_eq_left (Nat.mul_le_mul_right s h1)
theorem flatV_append (a b : List (Value × Value)) : flatV (a ++ b) = flatV a ++ flatV b := by simp [flatV]
theorem flatV_one {ps : List (Value × Value)} (h : ∀ p ∈ ps, p.1.oneCell' = true ∧ p.2.oneCell' = true) : ∀ u ∈ flatV ps, u.oneCell' = true := by
  intro u hu
  simp only [flatV, List.mem_flatMap] at hu
  obtain ⟨p, hp, hu⟩ := hu
  simp only [List.mem_cons, List.not_mem_nil, or_false] at hu
  rcases hu with rfl | rfl
  · exact (h p hp).1
  · exact (h p hp).2

set_option maxRecDepth 100000 in
set_option maxHeartbeats 1000000 in
theorem cloneRu_any (A : Option Addr) (n c lo : Nat) (ps : List (Value × Value)) (w : World) (h : w.ownsRow lo 42 2 (.slice A n c) n (flatV ps)) (hn : 1 ≤ n) (hn2 : n ≤ 1000) (h1 : ∀ u ∈ flatV ps, u.oneCell' = true) :
    Calls Tryd.prog 92 #[.slice A n c] w fun e w' => ∃ A' c', e = .returned (.slice A' n c') ∧ w'.ownsRow w.heap.size 42 2 (.slice A' n c') n (flatV ps) ∧ Below w.heap.size w w' := by
  obtain ⟨i0, hi, hz0, hz1, hz2⟩ := info_parts info42
  obtain ⟨g, cs, rfl, hb, hblk, hc, hm, hs, ht⟩ := own_blk h hn
  have hlen := h.1
  have HO1 := Lib.hid (show (w.alloc (.cells #[] 42)).ownsRow w.heap.size 42 2 (.slice (some ⟨w.heap.size, 0, none⟩) 0 0) 0 [] from own_new 2 (Nat.le_refl _))
  have HB1 := Lib.hid (show Below w.heap.size w (w.alloc (.cells #[] 42)) from balloc (Below.refl _ _) _)
  have HN := Lib.hid (show ∀ ad, (some ⟨g, 0, none⟩ : Option Addr) = some ad → ∀ j u, (flatV ps)[j]? = some u → (w.alloc (.cells #[] 42)).cell? (ad.add j) = some u from fun ad had j u hu => by
    injection had with had
    subst had
    exact (own_below h (balloc (Below.refl _ _) _)).cells (g := g) rfl j u hu)
  have H1 := Lib.hid h1
  have Hlen := Lib.hid hlen
  have heq : ∀ w : World, (binOp .eql 23 (.slice (some ⟨g, 0, none⟩) n c) (.slice none 0 0)).run Tryd.prog w = .ok (.bool false) w := fun w => Lib.run_eql_slice_nil w 23 42 (some ⟨g, 0, none⟩) n c 0 0 Tryd.underlying23
  clear h h1 hblk hs ht hlen
  go_enter Tryd.func92, Tryd.ntmps92
  go_wp2_with (at_builtin; refine wpList_app _ rfl _ _ 23 rfl w.heap.size 42 i0 _ 2 32 Tryd.underlying23 hi hz0 hz1 hz2 rfl (by decide) _ 0 _ rfl HO1.out (some ⟨g, 0, none⟩) n c (flatV ps) rfl Hlen.out (fun e => by cases e) HN.out H1.out (by omega) (by decide) HB1.out.size n (by omega) (flatV ps) rfl ?_; intro A4 c4 w4 hown4 hg4 hlow4)
  go_ret
  exact ⟨A4, c4, rfl, hown4, HB1.out.grown hg4 HB1.out.size hlow4⟩

theorem run_clear_rule (w : World) (ty : TypeId) (b o c : Nat) (hc : ∀ j, j < 2 → (w.cell? ⟨b, o + j, none⟩).isSome = true) (hf : ∀ j, j < 2 → w.frozen? ⟨b, o + j, none⟩ = false) :
    (Builtin.clear_ #[23] ty #[.slice (some ⟨b, o, none⟩) 1 c]).run Tryd.prog w = .ok (.tuple #[]) (w.setCells b o [.slice none 0 0, .int .i64 0]) := by
  have hv : (zeroValue 42).run Tryd.prog w = .ok (.agg #[.slice none 0 0, .int .i64 0]) w := by kernel_rfl
  have hst := run_storeCells_cells (P := Tryd.prog) b o [.slice none 0 0, .int .i64 0] 0 w (by simpa using hc) (by simpa using hf) (by intro v hv'; simp at hv'; rcases hv' with rfl | rfl <;> rfl)
  simp only [Nat.add_zero] at hst
  have hzc : (Builtin.zeroCells (Value.agg #[.slice none 0 0, .int .i64 0]).cells 1).toList = [.slice none 0 0, .int .i64 0] := by kernel_rfl
  simp [Builtin.clear_, run_underlying Tryd.underlying23, hv, hzc, hst]

set_option maxRecDepth 100000 in
set_option maxHeartbeats 2000000 in
theorem deleteRu_any (A : Option Addr) (n c i lo : Nat) (ps : List (Value × Value)) (w : World) (h : w.ownsRow lo 42 2 (.slice A n c) n (flatV ps)) (hi : i < n) (hps : ps.length = n) (hn2 : n ≤ 1000) (h1 : ∀ u ∈ flatV ps, u.oneCell' = true) :
    Calls Tryd.prog 91 #[.slice A n c, .int .i64 (i : Nat), .int .i64 ((i : Int) + 1)] w fun e w' => ∃ A', e = .returned (.slice A' (n - 1) c) ∧ w'.ownsRow lo 42 2 (.slice A' (n - 1) c) (n - 1) (flatV (ps.eraseIdx i)) ∧ ∃ g, A = some ⟨g, 0, none⟩ ∧ lo ≤ g ∧ Only g w w' := by
  obtain ⟨i0, hi0, hz0, hz1, hz2⟩ := info_parts info42
  obtain ⟨g, cs, rfl, hb, hblk, hc, hm, hs, ht⟩ := own_blk h (by omega)
  have hfl := flatV_length ps
  have hcl : cs.toList.length = c * 2 := by simp [hs]
  have hex : cs.toList = flatV (ps.take i) ++ (flatV ((ps.drop i).take 1) ++ flatV (ps.drop (i + 1))) ++ cs.toList.drop (n * 2) := by
    have e1 : flatV ps = flatV (ps.take i) ++ (flatV ((ps.drop i).take 1) ++ flatV (ps.drop (i + 1))) := by
      rw [← flatV_append, ← flatV_append, show ps.drop (i + 1) = (ps.drop i).drop 1 by simp, List.take_append_drop, List.take_append_drop]
    rw [← e1, ← ht, List.take_append_drop]
  have l1 : (flatV (ps.take i)).length = i * 2 := by rw [flatV_length]; simp; omega
  have l2 : (flatV ((ps.drop i).take 1)).length = 2 := by rw [flatV_length]; simp; omega
  have l3 : (flatV (ps.drop (i + 1))).length = (n - (i + 1)) * 2 := by rw [flatV_length]; simp; omega
  have hgt : ∀ k u, cs.toList[k]? = some u → w.drew.cell? ⟨g, k, none⟩ = some u := fun k u hu => by
    show w.cell? ⟨g, k, none⟩ = some u
    rw [hblk.cell, ← hu]; simp
  have hdr : ∀ k u, (flatV (ps.drop (i + 1)))[k]? = some u → cs.toList[(i + 1) * 2 + k]? = some u := fun k u hu => by
    rw [hex, List.append_assoc, List.append_assoc, List.getElem?_append_right (by omega), List.getElem?_append_right (by omega), List.getElem?_append_left (by have := (List.getElem?_eq_some_iff.1 hu).1; omega), l1, l2, ← hu]
    congr 1
    omega
  have hsz : ∀ k, k < c * 2 → (w.drew.cell? ⟨g, k, none⟩).isSome = true := fun k hk => by
    rw [hgt k (cs.toList[k]'(by omega)) (List.getElem?_eq_getElem _)]; rfl
  have hfz : ∀ k, w.drew.frozen? ⟨g, k, none⟩ = false := fun k => hblk.frozen k
  obtain ⟨A, hA, hsrc⟩ : ∃ A : Addr, (if c = i + 1 then (some ⟨g, 0, none⟩ : Option Addr) else some ⟨g, (i + 1) * 2, none⟩) = some A ∧ Hid (∀ t u, (flatV (ps.drop (i + 1)))[t]? = some u → w.drew.cell? (A.add t) = some u) := by
    by_cases hci : c = i + 1
    · refine ⟨⟨g, 0, none⟩, by simp [hci], fun t u hu => ?_⟩
      have := (List.getElem?_eq_some_iff.1 hu).1
      omega
    · refine ⟨⟨g, (i + 1) * 2, none⟩, by simp [hci], fun t u hu => ?_⟩
      rw [Addr.add_lit]
      exact hgt _ u (hdr t u hu)
  have s1 := Lib.hid (show (flatV (ps.drop (i + 1))).length = (n - (i + 1)) * 2 from l3)
  have s2 := Lib.hid (show ∀ u ∈ flatV (ps.drop (i + 1)), u.oneCell' = true from fun u hu => h1 u (by
    have e1 : flatV ps = flatV (ps.take (i + 1)) ++ flatV (ps.drop (i + 1)) := by rw [← flatV_append, List.take_append_drop]
    rw [e1]; exact List.mem_append.2 (.inr hu)))
  have s3 := Lib.hid (show ∀ t, t < (flatV (ps.drop (i + 1))).length → (w.drew.cell? ⟨g, 0 + i * 2 + t, none⟩).isSome = true ∧ w.drew.frozen? ⟨g, 0 + i * 2 + t, none⟩ = false from fun t ht => ⟨hsz _ (by omega), hfz _⟩)
  obtain ⟨W1, hW1⟩ : ∃ W1, W1 = w.drew.setCells g (0 + i * 2) (flatV (ps.drop (i + 1))) := ⟨_, rfl⟩
  have hb1 : Blk W1 g 42 (layA cs (0 + i * 2) (flatV (ps.drop (i + 1)))) := by rw [hW1]; exact Blk.lay _ _ hblk.drew
  have hs1 : (layA cs (0 + i * 2) (flatV (ps.drop (i + 1)))).size = c * 2 := by rw [layA_size, hs]
  have hcl2 : ∀ ty, (Builtin.clear_ #[23] ty #[.slice (some ⟨g, (i + (n - (i + 1))) * 2, none⟩) (n - (i + (n - (i + 1)))) (c - (i + (n - (i + 1))))]).run Tryd.prog W1 = .ok (.tuple #[]) (W1.setCells g ((i + (n - (i + 1))) * 2) [.slice none 0 0, .int .i64 0]) := fun ty => by
    rw [show n - (i + (n - (i + 1))) = 1 by omega]
    exact run_clear_rule W1 ty g ((i + (n - (i + 1))) * 2) _ (fun j hj => by rw [hb1.cell, Array.getElem?_eq_getElem (by rw [hs1]; omega)]; rfl) (fun j hj => hb1.frozen _)
  have hW := Lib.hid hW1
  have hne : ((i : Int) == (i : Int) + 1) = false := by simp; omega
  have hic : i ≤ c := by omega
  have hjc : i + 1 ≤ c := by omega
  have hi0' : (0 : Int) ≤ (i : Int) + 1 := by omega
  have hi1 : (i : Int) + 1 ≤ (n : Int) := by omega
  have hi2 : (i : Int) + 1 ≤ (c : Int) := by omega
  have Hst := Lib.hid (And.intro hblk (And.intro hb1 (And.intro hs1 (And.intro hex (And.intro l1 (And.intro l3 hb))))))
  clear h h1 hblk hs ht hcl hex l1 l2 l3 hgt hdr hsz hfz hW1 hb1 hs1 hfl hb hps
  go_enter Tryd.func91, Tryd.ntmps91
  go_wp2_with fail
  go_region_law (refine step_append_room rfl (.tmp 22) (.tmp 25) 23 rfl 42 i0 2 Tryd.underlying23 hi0 hz1 g 0 i c (by simp [Act.eval, Act.put]) A (n - (i + 1)) (c - (i + 1)) (flatV (ps.drop (i + 1))) (by simp [Act.eval, Act.put]) s1.out hsrc.out s2.out (by omega) s3.out ?_; rw [← hW.out])
  go_wp2_with fail
  go_ret
  obtain ⟨hblk, hb1, hs1, hex, l1, l3, hb⟩ := Hst.out
  refine ⟨some ⟨g, 0, none⟩, by rw [show i + (n - (i + 1)) = n - 1 by omega]; rfl, ?_, g, rfl, hb, ?_⟩
  · have hb2 := Blk.lay [.slice none 0 0, .int .i64 0] ((i + (n - (i + 1))) * 2) hb1
    refine blk_own hb hb2 (by omega) hm (by rw [layA_size, hs1]) ?_
    have hps2 : ps.eraseIdx i = ps.take i ++ ps.drop (i + 1) := List.eraseIdx_eq_take_drop_succ ps i
    have hcl : cs.toList.length = c * 2 := by rw [layA_size] at hs1; simp [hs1]
    rw [hps2, flatV_append, layA_list _ _ _ (by rw [hs1]; simp; omega), List.append_assoc, List.take_append_of_le_length (by rw [List.length_take, Array.length_toList, hs1]; omega), List.take_take, Nat.min_eq_left (by omega)]
    rw [layA_list _ _ _ (by rw [← Array.length_toList, hcl, l3]; omega), Nat.zero_add, List.take_append_of_le_length (by rw [List.length_append, List.length_take, hcl, l3]; omega)]
    have e1 : cs.toList.take (i * 2) = flatV (ps.take i) := by
      rw [hex, List.append_assoc, List.take_append_of_le_length (by omega), List.take_of_length_le (by omega)]
    rw [e1, List.take_of_length_le (by rw [List.length_append, l1, l3]; omega)]
  · rw [hW.out]
    exact only_lay _ _ (only_lay _ _ (Only.refl _ _).drew)
end Go.Proofs.YtgoojcjfhghmgaaDoor


set_option linter.unusedSimpArgs false
set_option linter.unusedVariables false
namespace Go.Proofs.YtgoojcjfhghmgaaDoor
open Go Go.RowKit

/-- What is left of rules if the last k ones are looked at, from the end. -/
def RedR (p : Nat) : Nat → List Ru → List Ru → Prop
  | 0, l, m => m = l
  | k + 1, l, m => ∃ r, FlR (l.eraseIdx k) p (l[k]?.getD ([], 0)) r ∧ RedR p k (if r = true then l.eraseIdx k else l) m
theorem RedR.unique {p : Nat} : ∀ {k : Nat} {l m m' : List Ru}, RedR p k l m → RedR p k l m' → m = m'
  | 0, _, _, _, h, h' => h.trans h'.symm
  | k + 1, _, _, _, ⟨r, h1, h2⟩, ⟨r', h3, h4⟩ => by
    obtain rfl := h1.unique h3
    exact h2.unique h4
theorem RedR.sub {p : Nat} : ∀ {k : Nat} {l m : List Ru}, RedR p k l m → m.Sublist l
  | 0, _, _, h => by
    have e : _ = _ := h
    rw [e]; exact List.Sublist.refl _
  | k + 1, l, _, ⟨r, _, h⟩ => by
    refine h.sub.trans ?_
    cases r
    · exact List.Sublist.refl _
    · exact List.eraseIdx_sublist l k
theorem mem_erase_or {l : List Ru} {k : Nat} (hk : k < l.length) {x : Ru} (h : x ∈ l) : x ∈ l.eraseIdx k ∨ x = l[k] := by
  obtain ⟨j, hj, rfl⟩ := List.mem_iff_getElem.1 h
  by_cases e : j = k
  · subst e; exact .inr rfl
  · refine .inl ?_
    rw [List.eraseIdx_eq_take_drop_succ]
    rcases Nat.lt_or_ge j k with h1 | h1
    · exact List.mem_append.2 (.inl (List.mem_iff_getElem.2 ⟨j, by simp; omega, by simp⟩))
    · exact List.mem_append.2 (.inr (List.mem_iff_getElem.2 ⟨j - (k + 1), by simp; omega, by simp only [List.getElem_drop]; congr 1; omega⟩))
/-- A set is shut by the same rules if one that follows is left out. -/
theorem shut_erase {l : List Ru} {k p : Nat} (hk : k < l.length) (h : FlR (l.eraseIdx k) p l[k] true) (y : Nat) : Shut (l.eraseIdx k) allW y ↔ Shut l allW y := by
  constructor
  · intro hs r hr ha hw
    rcases mem_erase_or hk hr with hr | rfl
    · exact hs r hr ha hw
    · obtain ⟨x, hx, _, hb⟩ := h
      have hsub : Sub (mk (natL l[k].1)) y := fun q hq => by
        rw [mk_bit, List.contains_iff_mem] at hq
        exact List.all_eq_true.1 ha q hq
      exact hx.1.2 y hsub hs _ hb.symm
  · intro hs r hr ha hw
    exact hs r (List.mem_of_mem_eraseIdx hr) ha hw
theorem RedR.shut {p : Nat} : ∀ {k : Nat} {l m : List Ru}, k ≤ l.length → RedR p k l m → ∀ y, Shut m allW y ↔ Shut l allW y
  | 0, _, _, _, h, y => by
    have e : _ = _ := h
    rw [e]
  | k + 1, l, m, hk, ⟨r, h1, h2⟩, y => by
    rw [show l[k]?.getD ([], 0) = l[k] by simp [show k < l.length by omega]] at h1
    cases r with
    | false => exact RedR.shut (by simp; omega) h2 y
    | true => exact (RedR.shut (by simp [List.length_eraseIdx]; split <;> omega) h2 y).trans (shut_erase (by omega) h1 y)
theorem cl_shut {l m : List Ru} (h : ∀ y, Shut m allW y ↔ Shut l allW y) {x y : Nat} : Cl m x allW y ↔ Cl l x allW y :=
  ⟨fun ⟨⟨h1, h2⟩, h3⟩ => ⟨⟨h1, fun z hz hs => h2 z hz ((h z).2 hs)⟩, (h y).1 h3⟩, fun ⟨⟨h1, h2⟩, h3⟩ => ⟨⟨h1, fun z hz hs => h2 z hz ((h z).1 hs)⟩, (h y).2 h3⟩⟩

theorem RowsOwn.erase {base : Nat} {gx : Option Nat} {w : World} {vs : List Value} {rows : List (List Int)} (h : RowsOwn base gx w vs rows) (k : Nat) : RowsOwn base gx w (vs.eraseIdx k) (rows.eraseIdx k) := by
  have key : ∀ i, ∃ j, (∀ (α : Type) (l : List α), (l.eraseIdx k)[i]? = l[j]?) ∧ (i < k → j = i) ∧ (k ≤ i → j = i + 1) := fun i => by
    by_cases e : i < k
    · exact ⟨i, fun α l => by rw [List.getElem?_eraseIdx, if_pos e], fun _ => rfl, fun h => by omega⟩
    · exact ⟨i + 1, fun α l => by rw [List.getElem?_eraseIdx, if_neg e], fun h => by omega, fun _ => rfl⟩
  refine ⟨by simp [List.length_eraseIdx, h.1], fun i hi => ?_, fun i i' v v' hii hv hv' b hb => ?_⟩
  · obtain ⟨j, e, _, _⟩ := key i
    have hj : rows[j]? = some (rows.eraseIdx k)[i] := by rw [← e, List.getElem?_eq_getElem hi]
    obtain ⟨hj1, hj2⟩ := List.getElem?_eq_some_iff.1 hj
    obtain ⟨A, c, q1, q2, q3⟩ := h.2.1 j hj1
    rw [hj2] at q1 q2 q3
    exact ⟨A, c, by rw [e]; exact q1, q2, q3⟩
  · obtain ⟨j, e, e1, e2⟩ := key i
    obtain ⟨j', e', e1', e2'⟩ := key i'
    rw [e] at hv
    rw [e'] at hv'
    exact h.2.2 j j' v v' (by
      rcases Nat.lt_or_ge i k with h1 | h1 <;> rcases Nat.lt_or_ge i' k with h2 | h2
      · rw [e1 h1, e1' h2]; exact hii
      · rw [e1 h1, e2' h2]; omega
      · omega
      · rw [e2 h1, e2' h2]; omega) hv hv' b hb
/-- A block that is no row of it is turned. -/
theorem RowsOwn.onlyG {base : Nat} {gx : Option Nat} {w w' : World} {vs : List Value} {rows : List (List Int)} {G : Nat} {t : TypeId} {cs : Array Value} (h : RowsOwn base gx w vs rows) (o : Only G w w') (hG : Blk w G t cs) (ht : 3 ≠ t) : RowsOwn base gx w' vs rows :=
  ⟨h.1, fun i hi => by
    obtain ⟨A, c, h1, h2, h3⟩ := h.2.1 i hi
    exact ⟨A, c, h1, o.own h2 (hG.ne_row h2 ht), h3⟩, h.2.2⟩
theorem RuP.onlyG {lo G : Nat} {out : Value} {w w' : World} {ps : List (Value × Value)} {l : List Ru} {cs : Array Value} (h : RuP lo out w ps l) (o : Only G w w') (hG : Blk w G 25 cs) : RuP lo out w' ps l :=
  ⟨h.1, o.own h.2.1 (hG.ne_row h.2.1 (by decide)), h.2.2.1.onlyG o hG (by decide), h.2.2.2⟩
theorem RuP.one {lo : Nat} {out : Value} {w : World} {ps : List (Value × Value)} {l : List Ru} (h : RuP lo out w ps l) : ∀ u ∈ flatV ps, u.oneCell' = true := flatV_one fun q hq => by
  obtain ⟨i, hi, rfl⟩ := List.mem_iff_getElem.1 hq
  have hil : i < l.length := by rw [← h.1]; exact hi
  obtain ⟨A, c, h1, _⟩ := h.2.2.1.2.1 i (by simpa [flR] using hil)
  rw [List.getElem?_map, List.getElem?_eq_getElem hi] at h1
  have h2 := congrArg (fun l => l[i]?) h.2.2.2
  simp only [List.getElem?_map, List.getElem?_eq_getElem hi, List.getElem?_eq_getElem hil, Option.map_some, Option.some.injEq] at h1 h2
  rw [h1, h2]
  exact ⟨rfl, rfl⟩
/-- Rules of which one is left out, in a row of their own. -/
theorem RuP.erase {lo lo' i n : Nat} {out out' : Value} {w w' : World} {ps : List (Value × Value)} {l : List Ru} (h : RuP lo out w ps l) (hn : l.length = n) (hi : i < n) (hlo : lo ≤ lo') (hw : w.heap.size ≤ lo') (hb : Below w.heap.size w w')
    (ho : w'.ownsRow lo' 42 2 out' (n - 1) (flatV (ps.eraseIdx i))) : RuP lo out' w' (ps.eraseIdx i) (l.eraseIdx i) := by
  subst hn
  refine ⟨by simp [List.length_eraseIdx, h.1], by rw [List.length_eraseIdx_of_lt hi]; exact own_base ho hlo, ?_, ?_⟩
  · have h1 := (h.2.2.1.below hb).erase i
    have e1 : (ps.map (·.1)).eraseIdx i = (ps.eraseIdx i).map (·.1) := by rw [List.eraseIdx_eq_take_drop_succ, List.eraseIdx_eq_take_drop_succ]; simp
    have e2 : (flR l).eraseIdx i = flR (l.eraseIdx i) := by unfold flR; rw [List.eraseIdx_eq_take_drop_succ, List.eraseIdx_eq_take_drop_succ]; simp
    rw [e1, e2] at h1
    refine ⟨h1.1, fun j hj => ?_, h1.2.2⟩
    obtain ⟨A, c, q1, q2, _⟩ := h1.2.1 j hj
    refine ⟨A, c, q1, q2, fun k hk e => ?_⟩
    have h3 := (ho.lt k e).1
    have h2 := (h.2.2.1.erase i).lt (by rw [e1]; exact q1) hk
    omega
  · have := h.2.2.2
    have e1 : (ps.eraseIdx i).map (·.2) = (ps.map (·.2)).eraseIdx i := by rw [List.eraseIdx_eq_take_drop_succ, List.eraseIdx_eq_take_drop_succ]; simp
    rw [e1, this, List.eraseIdx_eq_take_drop_succ, List.eraseIdx_eq_take_drop_succ]; simp
end Go.Proofs.YtgoojcjfhghmgaaDoor


set_option linter.unusedSimpArgs false
set_option linter.unusedVariables false
namespace Go.Proofs.YtgoojcjfhghmgaaDoor
open Go Go.RowKit

theorem results_cell_row2 {P : Program} {fn : Func} {p u : Tmp} {ty : TypeId} (h : fn.results = #[.cell p ty, .tmp u]) (tmps : Array Value) (w : World) (g : Nat) (t : TypeId) (cs : Array Value) (fr : Nat × Nat) (d : TypeDesc)
    (hp : tmps.getD p undef = .pointer (some ⟨g, 0, none⟩)) (hg : w.heap[g]? = some (.cells cs t fr))
    (hu : P.underlying ty = some d) (hd : (match d with | .struct _ | .array _ _ => true | _ => false) = true) (hi : (P.info? ty).map (·.size) = some cs.size) :
    (results fn tmps).run P w = .ok (.tuple #[.agg cs, tmps.getD u undef]) w := by
  rw [results_cell_tmp h, hp]
  simp only [asAddr, Sem.run_pure, Result.andThen_ok, run_loadVar_row w g t ty cs fr d hg hu hd hi]

set_option maxRecDepth 100000 in
set_option maxHeartbeats 4000000 in
theorem Reduce_any (AI AR : Option Addr) (cI cR B : Nat) (b : Bk) (w : World) (hB : B ≤ w.heap.size) (h : ItsAt B w AI b.its) (h' : RusAt B w AR b.rus) (hs : Short b) (h0 : vlR b = 0) :
    Calls Tryd.prog 47 #[.agg #[.int .i64 b.p, .slice AI b.its.length cI, .slice AR b.rus.length cR]] w fun e w' => ∃ AI' AR' cI' cR' qs m, e = .returned (.tuple #[.agg #[.int .i64 b.p, .slice AI' b.its.length cI', .slice AR' (List.length m) cR'], .int .i64 0]) ∧
      ItsAt w'.heap.size w' AI' b.its ∧ RedR b.p.toNat b.rus.length b.rus m ∧ RuP w.heap.size (.slice AR' m.length cR') w' qs m ∧ Below w.heap.size w w' := by
  have hv := vl_zero h0
  have hT := h.below (Below.refl _ _) hB
  have hT' := h'.below (Below.refl _ _) hB
  have cv := Lib.hid (fun W (hW : Below w.heap.size w W) => Validate_any AI AR cI cR w.heap.size b W hW.size (hT.below hW (Nat.le_refl _)) (hT'.below hW (Nat.le_refl _)) hs)
  have cc := Lib.hid (fun W (hW : Below w.heap.size w W) => clone_bk AI AR cI cR w.heap.size b W hW.size (hT.below hW (Nat.le_refl _)) (hT'.below hW (Nat.le_refl _)) hs)
  rw [h0] at cv
  obtain ⟨p, hp⟩ := Int.eq_ofNat_of_zero_le hv.p0
  have hp10 : p ≤ 10 := by have := hv.p1; omega
  have hpn : b.p.toNat = p := by rw [hp]; rfl
  have cf := Lib.hid (fun (A A1 : Option Addr) (cA c1 : Nat) (l : List Ru) (x : Ru) (W : World) (hR : RusAt W.heap.size W A l) (hI : IntsAt W.heap.size W A1 x.1) (hl : ∀ y ∈ l, y ∈ b.rus) (hx : x ∈ b.rus) (hlen : l.length ≤ b.rus.length) => follows_any A1 A c1 cA W.heap.size p l x W (Nat.le_refl _) hR hI (by have := hs.2.1; omega) (fun y hy => hs.2.2.2 y (hl y hy)) (by have := hs.2.2.2 x hx; omega) (fun y hy => by have := hv.rules y (hl y hy); rwa [hp] at this) (by have := hv.rules x hx; rwa [hp] at this) hp10)
  have nr := hs.2.1
  have HB0 := Lib.hid (show Below w.heap.size w ((w.alloc (.cells #[.int .i64 b.p, .slice AI b.its.length cI, .slice AR b.rus.length cR] 25)).alloc (.cells #[.int .i64 0, .slice none 0 0, .slice none 0 0] 25)) from balloc (balloc (Below.refl _ _) _) _)
  rw [hpn]
  clear h h' hs hT hT' hv h0 hB hp hpn
  go_enter Tryd.func47, Tryd.ntmps47
  go_wp2_with fail
  generalize hW0 : (w.alloc (.cells #[.int .i64 b.p, .slice AI b.its.length cI, .slice AR b.rus.length cR] 25)).alloc (.cells #[.int .i64 0, .slice none 0 0, .slice none 0 0] 25) = W0
  rw [hW0] at HB0
  have HK0 := Lib.hid (show Blk W0 w.heap.size 25 #[.int .i64 b.p, .slice AI b.its.length cI, .slice AR b.rus.length cR] by rw [← hW0]; exact (Blk.new _ _ _).alloc _)
  have HK1 := Lib.hid (show Blk W0 (w.heap.size + 1) 25 #[.int .i64 0, .slice none 0 0, .slice none 0 0] by rw [← hW0]; exact blk_new' (by simp))
  have HS0 := Lib.hid (show w.heap.size + 1 < W0.heap.size from HK1.out.lt)
  clear hW0
  go_wp2_with (first
    | (go_at_call 20; refine (cv.out _ HB0.out).mono ?_; rintro e w1 ⟨rfl, hb1⟩; obtain ⟨x0, x1, x2, _⟩ := blk3 (HK0.out.below hb1 HK0.out.lt); have hB1 := HB0.out.trans (hb1.mono HB0.out.size))
    | (go_at_call 90; refine (cc.out _ hB1).mono ?_; rintro e w2 ⟨AI', AR', cI', cR', ps, qs, mid, rfl, hit, hup, hm1, hm2, hru, hb2⟩))
  generalize hW3 : w2.alloc (.cells #[.int .i64 b.p, .slice AI' b.its.length cI', .slice AR' b.rus.length cR'] 25) = w3
  have hb23 : Below w2.heap.size w2 w3 := by rw [← hW3]; exact balloc (Below.refl _ _) _
  have HKG := Lib.hid (show Blk w3 w2.heap.size 25 #[.int .i64 b.p, .slice AI' b.its.length cI', .slice AR' b.rus.length cR'] by rw [← hW3]; exact Blk.new _ _ _)
  have hB2 := hb1.trans (hb2.mono hb1.size)
  have HB3 := Lib.hid (hB2.trans (hb23.mono hB2.size))
  have HIt := Lib.hid hit
  have HL1 := Lib.hid (show w.heap.size + 1 < w1.heap.size from Nat.lt_of_lt_of_le HS0.out hb1.size)
  have HRu := Lib.hid ((hru.below hb23).base (Nat.le_trans (Nat.le_trans HB0.out.size hb1.size) hm1))
  have H23 := Lib.hid hb23
  have hGl : W0.heap.size ≤ w2.heap.size := hB2.size
  have HGl := Lib.hid (And.intro (show w.heap.size + 1 < w2.heap.size by have := HS0.out; omega) hb23.size)
  have HK12 := Lib.hid (HK1.out.below hB2 HK1.out.lt)
  have HBw := Lib.hid (HB0.out.trans (hB2.mono HB0.out.size))
  clear hW3 hit hup hm1 hm2 hru hb23 hb1 hb2 hB1 hB2 x0 x1 x2
  go_loopw [6] (fun s wr => ∃ (k : Nat) (cur : List Ru) (qs : List (Value × Value)) (A : Option Addr) (c : Nat), k ≤ cur.length ∧ cur.length ≤ b.rus.length ∧ s = .int .i64 ((k : Int) - 1) ∧ Aside (∀ m, RedR p k cur m → RedR p b.rus.length b.rus m) ∧ Aside (∀ x ∈ cur, x ∈ b.rus) ∧ Aside (RuP w.heap.size (.slice A cur.length c) wr qs cur) ∧ Aside (Blk wr w2.heap.size 25 #[.int .i64 b.p, .slice AI' b.its.length cI', .slice A cur.length c]) ∧ Aside (Below w2.heap.size w2 wr)) (fun s _ => (intOf s + 1).toNat)
  case atStart => exact ⟨b.rus.length, b.rus, qs, AR', cR', Nat.le_refl _, Nat.le_refl _, rfl, fun _ h => h, fun _ h => h, HRu.out, HKG.out, H23.out⟩
  case round =>
    clear HRu HKG
    obtain ⟨k, cur, qs, A, c, hk, hcl, rfl, hred, hsub, hru, hbl, hbr⟩ := hrel
    have HRed := Lib.hid hred.out
    have HSub := Lib.hid hsub.out
    have HRu := Lib.hid hru.out
    have HBl := Lib.hid hbl.out
    have HBr := Lib.hid hbr.out
    have hGr : w2.heap.size < wr.heap.size := hbl.out.lt
    obtain ⟨y0, y1, y2, f0, f1, f2⟩ := blk3 hbl.out
    clear hred hsub hru hbl hbr
    cases k with
    | zero =>
      have HR1 := Lib.hid (HK12.out.below HBr.out HK12.out.lt)
      obtain ⟨t0, t1, t2, g0, g1, g2⟩ := blk3 HR1.out
      have hlR : w.heap.size + 1 < wr.heap.size := HR1.out.lt
      have HM := Lib.hid (HRed.out cur rfl)
      clear hk
      go_wp2_with fail
      have HP := Lib.hid ((((Only.refl (w.heap.size + 1) wr).put 0 (.int .i64 b.p)).put 1 (.slice AI' b.its.length cI')).put 2 (.slice A cur.length c))
      have HB2 := Lib.hid (((HR1.out.put 0 (.int .i64 b.p)).put 1 (.slice AI' b.its.length cI')).put 2 (.slice A cur.length c))
      have hlow := HBw.out.trans (HBr.out.mono HBw.out.size)
      refine bodyPost_ret (results_cell_row2 rfl _ _ (w.heap.size + 1) 25 _ (0, 0) _ rfl HB2.out Tryd.underlying25 rfl (by kernel_rfl)) rfl ⟨AI', A, cI', c, qs, cur, rfl, ?_, HM.out, ?_, ?_⟩
      · exact ((HIt.out.below HBr.out).only HP.out HL1.out).at rfl
      · exact HRu.out.onlyG HP.out HR1.out
      · exact hlow.trans (HP.out.below (Nat.le_succ _) hlow.size)
    | succ k =>
      have e : (((k + 1 : Nat) : Int) - 1) = (k : Int) := by omega
      rw [e]
      clear e
      have hkl : k < cur.length := by omega
      have hkb : k ≤ 1000 := by omega
      obtain ⟨g, off, A1, c1, rfl, hg, e0, e1, i1⟩ := (HRu.out.at rfl) k hkl
      obtain ⟨n1, hn1⟩ : ∃ n1, n1 = cur[k].1.length := ⟨_, rfl⟩
      obtain ⟨z, hz⟩ : ∃ z, z = cur[k].2 := ⟨_, rfl⟩
      rw [← hn1] at e0
      rw [← hz] at e1
      have Hn1 := Lib.hid hn1
      have Hz := Lib.hid hz
      have HI1 := Lib.hid i1
      have HE := Lib.hid (And.intro e0 e1)
      have ckl := Lib.hid (cloneRu_any (some ⟨g, off, none⟩) cur.length c w.heap.size qs wr HRu.out.2.1 (by omega) (by omega) HRu.out.one)
      have cdl := Lib.hid (fun (A2 : Option Addr) (c2 : Nat) (W : World) (ho : W.ownsRow wr.heap.size 42 2 (.slice A2 cur.length c2) cur.length (flatV qs)) => deleteRu_any A2 cur.length c2 k wr.heap.size qs W ho hkl HRu.out.1 (by omega) HRu.out.one)
      have HBl2 := Lib.hid (fun W (hW : Below wr.heap.size wr W) => blk3 (HBl.out.below hW hGr))
      have HC2 := Lib.hid (fun W (hW : Below wr.heap.size wr W) => show W.cell? ⟨g, off + k * 2, none⟩ = some (.slice A1 n1 c1) ∧ W.cell? ⟨g, off + k * 2 + 1, none⟩ = some (.int .i64 z) from ⟨(hW.cell (p := ⟨g, off + k * 2, none⟩) hg).trans HE.out.1, (hW.cell (p := ⟨g, off + k * 2 + 1, none⟩) hg).trans HE.out.2⟩)
      clear hn1 hz i1 e0 e1
      go_wp2_with (first
        | (go_at_call 92; refine ckl.out.mono ?_; rintro e w4 ⟨A2, c2, rfl, ho4, hb4⟩; have HO4 := Lib.hid ho4; have HB4 := Lib.hid hb4; clear ho4 hb4)
        | (go_at_call 91; refine (cdl.out A2 c2 _ HO4.out).mono ?_; rintro e w5 ⟨A3, rfl, ho5, g5, hg5, hg5b, on5⟩; have HO5 := Lib.hid ho5; have hb5 : Below wr.heap.size wr w5 := HB4.out.trans (on5.below hg5b HB4.out.size); have HB5 := Lib.hid hb5; clear y0 y1 y2 f0 f1 f2; obtain ⟨y0, y1, y2, _⟩ := HBl2.out _ hb5; obtain ⟨d0, d1⟩ := HC2.out _ hb5; clear ho5 on5 hb5))
      have hwl : w.heap.size ≤ wr.heap.size := (HBw.out.trans (HBr.out.mono HBw.out.size)).size
      have hRe := RuP.erase (lo' := wr.heap.size) HRu.out rfl hkl hwl (Nat.le_refl _) HB5.out HO5.out
      have hle := List.length_eraseIdx_of_lt hkl
      have c78 := cf.out A3 (A1) c2 c1 (cur.eraseIdx k) (cur[k]'hkl) w5 (hRe.at hle.symm) (HI1.out.below HB5.out HB5.out.size) (fun y hy => HSub.out y (List.mem_of_mem_eraseIdx hy)) (HSub.out _ (List.getElem_mem hkl)) (by omega)
      rw [hle, ← Hn1.out, ← Hz.out] at c78
      have HRe := Lib.hid hRe
      have Hle := Lib.hid hle
      have C78 := Lib.hid c78
      have hk1 : k ≤ cur.length := by omega
      have hk2 : k ≤ cur.length - 1 := by omega
      have hk3 : cur.length - 1 ≤ b.rus.length := by omega
      clear hRe hle c78 hwl d0 d1
      go_at_call 78
      refine C78.out.mono ?_
      rintro e w6 ⟨v, rfl, ⟨r, rfl, hfl⟩, hb6⟩
      have HFl := Lib.hid (show FlR (cur.eraseIdx k) p (cur[k]?.getD ([], 0)) r from by
        rw [show cur[k]?.getD ([], 0) = cur[k] by simp [hkl]]; exact hfl)
      have hb56 := HB5.out.trans (hb6.mono HB5.out.size)
      have HB6 := Lib.hid hb56
      have HBl6 := Lib.hid (HBl.out.below hb56 hGr)
      have HRe6 := Lib.hid (HRe.out.below hb6)
      have HRu6 := Lib.hid (HRu.out.below hb56)
      have HBr6 := Lib.hid (HBr.out.trans (hb56.mono HBr.out.size))
      clear y0 y1 y2 hfl hb6 hb56
      obtain ⟨y0, y1, y2, f0, f1, f2⟩ := blk3 HBl6.out
      cases r with
      | false =>
        go_wp2_with fail
        go_roundw
        case rel => exact ⟨k, cur, qs, some ⟨g, off, none⟩, c, hk1, hcl, by go_num, fun m hm => HRed.out m ⟨false, HFl.out, by simpa using hm⟩, HSub.out, HRu6.out, HBl6.out, HBr6.out⟩
        case measure => simp [intOf]
      | true =>
        go_wp2_with fail
        have HP := Lib.hid ((Only.refl w2.heap.size w6).put 2 (.slice A3 (cur.length - 1) c2))
        go_roundw
        case rel =>
          refine ⟨k, cur.eraseIdx k, qs.eraseIdx k, A3, c2, by rw [Hle.out]; exact hk2, by rw [Hle.out]; exact hk3, by go_num, fun m hm => HRed.out m ⟨true, HFl.out, by simpa using hm⟩, fun x hx => HSub.out x (List.mem_of_mem_eraseIdx hx), ?_, ?_, HBr6.out.trans (HP.out.below (Nat.le_refl _) HBr6.out.size)⟩
          · rw [Hle.out]; exact HRe6.out.onlyG HP.out HBl6.out
          · rw [Hle.out]; exact HBl6.out.put 2 (.slice A3 (cur.length - 1) c2)
        case measure => simp [intOf]

set_option maxRecDepth 100000 in
set_option maxHeartbeats 4000000 in
theorem Reduce_bad (AI AR : Option Addr) (cI cR B : Nat) (b : Bk) (w : World) (hB : B ≤ w.heap.size) (h : ItsAt B w AI b.its) (h' : RusAt B w AR b.rus) (hs : Short b) (h0 : vlR b ≠ 0) :
    Calls Tryd.prog 47 #[.agg #[.int .i64 b.p, .slice AI b.its.length cI, .slice AR b.rus.length cR]] w fun e w' => e = .returned (.tuple #[.agg #[.int .i64 0, .slice none 0 0, .slice none 0 0], .int .i64 (vlR b)]) ∧ Below w.heap.size w w' := by
  have hT := h.below (Below.refl _ _) hB
  have hT' := h'.below (Below.refl _ _) hB
  have cv := Lib.hid (fun W (hW : Below w.heap.size w W) => Validate_any AI AR cI cR w.heap.size b W hW.size (hT.below hW (Nat.le_refl _)) (hT'.below hW (Nat.le_refl _)) hs)
  have hne : (vlR b != 0) = true := by simpa using h0
  generalize vlR b = e0 at cv hne ⊢
  have HB0 := Lib.hid (show Below w.heap.size w ((w.alloc (.cells #[.int .i64 b.p, .slice AI b.its.length cI, .slice AR b.rus.length cR] 25)).alloc (.cells #[.int .i64 0, .slice none 0 0, .slice none 0 0] 25)) from balloc (balloc (Below.refl _ _) _) _)
  clear h h' hs hT hT' h0 hB
  go_enter Tryd.func47, Tryd.ntmps47
  go_wp2_with fail
  generalize hW0 : (w.alloc (.cells #[.int .i64 b.p, .slice AI b.its.length cI, .slice AR b.rus.length cR] 25)).alloc (.cells #[.int .i64 0, .slice none 0 0, .slice none 0 0] 25) = W0
  rw [hW0] at HB0
  have HK1 := Lib.hid (show Blk W0 (w.heap.size + 1) 25 #[.int .i64 0, .slice none 0 0, .slice none 0 0] by rw [← hW0]; exact blk_new' (by simp))
  clear hW0
  go_wp2_with (go_at_call 20; refine (cv.out _ HB0.out).mono ?_; rintro e w1 ⟨rfl, hb1⟩; obtain ⟨t0, t1, t2, g0, g1, g2⟩ := blk3 (HK1.out.below hb1 HK1.out.lt); have hlR : w.heap.size + 1 < w1.heap.size := (HK1.out.below hb1 HK1.out.lt).lt)
  have HR1 := Lib.hid (HK1.out.below hb1 HK1.out.lt)
  have HP := Lib.hid ((((Only.refl (w.heap.size + 1) w1).put 0 (.int .i64 0)).put 1 (.slice none 0 0)).put 2 (.slice none 0 0))
  have HB2 := Lib.hid (((HR1.out.put 0 (.int .i64 0)).put 1 (.slice none 0 0)).put 2 (.slice none 0 0))
  have hlow := HB0.out.trans (hb1.mono HB0.out.size)
  refine bodyPost_ret (results_cell_row2 rfl _ _ (w.heap.size + 1) 25 _ (0, 0) _ rfl HB2.out Tryd.underlying25 rfl (by kernel_rfl)) rfl ⟨rfl, hlow.trans (HP.out.below (Nat.le_succ _) hlow.size)⟩
end Go.Proofs.YtgoojcjfhghmgaaDoor
