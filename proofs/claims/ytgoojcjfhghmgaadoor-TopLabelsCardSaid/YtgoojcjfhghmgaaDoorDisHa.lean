/- Rows of a call's own: what a copied book lies in. -/
import Derived.Test.YtgoojcjfhghmgaaDoorDisFb
set_option linter.unusedSimpArgs false
set_option linter.unusedVariables false
namespace Go.Proofs.YtgoojcjfhghmgaaDoor
open Go.RowKit

theorem own_cellB {w : World} {base e n c : Nat} {A : Option Addr} {xs : List Value} (h : w.ownsRow base e 1 (.slice A n c) n xs) {k : Nat} (hk : k < n) {u : Value} (hu : xs[k]? = some u) :
    ∃ g, A = some ⟨g, 0, none⟩ ∧ g < w.heap.size ∧ base ≤ g ∧ w.cell? ⟨g, k, none⟩ = some u := by
  rcases h.2 with ⟨e1, e2⟩ | ⟨g, cap, cur, e1, hb, _⟩
  · omega
  · injection e1 with e1 e3 e4
    subst e1 e4
    have := h.cells (g := g) rfl k u hu
    rw [Addr.add_lit, Nat.zero_add] at this
    exact ⟨g, rfl, (h.lt g rfl).2, hb, this⟩
/-- Rows of a call's own, none in block gx, no two in one block. -/
def RowsOwn (base : Nat) (gx : Option Nat) (w : World) (vs : List Value) (rows : List (List Int)) : Prop :=
  vs.length = rows.length ∧ (∀ i (h : i < rows.length), ∃ A c, vs[i]? = some (.slice A rows[i].length c) ∧ w.ownsRow base 3 1 (.slice A rows[i].length c) rows[i].length (rows[i].map (Value.int .i64)) ∧ (∀ k, (Value.slice A rows[i].length c).ownBlock = some k → gx ≠ some k)) ∧
  ∀ (i k : Nat) (v v' : Value), i < k → vs[i]? = some v → vs[k]? = some v' → ∀ b, v.ownBlock = some b → v'.ownBlock ≠ some b
namespace RowsOwn
variable {base : Nat} {gx gx' : Option Nat} {w w' : World} {vs : List Value} {rows : List (List Int)}
theorem nil (base : Nat) (gx : Option Nat) (w : World) : RowsOwn base gx w [] [] := ⟨rfl, fun i h => by simp at h, fun i k v v' _ h => by simp at h⟩
theorem below (h : RowsOwn base gx w vs rows) (hb : Below w.heap.size w w') : RowsOwn base gx w' vs rows := by
  refine ⟨h.1, fun i hi => ?_, h.2.2⟩
  obtain ⟨A, c, h1, h2, h3⟩ := h.2.1 i hi
  exact ⟨A, c, h1, own_below h2 hb, h3⟩
theorem grown (h : RowsOwn base gx w vs rows) (hg : w.grownBy w' gx) (hat : ∀ k, gx' = some k → gx = some k ∨ k = w.heap.size) : RowsOwn base gx' w' vs rows := by
  refine ⟨h.1, fun i hi => ?_, h.2.2⟩
  obtain ⟨A, c, h1, h2, h3⟩ := h.2.1 i hi
  refine ⟨A, c, h1, ?_, fun k hk e => ?_⟩
  · by_cases hn : (Value.slice A rows[i].length c).ownBlock = none
    · refine ⟨h2.1, ?_⟩
      rcases h2.2 with hz | ⟨g, cap, cur, hv, _⟩
      · exact .inl hz
      · rw [hv] at hn; cases hn
    · obtain ⟨k, hk⟩ := Option.ne_none_iff_exists'.1 hn
      exact h2.kept hg (.inr (fun e => h3 k hk (by rw [← hk, e])))
  · rcases hat k e with h4 | h4
    · exact h3 k hk h4
    · have := (h2.lt k hk).2; omega
theorem snoc {A : Option Addr} {c n : Nat} {o : List Int} (h : RowsOwn base gx w vs rows) (lo : Nat) (hlo : base ≤ lo) (hn : o.length = n) (hown : w.ownsRow lo 3 1 (.slice A n c) n (o.map (Value.int .i64)))
    (hgx : ∀ k, gx = some k → k < lo) (hvs : ∀ (i : Nat) (v : Value), vs[i]? = some v → ∀ b, v.ownBlock = some b → b < lo) : RowsOwn base gx w (vs ++ [.slice A n c]) (rows ++ [o]) := by
  subst hn
  have hl := h.1
  refine ⟨by simp [hl], fun i hi => ?_, fun i k v v' hik hv hv' b hb => ?_⟩
  · simp only [List.length_append, List.length_cons, List.length_nil, Nat.zero_add] at hi
    by_cases hlt : i < rows.length
    · obtain ⟨A', c', r⟩ := h.2.1 i hlt
      rw [List.getElem_append_left hlt, List.getElem?_append_left (by rw [hl]; exact hlt)]
      exact ⟨A', c', r⟩
    · obtain rfl : i = rows.length := by omega
      refine ⟨A, c, ?_, ?_, fun k hk e => ?_⟩
      · rw [List.getElem?_append_right (by rw [hl]; exact Nat.le_refl _), hl]; simp
      · simpa using own_base hown hlo
      · have h1 := hgx k e
        have h2 := (hown.lt k (by simpa [Value.ownBlock] using hk)).1
        omega
  · have hklt : k < (vs ++ [Value.slice A o.length c]).length := by
      rcases Nat.lt_or_ge k (vs ++ [Value.slice A o.length c]).length with h | h
      · exact h
      · rw [List.getElem?_eq_none h] at hv'; cases hv'
    simp only [List.length_append, List.length_cons, List.length_nil, Nat.zero_add] at hklt
    rw [List.getElem?_append_left (by omega)] at hv
    by_cases hk : k < vs.length
    · rw [List.getElem?_append_left hk] at hv'
      exact h.2.2 i k v v' hik hv hv' b hb
    · obtain rfl : k = vs.length := by omega
      rw [List.getElem?_append_right (Nat.le_refl _)] at hv'
      simp at hv'
      subst hv'
      intro e
      have h1 := (hown.lt b e).1
      have h2 := hvs i v hv b hb
      omega
theorem lt (h : RowsOwn base gx w vs rows) {i : Nat} {v : Value} (hv : vs[i]? = some v) {b : Nat} (hb : v.ownBlock = some b) : b < w.heap.size := by
  have hi : i < rows.length := by
    rcases Nat.lt_or_ge i vs.length with h' | h'
    · rw [← h.1]; exact h'
    · rw [List.getElem?_eq_none h'] at hv; cases hv
  obtain ⟨A, c, h1, h2, _⟩ := h.2.1 i hi
  rw [h1] at hv
  injection hv with hv
  subst hv
  exact (h2.lt b hb).2
end RowsOwn
theorem RowsOwn.base {base base' : Nat} {gx : Option Nat} {w : World} {vs : List Value} {rows : List (List Int)} (h : RowsOwn base gx w vs rows) (hb : base' ≤ base) : RowsOwn base' gx w vs rows :=
  ⟨h.1, fun i hi => by
    obtain ⟨A, c, h1, h2, h3⟩ := h.2.1 i hi
    exact ⟨A, c, h1, own_base h2 hb, h3⟩, h.2.2⟩
theorem RowsOwn.put {base : Nat} {gx : Option Nat} {w : World} {vs : List Value} {rows : List (List Int)} (h : RowsOwn base gx w vs rows) {i k : Nat} (hi : i < rows.length) (hk : k < rows[i].length) :
    ∃ b c, vs[i]? = some (.slice (some ⟨b, 0, none⟩) rows[i].length c) ∧ b < w.heap.size ∧ base ≤ b ∧ gx ≠ some b ∧ w.cell? ⟨b, k, none⟩ = some (.int .i64 rows[i][k]) ∧ w.frozen? ⟨b, k, none⟩ = false ∧
      ∀ v, RowsOwn base gx (w.setCell ⟨b, k, none⟩ (.int .i64 v)) vs (rows.set i (rows[i].set k v)) := by
  obtain ⟨A, c, h1, h2, h3⟩ := h.2.1 i hi
  obtain ⟨b, rfl, hb, hbb, hcell⟩ := own_cellB h2 (k := k) (u := .int .i64 rows[i][k]) hk (by simp [hk])
  refine ⟨b, c, h1, hb, hbb, h3 b rfl, hcell, ?_, fun v => ⟨by rw [List.length_set]; exact h.1, fun j hj => ?_, h.2.2⟩⟩
  · rcases h2.2 with ⟨e, _⟩ | ⟨g', cap, cur, e, _, h5, _⟩
    · cases e
    · injection e with e
      injection e with e
      injection e with e
      subst e
      exact Blk.frozen (show Blk w b 3 cur from h5) k
  · rw [List.length_set] at hj
    by_cases e : j = i
    · subst e
      rw [List.getElem_set_self]
      refine ⟨some ⟨b, 0, none⟩, c, by rw [List.length_set]; exact h1, ?_, fun k' hk' => h3 k' (by rw [List.length_set] at hk'; exact hk')⟩
      rw [List.length_set, List.map_set]
      exact (h2.stored k (.int .i64 v)).1
    · rw [List.getElem_set_ne (fun h => e h.symm)]
      obtain ⟨A', c', q1, q2, q3⟩ := h.2.1 j hj
      refine ⟨A', c', q1, ownsRow_setCell_other q2 (fun hb' => ?_) _, q3⟩
      have hb'' : (Value.slice A' rows[j].length c').ownBlock = some b := hb'
      rcases Nat.lt_or_ge j i with hlt | hge
      · exact h.2.2 j i _ _ hlt q1 h1 b hb'' rfl
      · exact h.2.2 i j _ _ (by omega) h1 q1 b rfl hb''

/-- All lists of items, of rules. -/
def flI (l : List It) : List (List Int) := l.flatMap fun x => [x.1, x.2]
def flR (l : List Ru) : List (List Int) := l.map (·.1)
theorem flI_length (l : List It) : (flI l).length = l.length * 2 := by
  induction l with
  | nil => rfl
  | cons p ps ih => simp only [flI, List.flatMap_cons, List.length_append, List.length_cons, List.length_nil] at ih ⊢; omega
theorem flI_get : ∀ (l : List It) (k : Nat) (hk : k < l.length), (flI l)[k * 2]? = some l[k].1 ∧ (flI l)[k * 2 + 1]? = some l[k].2
  | p :: ps, 0, _ => by simp [flI]
  | p :: ps, k + 1, hk => by
    have := flI_get ps k (by simpa using hk)
    simp only [flI, List.flatMap_cons] at this ⊢
    rw [List.getElem?_append_right (by simp; omega), List.getElem?_append_right (by simp; omega)]
    simp only [List.length_cons, List.length_nil, List.getElem_cons_succ]
    rw [show (k + 1) * 2 - (0 + 1 + 1) = k * 2 by omega, show (k + 1) * 2 + 1 - (0 + 1 + 1) = k * 2 + 1 by omega]
    exact this
theorem flI_snoc (l : List It) (x : It) : flI (l ++ [x]) = flI l ++ [x.1] ++ [x.2] := by simp [flI]
theorem flR_snoc (l : List Ru) (x : Ru) : flR (l ++ [x]) = flR l ++ [x.1] := by simp [flR]
/-- Items of a call's own: with their cells. -/
def ItP (lo : Nat) (out : Value) (w : World) (ps : List (Value × Value)) (l : List It) : Prop := ps.length = l.length ∧ w.ownsRow lo 84 2 out l.length (flatV ps) ∧ RowsOwn lo out.ownBlock w (flatV ps) (flI l)
/-- Rules of a call's own: with their cells. -/
def RuP (lo : Nat) (out : Value) (w : World) (ps : List (Value × Value)) (l : List Ru) : Prop := ps.length = l.length ∧ w.ownsRow lo 42 2 out l.length (flatV ps) ∧ RowsOwn lo out.ownBlock w (ps.map (·.1)) (flR l) ∧ ps.map (·.2) = l.map fun x => .int .i64 x.2
theorem ItP.nil (lo : Nat) (w : World) : ItP lo (.slice none 0 0) w [] [] := ⟨rfl, World.ownsRow_nil _ _ _ _, RowsOwn.nil _ _ _⟩
theorem RuP.nil (lo : Nat) (w : World) : RuP lo (.slice none 0 0) w [] [] := ⟨rfl, World.ownsRow_nil _ _ _ _, RowsOwn.nil _ _ _, rfl⟩
section
variable {lo : Nat} {out : Value} {w w' : World} {ps : List (Value × Value)}
theorem ItP.below {l : List It} (h : ItP lo out w ps l) (hb : Below w.heap.size w w') : ItP lo out w' ps l := ⟨h.1, own_below h.2.1 hb, h.2.2.below hb⟩
theorem RuP.below {l : List Ru} (h : RuP lo out w ps l) (hb : Below w.heap.size w w') : RuP lo out w' ps l := ⟨h.1, own_below h.2.1 hb, h.2.2.1.below hb, h.2.2.2⟩
theorem ItP.snoc {l : List It} {x : It} {wr Wb Wc W w8 : World} {A6 A7 A8 : Option Addr} {n1 n2 c6 c7 c8 : Nat} {k : Nat} (h : ItP lo out wr ps l) (hk : l.length = k) (hlo : lo ≤ wr.heap.size) (hn1 : n1 = x.1.length) (hn2 : n2 = x.2.length)
    (hb1 : Below wr.heap.size wr Wb) (ho1 : Wb.ownsRow wr.heap.size 3 1 (.slice A6 n1 c6) n1 (x.1.map (Value.int .i64))) (hb2 : Below Wb.heap.size Wb Wc) (ho2 : Wc.ownsRow Wb.heap.size 3 1 (.slice A7 n2 c7) n2 (x.2.map (Value.int .i64))) (hb3 : Below Wc.heap.size Wc W)
    (hown : w8.ownsRow lo 84 2 (.slice A8 (k + 1) c8) (k + 1) (flatV (ps ++ [(.slice A6 n1 c6, .slice A7 n2 c7)]))) (hg : W.grownBy w8 out.ownBlock) (hat : ∀ j, (Value.slice A8 (k + 1) c8).ownBlock = some j → out.ownBlock = some j ∨ j = W.heap.size) :
    ItP lo (.slice A8 (k + 1) c8) w8 (ps ++ [(.slice A6 n1 c6, .slice A7 n2 c7)]) (l ++ [x]) := by
  subst hn1 hn2 hk
  have hlt : ∀ j, out.ownBlock = some j → j < wr.heap.size := fun j hj => (h.2.1.lt j hj).2
  have r1 := (h.2.2.below hb1).snoc (o := x.1) wr.heap.size hlo rfl ho1 hlt (fun i v hv b hb => h.2.2.lt hv hb)
  have r2 := (r1.below hb2).snoc (o := x.2) Wb.heap.size (Nat.le_trans hlo hb1.size) rfl ho2 (fun j hj => Nat.lt_of_lt_of_le (hlt j hj) hb1.size) (fun i v hv b hb => r1.lt hv hb)
  have r3 := (r2.below hb3).grown hg hat
  refine ⟨by simp [h.1], by simpa using hown, ?_⟩
  rw [flI_snoc, flatV_snoc]
  simpa using r3
theorem RuP.snoc {l : List Ru} {x : Ru} {wr Wb W w8 : World} {A6 A8 : Option Addr} {n1 c6 c8 : Nat} {k : Nat} (h : RuP lo out wr ps l) (hk : l.length = k) (hlo : lo ≤ wr.heap.size) (hn1 : n1 = x.1.length)
    (hb1 : Below wr.heap.size wr Wb) (ho1 : Wb.ownsRow wr.heap.size 3 1 (.slice A6 n1 c6) n1 (x.1.map (Value.int .i64))) (hb3 : Below Wb.heap.size Wb W)
    (hown : w8.ownsRow lo 42 2 (.slice A8 (k + 1) c8) (k + 1) (flatV (ps ++ [(.slice A6 n1 c6, .int .i64 x.2)]))) (hg : W.grownBy w8 out.ownBlock) (hat : ∀ j, (Value.slice A8 (k + 1) c8).ownBlock = some j → out.ownBlock = some j ∨ j = W.heap.size) :
    RuP lo (.slice A8 (k + 1) c8) w8 (ps ++ [(.slice A6 n1 c6, .int .i64 x.2)]) (l ++ [x]) := by
  subst hn1 hk
  have hlt : ∀ j, out.ownBlock = some j → j < wr.heap.size := fun j hj => (h.2.1.lt j hj).2
  have r1 := (h.2.2.1.below hb1).snoc (o := x.1) wr.heap.size hlo rfl ho1 hlt (fun i v hv b hb => h.2.2.1.lt hv hb)
  have r3 := (r1.below hb3).grown hg hat
  refine ⟨by simp [h.1], by simpa using hown, ?_, by simp [h.2.2.2]⟩
  rw [flR_snoc, List.map_append]
  simpa using r3
theorem RowsOwn.only {base : Nat} {gx : Option Nat} {w w' : World} {vs : List Value} {rows : List (List Int)} {G : Nat} (h : RowsOwn base gx w vs rows) (o : Only G w w') (hG : G < base) : RowsOwn base gx w' vs rows :=
  ⟨h.1, fun i hi => by
    obtain ⟨A, c, h1, h2, h3⟩ := h.2.1 i hi
    exact ⟨A, c, h1, o.own h2 (own_ne h2 hG), h3⟩, h.2.2⟩
theorem ItP.only {lo G : Nat} {out : Value} {w w' : World} {ps : List (Value × Value)} {l : List It} (h : ItP lo out w ps l) (o : Only G w w') (hG : G < lo) : ItP lo out w' ps l := ⟨h.1, o.own h.2.1 (own_ne h.2.1 hG), h.2.2.only o hG⟩
theorem RuP.only {lo G : Nat} {out : Value} {w w' : World} {ps : List (Value × Value)} {l : List Ru} (h : RuP lo out w ps l) (o : Only G w w') (hG : G < lo) : RuP lo out w' ps l := ⟨h.1, o.own h.2.1 (own_ne h.2.1 hG), h.2.2.1.only o hG, h.2.2.2⟩
theorem ItP.base {lo lo' : Nat} {out : Value} {w : World} {ps : List (Value × Value)} {l : List It} (h : ItP lo out w ps l) (hl : lo' ≤ lo) : ItP lo' out w ps l := ⟨h.1, own_base h.2.1 hl, h.2.2.base hl⟩
theorem RuP.base {lo lo' : Nat} {out : Value} {w : World} {ps : List (Value × Value)} {l : List Ru} (h : RuP lo out w ps l) (hl : lo' ≤ lo) : RuP lo' out w ps l := ⟨h.1, own_base h.2.1 hl, h.2.2.1.base hl, h.2.2.2⟩
/-- The blocks of rows lie below mid. -/
def UpTo (mid : Nat) (out : Value) (vs : List Value) : Prop := (∀ b, out.ownBlock = some b → b < mid) ∧ ∀ (i : Nat) (v : Value), vs[i]? = some v → ∀ b, v.ownBlock = some b → b < mid
theorem ItP.upTo {lo : Nat} {out : Value} {w : World} {ps : List (Value × Value)} {l : List It} (h : ItP lo out w ps l) : UpTo w.heap.size out (flatV ps) := ⟨fun b hb => (h.2.1.lt b hb).2, fun i v hv b hb => h.2.2.lt hv hb⟩
theorem ItP.at {l : List It} {A : Option Addr} {n c : Nat} (h : ItP lo (.slice A n c) w ps l) (hn : n = l.length) : ItsAt w.heap.size w A l := by
  subst hn
  intro k hk
  have hkp : k < ps.length := by rw [h.1]; exact hk
  obtain ⟨g, rfl, hg, q0, q1⟩ := own_cell2 h.2.1 h.1 hkp
  obtain ⟨f0, f1⟩ := flatV_get ps k hkp
  obtain ⟨g0, g1⟩ := flI_get l k hk
  have hl := flI_length l
  obtain ⟨A1, c1, e1, o1, _⟩ := h.2.2.2.1 (k * 2) (by omega)
  obtain ⟨A2, c2, e2, o2, _⟩ := h.2.2.2.1 (k * 2 + 1) (by omega)
  have x1 : (flI l)[k * 2]'(by omega) = l[k].1 := by rw [List.getElem?_eq_getElem (by omega)] at g0; injection g0
  have x2 : (flI l)[k * 2 + 1]'(by omega) = l[k].2 := by rw [List.getElem?_eq_getElem (by omega)] at g1; injection g1
  rw [x1] at e1 o1
  rw [x2] at e2 o2
  rw [f0] at e1
  rw [f1] at e2
  injection e1 with e1
  injection e2 with e2
  refine ⟨g, 0, A1, c1, A2, c2, rfl, hg, ?_, ?_, IntsAt.of_own o1, IntsAt.of_own o2⟩
  · rw [Nat.zero_add, q0, e1]
  · rw [Nat.zero_add, q1, e2]
theorem RuP.at {l : List Ru} {A : Option Addr} {n c : Nat} (h : RuP lo (.slice A n c) w ps l) (hn : n = l.length) : RusAt w.heap.size w A l := by
  subst hn
  intro k hk
  have hkp : k < ps.length := by rw [h.1]; exact hk
  obtain ⟨g, rfl, hg, q0, q1⟩ := own_cell2 h.2.1 h.1 hkp
  obtain ⟨A1, c1, e1, o1, _⟩ := h.2.2.1.2.1 k (by simpa [flR] using hk)
  have x1 : (flR l)[k]'(by simpa [flR] using hk) = l[k].1 := by simp [flR]
  rw [x1] at e1 o1
  rw [List.getElem?_map, List.getElem?_eq_getElem hkp] at e1
  have e1' : ps[k].1 = .slice A1 l[k].1.length c1 := by simpa using e1
  have e2 : ps[k].2 = .int .i64 l[k].2 := by
    have := congrArg (fun l => l[k]?) h.2.2.2
    simpa [hkp, hk] using this
  refine ⟨g, 0, A1, c1, rfl, hg, ?_, ?_, IntsAt.of_own o1⟩
  · rw [Nat.zero_add, q0, e1']
  · rw [Nat.zero_add, q1, e2]
end
end Go.Proofs.YtgoojcjfhghmgaaDoor
