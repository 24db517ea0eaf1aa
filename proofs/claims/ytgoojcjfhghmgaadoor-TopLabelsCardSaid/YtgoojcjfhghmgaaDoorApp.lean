/- append of any slice, at a step of a region that draws its order. -/
import Derived.Test.YtgoojcjfhghmgaaDoorBase2
import Derived.Deep.AppendLies
import Derived.Laws.OwnMore
namespace Go.Proofs.YtgoojcjfhghmgaaDoor
open Go.RowKit

section
variable {P : Program} (w : World)
theorem run_app (base : Nat) (t ty e : TypeId) (i : TypeInfo) (z : Value) (size bytes : Nat) (ht : P.underlying t = some (.slice e)) (hi : P.info? e = some i) (hz : i.zero = some z)
    (hsize : i.size = size) (hby : i.bytes = bytes) (hzs : z.cells.size = size) (hsz : 0 < size)
    (v : Value) (n : Nat) (xs : List Value) (hown : w.ownsRow base e size v n xs)
    (A : Option Addr) (m c : Nat) (news : List Value) (hl : news.length = m * size) (hA : A = none → m = 0) (hnews : ∀ ad, A = some ad → ∀ j u, news[j]? = some u → w.cell? (ad.add j) = some u) (h1 : ∀ u ∈ news, u.oneCell' = true)
    (h63 : n + m ≤ maxLen) (hbytes : (n + m) * bytes ≤ 140737488355328) (hbase : base ≤ w.heap.size) :
    ∃ A' c' w', (Builtin.append_ #[t, t] ty #[v, .slice A m c]).run P w = .ok (.slice A' (n + m) c') w' ∧ w'.ownsRow base e size (.slice A' (n + m) c') (n + m) (xs ++ news) ∧ w.grownBy w' v.ownBlock ∧ (v.ownBlock = none ∨ (∃ a, A' = some a ∧ (v.ownBlock = some a.block ∨ a.block = w.heap.size)) ∨ A' = none) := by
  cases A with
  | some ad =>
    obtain ⟨v', w', hr, h2, h3, _, h5⟩ := run_append_own_at (P := P) w base t ty e i z size bytes ht hi hz hsize hby hzs hsz v n xs hown ad m c news hl (hnews ad rfl) h1 h63 hbytes hbase
    obtain ⟨A', c', rfl⟩ := own_form h2
    refine ⟨A', c', w', hr, h2, h3, ?_⟩
    cases A' with
    | none => exact .inr (.inr rfl)
    | some a =>
      rcases h5 with h5 | h5
      · exact .inr (.inl ⟨a, rfl, .inl (by rw [← h5]; rfl)⟩)
      · exact .inr (.inl ⟨a, rfl, .inr (by simpa [Value.ownBlock] using h5)⟩)
  | none =>
    obtain rfl := hA rfl
    have hn : news = [] := List.eq_nil_of_length_eq_zero (by simpa using hl)
    subst hn
    have hrun : (Builtin.append_ #[t, t] ty #[v, .slice none 0 c]).run P w = .ok v w := by
      rcases hown.2 with ⟨rfl, rfl⟩ | ⟨g, cap, cur, rfl, _, _, hnc, _⟩
      · simp [Builtin.append_, run_underlying ht, sizeOf, typeInfo, hi, Builtin.lenOf, Builtin.firstCells]
      · simp [Builtin.append_, run_underlying ht, sizeOf, typeInfo, hi, Builtin.lenOf, Builtin.firstCells, hnc, storeCells]
    obtain ⟨A', c', rfl⟩ := own_form hown
    refine ⟨A', c', w, hrun, by simpa using hown, World.grownBy.refl _ _, ?_⟩
    cases A' with
    | none => exact .inl rfl
    | some a => exact .inr (.inl ⟨a, rfl, .inl rfl⟩)

theorem step_app {ops : Array Oper} {o : Oper} {a : Act} {K : Act → World → Prop} {Q : Exit → Act → World → Prop} {E : Prop} (hgd : o.guard = none) (s x : Operand) (t : TypeId)
    (ho : o.op = .call { callee := .builtin .append, args := #[s, x], argTypes := #[t, t] })
    (base : Nat) (e : TypeId) (i : TypeInfo) (z : Value) (size bytes : Nat) (ht : P.underlying t = some (.slice e)) (hi : P.info? e = some i) (hz : i.zero = some z)
    (hsize : i.size = size) (hby : i.bytes = bytes) (hzs : z.cells.size = size) (hsz : 0 < size)
    (v : Value) (n : Nat) (xs : List Value) (hs : a.eval s = v) (hown : w.ownsRow base e size v n xs)
    (A : Option Addr) (m c : Nat) (news : List Value) (hx : a.eval x = .slice A m c) (hl : news.length = m * size) (hA : A = none → m = 0) (hnews : ∀ ad, A = some ad → ∀ j u, news[j]? = some u → w.cell? (ad.add j) = some u) (h1 : ∀ u ∈ news, u.oneCell' = true)
    (h63 : n + m ≤ maxLen) (hbytes : (n + m) * bytes ≤ 140737488355328) (hbase : base ≤ w.heap.size)
    (h : ∀ A' c' w', w'.ownsRow base e size (.slice A' (n + m) c') (n + m) (xs ++ news) → w.grownBy w' v.ownBlock → (v.ownBlock = none ∨ (∃ a, A' = some a ∧ (v.ownBlock = some a.block ∨ a.block = w.heap.size)) ∨ A' = none) → K (a.put o.dst (.slice A' (n + m) c')) w') :
    if Region.wanted o (yielded ops a.tmps) = true then Oper.wp P o a w K Q else E := by
  have hw : Region.wanted o (yielded ops a.tmps) = true := by simp [Region.wanted, hgd]
  rw [if_pos hw]
  obtain ⟨A', c', w', hr, h2, h3, h4⟩ := run_app (P := P) w base t o.type e i z size bytes ht hi hz hsize hby hzs hsz v n xs hown A m c news hl hA hnews h1 h63 hbytes hbase
  unfold Oper.wp execOp
  simp only [ho, resolve, invoke, builtin, Sem.run_bind, Sem.run_pure, Result.andThen_ok, List.map_toArray, List.map_cons, List.map_nil, hs, hx, hr]
  exact h A' c' w' h2 h3 h4
end

/-- The cells of pairs. -/
def flat2 (l : List (Int × Int)) : List Value := l.flatMap fun x => [.int .i64 x.1, .int .i64 x.2]
theorem flat2_length (l : List (Int × Int)) : (flat2 l).length = l.length * 2 := by
  induction l with
  | nil => rfl
  | cons x l ih => simp only [flat2, List.flatMap_cons, List.length_append, List.length_cons, List.length_nil] at ih ⊢; omega
theorem flat2_one (l : List (Int × Int)) : ∀ u ∈ flat2 l, u.oneCell' = true := by
  intro u hu
  simp only [flat2, List.mem_flatMap] at hu
  obtain ⟨x, _, hx⟩ := hu
  simp at hx
  rcases hx with rfl | rfl <;> rfl
theorem flat2_get : ∀ (l : List (Int × Int)) (k j : Nat), k < l.length → j < 2 → (flat2 l)[k * 2 + j]? = some (.int .i64 (if j = 0 then (l[k]?.getD (0, 0)).1 else (l[k]?.getD (0, 0)).2))
  | [], k, j, hk, _ => by simp at hk
  | x :: l, k, j, hk, hj => by
    cases k with
    | zero =>
      have : j = 0 ∨ j = 1 := by omega
      rcases this with rfl | rfl <;> simp [flat2]
    | succ k =>
      have := flat2_get l k j (by simpa using hk) hj
      rw [show (k + 1) * 2 + j = (k * 2 + j) + 2 by omega]
      simp only [flat2, List.flatMap_cons] at this ⊢
      rw [List.getElem?_append_right (by simp)]
      simpa using this
theorem flat2_append (l m : List (Int × Int)) : flat2 (l ++ m) = flat2 l ++ flat2 m := by simp [flat2]
theorem PairsAt.news {B : Nat} {w : World} {A : Option Addr} {l : List (Int × Int)} (h : PairsAt B w A l) : ∀ ad, A = some ad → ∀ j u, (flat2 l)[j]? = some u → w.cell? (ad.add j) = some u := by
  intro ad hA j u hj
  have hlt : j < l.length * 2 := by rw [← flat2_length]; exact (List.getElem?_eq_some_iff.1 hj).1
  obtain ⟨b, off, e, hb, hc⟩ := h (j / 2) (by omega)
  obtain rfl : ad = ⟨b, off, none⟩ := by rw [hA] at e; injection e
  have h1 := hc (j % 2) (by omega)
  have h2 := flat2_get l (j / 2) (j % 2) (by omega) (by omega)
  rw [Addr.add_lit]
  rw [show off + j / 2 * 2 + j % 2 = off + j by omega] at h1
  rw [show j / 2 * 2 + j % 2 = j by omega] at h2
  rw [h1, ← hj, h2]
theorem PairsAt.none_nil {B : Nat} {w : World} {A : Option Addr} {l : List (Int × Int)} (h : PairsAt B w A l) : A = none → l.length = 0 := by
  intro hA
  cases hl : l.length with
  | zero => rfl
  | succ n =>
    obtain ⟨b, off, e, _⟩ := h 0 (by omega)
    rw [hA] at e; cases e
theorem PairsAt.of_own {w : World} {base e c : Nat} {A : Option Addr} {l : List (Int × Int)} (h : w.ownsRow base e 2 (.slice A l.length c) l.length (flat2 l)) : PairsAt w.heap.size w A l :=
  ElsAt.of_own h fun k j hk hj => flat2_get l k j hk hj
theorem own_new {w : World} {base e : Nat} (size : Nat) (hb : base ≤ w.heap.size) : (w.alloc (.cells #[] e)).ownsRow base e size (.slice (some ⟨w.heap.size, 0, none⟩) 0 0) 0 [] :=
  World.ownsRow_made w #[] 0 hb (by simp [maxLen]) (by simp)
end Go.Proofs.YtgoojcjfhghmgaaDoor
