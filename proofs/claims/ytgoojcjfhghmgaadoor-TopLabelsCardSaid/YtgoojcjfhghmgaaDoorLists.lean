/- Lists of ints whose slices lie in a row; append that tells where its row lies. -/
import Derived.Test.YtgoojcjfhghmgaaDoorApp3
namespace Go.Proofs.YtgoojcjfhghmgaaDoor
open Go.RowKit

theorem IntsAt.news {B : Nat} {w : World} {A : Option Addr} {l : List Int} (h : IntsAt B w A l) : ∀ ad, A = some ad → ∀ j u, (l.map (Value.int .i64))[j]? = some u → w.cell? (ad.add j) = some u := by
  intro ad hA j u hj
  have hlt : j < l.length := by simpa using (List.getElem?_eq_some_iff.1 hj).1
  obtain ⟨b, off, e, hb, hc⟩ := h.at hlt
  obtain rfl : ad = ⟨b, off, none⟩ := by rw [hA] at e; injection e
  rw [Addr.add_lit, hc, ← hj]; simp [hlt]
theorem IntsAt.none_nil {B : Nat} {w : World} {A : Option Addr} {l : List Int} (h : IntsAt B w A l) : A = none → l.length = 0 := by
  intro hA
  cases hl : l.length with
  | zero => rfl
  | succ n =>
    obtain ⟨b, off, e, _⟩ := h.at (k := 0) (by omega)
    rw [hA] at e; cases e
theorem IntsAt.take {B : Nat} {w : World} {A : Option Addr} {l : List Int} (h : IntsAt B w A l) (k : Nat) : IntsAt B w A (l.take k) := by
  intro j hj
  simp only [List.length_take] at hj
  obtain ⟨b, off, e, hb, hc⟩ := h j (by omega)
  refine ⟨b, off, e, hb, fun i hi => ?_⟩
  rw [hc i hi]
  simp only [List.getElem?_take]
  rw [if_pos (by omega)]
theorem IntsAt.drop {B : Nat} {w : World} {b off : Nat} {l : List Int} (h : IntsAt B w (some ⟨b, off, none⟩) l) (k : Nat) : IntsAt B w (some ⟨b, off + k, none⟩) (l.drop k) := by
  intro j hj
  simp only [List.length_drop] at hj
  obtain ⟨b', off', e, hb, hc⟩ := h (k + j) (by omega)
  obtain ⟨rfl, rfl⟩ : b = b' ∧ off = off' := by injection e with e; injection e with e1 e2; exact ⟨e1, e2⟩
  refine ⟨b, off + k, rfl, hb, fun i hi => ?_⟩
  have := hc i hi
  simp only [Nat.mul_one] at this ⊢
  rw [show off + k + j + i = off + (k + j) + i by omega, this]
  simp
theorem ints_one (l : List Int) : ∀ u ∈ l.map (Value.int .i64), u.oneCell' = true := by
  intro u hu
  simp only [List.mem_map] at hu
  obtain ⟨x, _, rfl⟩ := hu
  rfl

/-- The values are the slices of the lists; none of them lies in block g. -/
def LstN (g : Option Nat) (w : World) (vs : List Value) (os : List (List Int)) : Prop :=
  vs.length = os.length ∧ ∀ i (h : i < os.length), ∃ A c, vs[i]? = some (.slice A os[i].length c) ∧ IntsAt w.heap.size w A os[i] ∧ (∀ a, A = some a → a.block < w.heap.size ∧ some a.block ≠ g ∧ a.spot = none) ∧ os[i].length ≤ c ∧ c ≤ maxLen
namespace LstN
variable {g g' : Option Nat} {w w' : World} {vs : List Value} {os : List (List Int)}
theorem nil (g : Option Nat) (w : World) : LstN g w [] [] := ⟨rfl, fun i h => by simp at h⟩
theorem below (h : LstN g w vs os) (hb : Below w.heap.size w w') : LstN g w' vs os := by
  refine ⟨h.1, fun i hi => ?_⟩
  obtain ⟨A, c, h1, h2, h3, h4⟩ := h.2 i hi
  exact ⟨A, c, h1, h2.below hb hb.size, fun a ha => ⟨Nat.lt_of_lt_of_le (h3 a ha).1 hb.size, (h3 a ha).2⟩, h4⟩
theorem weak (h : LstN g w vs os) : LstN none w vs os := by
  refine ⟨h.1, fun i hi => ?_⟩
  obtain ⟨A, c, h1, h2, h3, h4⟩ := h.2 i hi
  exact ⟨A, c, h1, h2, fun a ha => ⟨(h3 a ha).1, by simp, (h3 a ha).2.2⟩, h4⟩
theorem grown (h : LstN g w vs os) (hg : w.grownBy w' g) (hg' : ∀ k, g' = some k → g = some k ∨ k = w.heap.size) : LstN g' w' vs os := by
  refine ⟨h.1, fun i hi => ?_⟩
  obtain ⟨A, c, h1, h2, h3, h4⟩ := h.2 i hi
  refine ⟨A, c, h1, ?_, fun a ha => ?_, h4⟩
  · intro k hk
    obtain ⟨b, off, e, hb, hc⟩ := h2 k hk
    refine ⟨b, off, e, Nat.lt_of_lt_of_le hb hg.size, fun j hj => ?_⟩
    rw [World.cell?_of_block (hg.block b hb (fun he => (h3 _ e).2.1 he))]
    exact hc j hj
  · obtain ⟨h5, h6, h7⟩ := h3 a ha
    refine ⟨Nat.lt_of_lt_of_le h5 hg.size, fun he => ?_, h7⟩
    rcases hg' a.block he.symm with h8 | h8
    · exact h6 h8.symm
    · omega
theorem snoc {A : Option Addr} {c : Nat} {o : List Int} (h : LstN g w vs os) (h2 : IntsAt w.heap.size w A o) (h3 : ∀ a, A = some a → a.block < w.heap.size ∧ some a.block ≠ g ∧ a.spot = none) (h4 : o.length ≤ c) (h5 : c ≤ maxLen) :
    LstN g w (vs ++ [.slice A o.length c]) (os ++ [o]) := by
  refine ⟨by simp [h.1], fun i hi => ?_⟩
  simp only [List.length_append, List.length_cons, List.length_nil, Nat.zero_add] at hi
  by_cases hlt : i < os.length
  · obtain ⟨A', c', h1', r⟩ := h.2 i hlt
    rw [List.getElem_append_left hlt, List.getElem?_append_left (by rw [h.1]; exact hlt)]
    exact ⟨A', c', h1', r⟩
  · obtain rfl : i = os.length := by omega
    refine ⟨A, c, ?_, ?_⟩
    · rw [List.getElem?_append_right (by rw [h.1]; exact Nat.le_refl _), h.1]; simp
    · simpa using ⟨h2, h3, h4, h5⟩
end LstN
theorem own_caps {w : World} {base e n c : Nat} {A : Option Addr} {xs : List Value} (h : w.ownsRow base e 1 (.slice A n c) n xs) : n ≤ c ∧ c ≤ maxLen ∧ ∀ a, A = some a → base ≤ a.block ∧ a.block < w.heap.size ∧ a.spot = none := by
  rcases h.2 with ⟨e1, e2⟩ | ⟨g, cap, cur, e1, hb, _, hc, hm, _⟩
  · injection e1 with e1 e3 e4
    subst e1 e4
    exact ⟨by omega, Nat.zero_le _, fun a ha => by cases ha⟩
  · injection e1 with e1 e3 e4
    subst e1 e4
    refine ⟨hc, hm, fun a ha => ?_⟩
    obtain rfl : (⟨g, 0, none⟩ : Addr) = a := by injection ha
    exact ⟨hb, (h.lt g rfl).2, rfl⟩
theorem own_below {w w' : World} {base e size n : Nat} {v : Value} {xs : List Value} (h : w.ownsRow base e size v n xs) (hb : Below w.heap.size w w') : w'.ownsRow base e size v n xs := by
  refine ⟨h.1, ?_⟩
  rcases h.2 with hn | ⟨g, cap, cur, hv, hbg, hh, rest⟩
  · exact .inl hn
  · refine .inr ⟨g, cap, cur, hv, hbg, ?_, rest⟩
    have hlt : g < w.heap.size := (Array.getElem?_eq_some_iff.1 hh).1
    rw [hb.block g hlt]; exact hh

section
variable {P : Program} (w : World)
theorem run_app2 (base : Nat) (t ty e : TypeId) (i : TypeInfo) (z : Value) (size bytes : Nat) (ht : P.underlying t = some (.slice e)) (hi : P.info? e = some i) (hz : i.zero = some z)
    (hsize : i.size = size) (hby : i.bytes = bytes) (hzs : z.cells.size = size) (hsz : 0 < size)
    (v : Value) (n : Nat) (xs : List Value) (hown : w.ownsRow base e size v n xs)
    (ad : Addr) (m c : Nat) (news : List Value) (hl : news.length = m * size) (hnews : ∀ j u, news[j]? = some u → w.cell? (ad.add j) = some u) (h1 : ∀ u ∈ news, u.oneCell' = true)
    (h63 : n + m ≤ maxLen) (hbytes : (n + m) * bytes ≤ 140737488355328) (hbase : base ≤ w.heap.size) :
    ∃ A' c' w', (Builtin.append_ #[t, t] ty #[v, .slice (some ad) m c]).run P w = .ok (.slice A' (n + m) c') w' ∧ w'.ownsRow base e size (.slice A' (n + m) c') (n + m) (xs ++ news) ∧ w.grownBy w' v.ownBlock ∧ (∀ k, (Value.slice A' (n + m) c').ownBlock = some k → v.ownBlock = some k ∨ k = w.heap.size) := by
  obtain ⟨v', w', hr, h2, h3, _, h5⟩ := run_append_own_at (P := P) w base t ty e i z size bytes ht hi hz hsize hby hzs hsz v n xs hown ad m c news hl hnews h1 h63 hbytes hbase
  obtain ⟨A', c', rfl⟩ := own_form h2
  refine ⟨A', c', w', hr, h2, h3, fun k hk => ?_⟩
  rcases h5 with h5 | h5
  · exact .inl (h5.symm.trans hk)
  · rw [h5] at hk; injection hk with hk; exact .inr hk.symm
theorem step_app2 {ops : Array Oper} {o : Oper} {a : Act} {K : Act → World → Prop} {Q : Exit → Act → World → Prop} {E : Prop} (hgd : o.guard = none) (s x : Operand) (t : TypeId)
    (ho : o.op = .call { callee := .builtin .append, args := #[s, x], argTypes := #[t, t] })
    (base : Nat) (e : TypeId) (i : TypeInfo) (z : Value) (size bytes : Nat) (ht : P.underlying t = some (.slice e)) (hi : P.info? e = some i) (hz : i.zero = some z)
    (hsize : i.size = size) (hby : i.bytes = bytes) (hzs : z.cells.size = size) (hsz : 0 < size)
    (v : Value) (n : Nat) (xs : List Value) (hs : a.eval s = v) (hown : w.ownsRow base e size v n xs)
    (ad : Addr) (m c : Nat) (news : List Value) (hx : a.eval x = .slice (some ad) m c) (hl : news.length = m * size) (hnews : ∀ j u, news[j]? = some u → w.cell? (ad.add j) = some u) (h1 : ∀ u ∈ news, u.oneCell' = true)
    (h63 : n + m ≤ 1000000) (hbytes : bytes ≤ 1000) (hbase : base ≤ w.heap.size) (N : Nat) (hN : n + m = N) (ys : List Value) (hys : xs ++ news = ys)
    (h : ∀ A' c' w', w'.ownsRow base e size (.slice A' N c') N ys → w.grownBy w' v.ownBlock → (∀ k, v.ownBlock = some k → base ≤ k) → (∀ k, (Value.slice A' N c').ownBlock = some k → v.ownBlock = some k ∨ k = w.heap.size) → K (a.put o.dst (.slice A' N c')) w') :
    if Region.wanted o (yielded ops a.tmps) = true then Oper.wp P o a w K Q else E := by
  subst hN hys
  have hw : Region.wanted o (yielded ops a.tmps) = true := by simp [Region.wanted, hgd]
  rw [if_pos hw]
  obtain ⟨A', c', w', hr, h2, h3, h4⟩ := run_app2 (P := P) w base t o.type e i z size bytes ht hi hz hsize hby hzs hsz v n xs hown ad m c news hl hnews h1 (by simp only [maxLen]; omega)
    (Nat.le_trans (Nat.mul_le_mul h63 hbytes) (by decide)) hbase
  unfold Oper.wp execOp
  simp only [ho, resolve, invoke, builtin, Sem.run_bind, Sem.run_pure, Result.andThen_ok, List.map_toArray, List.map_cons, List.map_nil, hs, hx, hr]
  exact h A' c' w' h2 h3 (fun k hk => (hown.lt k hk).1) h4
end
end Go.Proofs.YtgoojcjfhghmgaaDoor
