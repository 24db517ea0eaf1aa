/- append at a step of a region that draws its order, what has come named. -/
import Derived.Test.YtgoojcjfhghmgaaDoorApp
namespace Go.Proofs.YtgoojcjfhghmgaaDoor
open Go.RowKit

theorem step_app' {P : Program} (w : World) {ops : Array Oper} {o : Oper} {a : Act} {K : Act → World → Prop} {Q : Exit → Act → World → Prop} {E : Prop} (hgd : o.guard = none) (s x : Operand) (t : TypeId)
    (ho : o.op = .call { callee := .builtin .append, args := #[s, x], argTypes := #[t, t] })
    (base : Nat) (e : TypeId) (i : TypeInfo) (z : Value) (size bytes : Nat) (ht : P.underlying t = some (.slice e)) (hi : P.info? e = some i) (hz : i.zero = some z)
    (hsize : i.size = size) (hby : i.bytes = bytes) (hzs : z.cells.size = size) (hsz : 0 < size)
    (v : Value) (n : Nat) (xs : List Value) (hs : a.eval s = v) (hown : w.ownsRow base e size v n xs)
    (A : Option Addr) (m c : Nat) (news : List Value) (hx : a.eval x = .slice A m c) (hl : news.length = m * size) (hA : A = none → m = 0) (hnews : ∀ ad, A = some ad → ∀ j u, news[j]? = some u → w.cell? (ad.add j) = some u) (h1 : ∀ u ∈ news, u.oneCell' = true)
    (h63 : n + m ≤ 1000000) (hbytes : bytes ≤ 1000) (hbase : base ≤ w.heap.size) (N : Nat) (hN : n + m = N) (ys : List Value) (hys : xs ++ news = ys)
    (h : ∀ A' c' w', w'.ownsRow base e size (.slice A' N c') N ys → w.grownBy w' v.ownBlock → (∀ k, v.ownBlock = some k → base ≤ k) → K (a.put o.dst (.slice A' N c')) w') :
    if Region.wanted o (yielded ops a.tmps) = true then Oper.wp P o a w K Q else E := by
  subst hN hys
  exact step_app w hgd s x t ho base e i z size bytes ht hi hz hsize hby hzs hsz v n xs hs hown A m c news hx hl hA hnews h1 (by simp only [maxLen]; omega)
    (Nat.le_trans (Nat.mul_le_mul h63 hbytes) (by decide)) hbase fun A' c' w' h2 h3 _ => h A' c' w' h2 h3 fun k hk => (hown.lt k hk).1

theorem news_blk {W : World} {g : Nat} {t : TypeId} {cs : Array Value} (h : Blk W g t cs) : ∀ ad, some (⟨g, 0, none⟩ : Addr) = some ad → ∀ j u, cs.toList[j]? = some u → W.cell? (ad.add j) = some u := by
  intro ad had j u hj
  injection had with had
  subst had
  rw [Addr.add_lit, h.cell]
  simpa using hj
theorem blk_new' {W : World} {t : TypeId} {cs : Array Value} {n : Nat} (hn : W.heap.size = n) : Blk (W.alloc (.cells cs t)) n t cs := by subst hn; exact Blk.new W t cs
theorem own_new' {w : World} {base e n : Nat} (size : Nat) (hn : w.heap.size = n) (hb : base ≤ n) : (w.alloc (.cells #[] e)).ownsRow base e size (.slice (some ⟨n, 0, none⟩) 0 0) 0 [] := by subst hn; exact own_new size hb
theorem balloc {w1 W : World} (h : Below w1.heap.size w1 W) (o : Obj) : Below w1.heap.size w1 (W.alloc o) := h.alloc h.size o
theorem bgrown {w1 W W' : World} {row : Option Nat} (h : Below w1.heap.size w1 W) (hg : W.grownBy W' row) (hr : ∀ k, row = some k → w1.heap.size ≤ k) : Below w1.heap.size w1 W' := h.grown hg h.size hr
theorem bown {w1 W W' : World} {e size n : Nat} {v : Value} {xs : List Value} (h : Below w1.heap.size w1 W) (hr : W.ownsRow w1.heap.size e size v n xs) (hg : W.grownBy W' v.ownBlock) : Below w1.heap.size w1 W' := bgrown h hg fun k hk => (hr.lt k hk).1
end Go.Proofs.YtgoojcjfhghmgaaDoor
