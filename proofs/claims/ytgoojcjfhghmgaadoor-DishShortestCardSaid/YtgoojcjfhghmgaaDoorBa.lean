/- Words for slices of ints and of batches in a world, and small lemmas on them; nothing of the program. -/
import Derived.WalkKit
import Derived.Lib.Hide
import Derived.Maps.AppendAt
import Derived.Deep.Draws
import Derived.ProofKit
import Derived.Deep.AppendLies
import Derived.Laws.OwnMore
import Derived.Deep.Slices
import Derived.Deep.Fields
import Derived.ChangeOld
import Derived.OpenShut

namespace Go.Proofs.YtgoojcjfhghmgaaDoor
open Go.RowKit

/-- The slice that begins at A holds n elements of s cells each, cell j of element k being f k j; all lies below block B. -/
def ElsAt (B : Nat) (w : World) (A : Option Addr) (s n : Nat) (f : Nat → Nat → Value) : Prop :=
  ∀ k, k < n → ∃ b off, A = some ⟨b, off, none⟩ ∧ b < B ∧ ∀ j, j < s → w.cell? ⟨b, off + k * s + j, none⟩ = some (f k j)

theorem ElsAt.keep {B B' : Nat} {w w' : World} {A : Option Addr} {s n : Nat} {f : Nat → Nat → Value} (h : ElsAt B w A s n f) (hB : B ≤ B') (hk : ∀ p : Addr, p.block < B → w'.cell? p = w.cell? p) : ElsAt B' w' A s n f := by
  intro k hkn
  obtain ⟨b, off, e, hb, hc⟩ := h k hkn
  exact ⟨b, off, e, by omega, fun j hj => (hk _ hb).trans (hc j hj)⟩
theorem ElsAt.below {B B' : Nat} {w w' : World} {A : Option Addr} {s n : Nat} {f : Nat → Nat → Value} (h : ElsAt B w A s n f) (hb : Below B w w') (hB : B ≤ B') : ElsAt B' w' A s n f :=
  h.keep hB fun _ hp => hb.cell hp
theorem ElsAt.nil (B : Nat) (w : World) (A : Option Addr) (s : Nat) (f : Nat → Nat → Value) : ElsAt B w A s 0 f := fun k hk => by omega
theorem ElsAt.congr {B : Nat} {w : World} {A : Option Addr} {s n : Nat} {f g : Nat → Nat → Value} (h : ElsAt B w A s n f) (e : ∀ k j, k < n → j < s → f k j = g k j) : ElsAt B w A s n g := by
  intro k hkn
  obtain ⟨b, off, e', hb, hc⟩ := h k hkn
  exact ⟨b, off, e', hb, fun j hj => by rw [hc j hj, e k j hkn hj]⟩

/-- A slice of ints. -/
def IntsAt (B : Nat) (w : World) (A : Option Addr) (zs : List Int) : Prop := ElsAt B w A 1 zs.length fun k _ => .int .i64 (zs[k]?.getD 0)
theorem IntsAt.below {B B' : Nat} {w w' : World} {A : Option Addr} {zs : List Int} (h : IntsAt B w A zs) (hb : Below B w w') (hB : B ≤ B') : IntsAt B' w' A zs := ElsAt.below h hb hB
theorem IntsAt.keep {B B' : Nat} {w w' : World} {A : Option Addr} {zs : List Int} (h : IntsAt B w A zs) (hB : B ≤ B') (hk : ∀ p : Addr, p.block < B → w'.cell? p = w.cell? p) : IntsAt B' w' A zs := ElsAt.keep h hB hk
theorem IntsAt.nil (B : Nat) (w : World) (A : Option Addr) : IntsAt B w A [] := ElsAt.nil _ _ _ _ _
/-- The cell of element k. -/
theorem IntsAt.at {B : Nat} {w : World} {A : Option Addr} {zs : List Int} (h : IntsAt B w A zs) {k : Nat} (hk : k < zs.length) :
    ∃ b off, A = some ⟨b, off, none⟩ ∧ b < B ∧ w.cell? ⟨b, off + k, none⟩ = some (.int .i64 zs[k]) := by
  obtain ⟨b, off, e, hb, hc⟩ := h k hk
  have := hc 0 (by omega)
  simp only [Nat.mul_one, Nat.add_zero] at this
  exact ⟨b, off, e, hb, by rw [this]; simp [hk]⟩
theorem IntsAt.cells {B : Nat} {w : World} {b off : Nat} {zs : List Int} (h : IntsAt B w (some ⟨b, off, none⟩) zs) {k : Nat} (hk : k < zs.length) : b < B ∧ w.cell? ⟨b, off + k, none⟩ = some (.int .i64 zs[k]) := by
  obtain ⟨b', off', e, hb, hc⟩ := h.at hk
  cases e
  exact ⟨hb, hc⟩

/-- A slice of pairs of ints. -/
def PairsAt (B : Nat) (w : World) (A : Option Addr) (l : List (Int × Int)) : Prop := ElsAt B w A 2 l.length fun k j => .int .i64 (if j = 0 then (l[k]?.getD (0, 0)).1 else (l[k]?.getD (0, 0)).2)
theorem PairsAt.below {B B' : Nat} {w w' : World} {A : Option Addr} {l : List (Int × Int)} (h : PairsAt B w A l) (hb : Below B w w') (hB : B ≤ B') : PairsAt B' w' A l := ElsAt.below h hb hB
theorem PairsAt.at {B : Nat} {w : World} {A : Option Addr} {l : List (Int × Int)} (h : PairsAt B w A l) {k : Nat} (hk : k < l.length) :
    ∃ b off, A = some ⟨b, off, none⟩ ∧ b < B ∧ w.cell? ⟨b, off + k * 2, none⟩ = some (.int .i64 l[k].1) ∧ w.cell? ⟨b, off + k * 2 + 1, none⟩ = some (.int .i64 l[k].2) := by
  obtain ⟨b, off, e, hb, hc⟩ := h k hk
  have h0 := hc 0 (by omega)
  have h1 := hc 1 (by omega)
  simp only [Nat.add_zero] at h0
  exact ⟨b, off, e, hb, by rw [h0]; simp [hk], by rw [h1]; simp [hk]⟩

/-- What the call owns reads as a slice. -/
theorem ElsAt.of_own {w : World} {base e c s n : Nat} {A : Option Addr} {xs : List Value} {f : Nat → Nat → Value} (h : w.ownsRow base e s (.slice A n c) n xs) (hf : ∀ k j, k < n → j < s → xs[k * s + j]? = some (f k j)) : ElsAt w.heap.size w A s n f := by
  intro k hk
  rcases h.2 with ⟨_, h0⟩ | ⟨g, cap, cur, hv, _⟩
  · omega
  · have hA : A = some ⟨g, 0, none⟩ := by injection hv
    subst hA
    refine ⟨g, 0, rfl, (h.lt g rfl).2, fun j hj => ?_⟩
    have := h.cells (g := g) rfl (k * s + j) (f k j) (hf k j hk hj)
    rw [Addr.add_lit] at this
    simpa [Nat.add_assoc] using this
theorem IntsAt.of_own {w : World} {base e c : Nat} {A : Option Addr} {zs : List Int} (h : w.ownsRow base e 1 (.slice A zs.length c) zs.length (zs.map (Value.int .i64))) : IntsAt w.heap.size w A zs :=
  ElsAt.of_own h fun k j hk hj => by
    obtain rfl : j = 0 := by omega
    simp [hk]
/-- The form of an owned value. -/
theorem own_form {w : World} {base e s n : Nat} {v : Value} {xs : List Value} (h : w.ownsRow base e s v n xs) : ∃ A c, v = .slice A n c := by
  rcases h.2 with ⟨rfl, rfl⟩ | ⟨g, cap, cur, rfl, _⟩
  · exact ⟨none, 0, rfl⟩
  · exact ⟨_, cap, rfl⟩
theorem IntsAt.of_own' {w : World} {base e : Nat} {v : Value} {zs : List Int} (h : w.ownsRow base e 1 v zs.length (zs.map (Value.int .i64))) : ∃ A c, v = .slice A zs.length c ∧ IntsAt w.heap.size w A zs := by
  obtain ⟨A, c, rfl⟩ := own_form h
  exact ⟨A, c, rfl, IntsAt.of_own h⟩

theorem bcell {w w1 : World} {B : Nat} (hb : Below B w w1) : ∀ b o, b < B → w1.cell? ⟨b, o, none⟩ = w.cell? ⟨b, o, none⟩ := fun b o h => hb.cell (p := ⟨b, o, none⟩) h
theorem ret_int {k : IntKind} {a b : Int} (h : a = b) : Ending.returned (.int k a) = .returned (.int k b) := by rw [h]
theorem ret_bool {a b : Bool} (h : a = b) : Ending.returned (.bool a) = .returned (.bool b) := by rw [h]
theorem cell_lt {w : World} {a : Addr} {v : Value} (h : w.cell? a = some v) : a.block < w.heap.size := by
  rcases Nat.lt_or_ge a.block w.heap.size with h1 | h1
  · exact h1
  · simp [World.cell?, Array.getElem?_eq_none h1] at h
end Go.Proofs.YtgoojcjfhghmgaaDoor

/- Slices of rows of ints in a world. -/
namespace Go.Proofs.YtgoojcjfhghmgaaDoor
open Go.RowKit

/-- A slice of rows of s ints each. -/
def RowsAt (B : Nat) (w : World) (A : Option Addr) (s : Nat) (rs : List (List Int)) : Prop := ElsAt B w A s rs.length fun k j => .int .i64 ((rs[k]?.getD [])[j]?.getD 0)
theorem RowsAt.below {B B' s : Nat} {w w' : World} {A : Option Addr} {rs : List (List Int)} (h : RowsAt B w A s rs) (hb : Below B w w') (hB : B ≤ B') : RowsAt B' w' A s rs := ElsAt.below h hb hB
theorem flat_get (s : Nat) : ∀ (rs : List (List Int)), (∀ r ∈ rs, r.length = s) → ∀ k j, k < rs.length → j < s → (rs.flatMap fun r => r.map (Value.int .i64))[k * s + j]? = some (.int .i64 ((rs[k]?.getD [])[j]?.getD 0))
  | [], _, k, j, hk, _ => by simp at hk
  | r :: rs, h, k, j, hk, hj => by
    have hr : r.length = s := h r (by simp)
    rw [List.flatMap_cons]
    cases k with
    | zero =>
      rw [List.getElem?_append_left (by simp; omega)]
      simp [List.getElem?_eq_getElem (show j < r.length by omega)]
    | succ k =>
      rw [List.getElem?_append_right (by simp [hr, Nat.succ_mul]; omega)]
      have := flat_get s rs (fun r hr => h r (by simp [hr])) k j (by simpa using hk) hj
      rw [show (k + 1) * s + j - (r.map (Value.int .i64)).length = k * s + j by simp [hr, Nat.succ_mul]; omega, this]
      simp
theorem RowsAt.of_own {w : World} {base e c s : Nat} {A : Option Addr} {rs : List (List Int)} (hs : ∀ r ∈ rs, r.length = s) (h : w.ownsRow base e s (.slice A rs.length c) rs.length (rs.flatMap fun r => r.map (Value.int .i64))) : RowsAt w.heap.size w A s rs :=
  ElsAt.of_own h fun k j hk hj => flat_get s rs hs k j hk hj


/-- A block that is known whole. -/
def Blk (w : World) (g : Nat) (t : TypeId) (cs : Array Value) : Prop := w.heap[g]? = some (.cells cs t (0, 0))
section
variable {w w' : World} {g : Nat} {t : TypeId} {cs : Array Value}
theorem Blk.lt (h : Blk w g t cs) : g < w.heap.size := (Array.getElem?_eq_some_iff.1 h).1
theorem Blk.cell (h : Blk w g t cs) (i : Nat) : w.cell? ⟨g, i, none⟩ = cs[i]? := by unfold Blk at h; simp [World.cell?, h]
theorem Blk.frozen (h : Blk w g t cs) (i : Nat) : w.frozen? ⟨g, i, none⟩ = false := by unfold Blk at h; simp [World.frozen?, h]
theorem Blk.new (w : World) (t : TypeId) (cs : Array Value) : Blk (w.alloc (.cells cs t)) w.heap.size t cs := by
  show (w.heap.push _)[w.heap.size]? = _
  simp
theorem Blk.drew (h : Blk w g t cs) : Blk w.drew g t cs := h
theorem Blk.drewN (h : Blk w g t cs) (n : Nat) : Blk (w.drewN n) g t cs := h
theorem Blk.alloc (h : Blk w g t cs) (o : Obj) : Blk (w.alloc o) g t cs := (Below.heap_alloc w o g h.lt).trans h
theorem Blk.put (h : Blk w g t cs) (i : Nat) (u : Value) : Blk (w.setCell ⟨g, i, none⟩ u) g t (cs.setIfInBounds i u) := by
  unfold Blk at h ⊢
  simp [World.setCell, Array.getElem?_modify, h]
theorem Blk.far (h : Blk w g t cs) {p : Addr} (hp : g ≠ p.block) (u : Value) : Blk (w.setCell p u) g t cs := (Below.heap_setCell w p u g hp).trans h
theorem Blk.below {B : Nat} (h : Blk w g t cs) (hb : Below B w w') (hg : g < B) : Blk w' g t cs := (hb.block g hg).trans h
theorem Blk.grown {row : Option Nat} (h : Blk w g t cs) (hb : w.grownBy w' row) (hg : some g ≠ row) : Blk w' g t cs := (hb.block g h.lt hg).trans h
/-- A row of another element type lies elsewhere. -/
theorem Blk.ne_row {base e size n : Nat} {v : Value} {xs : List Value} (h : Blk w g t cs) (hr : w.ownsRow base e size v n xs) (hne : e ≠ t) : some g ≠ v.ownBlock := by
  rcases hr.2 with ⟨rfl, _⟩ | ⟨g', cap, cur, rfl, _, hh, _⟩
  · simp [Value.ownBlock]
  · intro he
    obtain rfl : g = g' := by simpa [Value.ownBlock] using he
    unfold Blk at h
    rw [h] at hh
    injection hh with hh
    injection hh with _ ht
    exact hne ht.symm
end

/-- Only block g, and what is new, has turned. -/
def Only (g : Nat) (a w : World) : Prop := a.grownBy w (some g)
namespace Only
variable {a w w' : World} {g : Nat}
theorem refl (g : Nat) (a : World) : Only g a a := World.grownBy.refl a _
theorem drew (h : Only g a w) : Only g a w.drew := ⟨h.os, h.tape, h.output, h.size, h.block⟩
theorem drewN (h : Only g a w) (n : Nat) : Only g a (w.drewN n) := ⟨h.os, h.tape, h.output, h.size, h.block⟩
theorem alloc (h : Only g a w) (o : Obj) : Only g a (w.alloc o) :=
  ⟨h.os, h.tape, h.output, Nat.le_trans h.size (by simp), fun i hi hne => (Below.heap_alloc w o i (Nat.lt_of_lt_of_le hi h.size)).trans (h.block i hi hne)⟩
theorem put (h : Only g a w) (i : Nat) (u : Value) : Only g a (w.setCell ⟨g, i, none⟩ u) :=
  ⟨h.os, h.tape, h.output, by simpa [World.setCell] using h.size, fun i hi hne => (Below.heap_setCell w _ u i (fun e => hne (by rw [e]))).trans (h.block i hi hne)⟩
theorem trans (h : Only g a w) (h' : Only g w w') : Only g a w' :=
  ⟨h'.os.trans h.os, h'.tape.trans h.tape, h'.output.trans h.output, Nat.le_trans h.size h'.size, fun i hi hne => (h'.block i (Nat.lt_of_lt_of_le hi h.size) hne).trans (h.block i hi hne)⟩
theorem of_below (h : Below a.heap.size a w) (g : Nat) : Only g a w := ⟨h.os, h.tape, h.output, h.size, fun i hi _ => h.block i hi⟩
theorem below (h : Only g a w) {B : Nat} (hg : B ≤ g) (hB : B ≤ a.heap.size) : Below B a w :=
  ⟨h.os, h.tape, h.output, h.size, fun k hk => h.block k (by omega) (fun e => by injection e; omega)⟩
theorem own (h : Only g a w) {base e size n : Nat} {v : Value} {xs : List Value} (hr : a.ownsRow base e size v n xs) (hne : some g ≠ v.ownBlock) : w.ownsRow base e size v n xs :=
  hr.kept h (.inr (Ne.symm hne))
theorem cell (h : Only g a w) {p : Addr} (hp : p.block < a.heap.size) (hne : p.block ≠ g) : w.cell? p = a.cell? p := World.cell?_of_block (h.block p.block hp (fun e => hne (by injection e)))
end Only
theorem own_ne {w : World} {g base e size n : Nat} {v : Value} {xs : List Value} (hr : w.ownsRow base e size v n xs) (hg : g < base) : some g ≠ v.ownBlock := fun h => by
  have := (hr.lt g h.symm).1; omega
theorem own_base {w : World} {base base' e size n : Nat} {v : Value} {xs : List Value} (h : w.ownsRow base e size v n xs) (hb : base' ≤ base) : w.ownsRow base' e size v n xs := by
  refine ⟨h.1, ?_⟩
  rcases h.2 with hn | ⟨g, cap, cur, hv, hbg, rest⟩
  · exact .inl hn
  · exact .inr ⟨g, cap, cur, hv, Nat.le_trans hb hbg, rest⟩
/-- The cells of a new block, as what is appended. -/
theorem cells_new (w : World) (xs : List Value) (t : TypeId) : ∀ j u, xs[j]? = some u → (w.alloc (.cells xs.toArray t)).cell? ((⟨w.heap.size, 0, none⟩ : Addr).add j) = some u := by
  intro j u hj
  rw [Addr.add_lit]
  have := (Blk.new w t xs.toArray).cell (0 + j)
  rw [this]; simpa using hj
theorem cells_new' (w : World) (n : Nat) (hn : n = w.heap.size) (xs : List Value) (t : TypeId) : ∀ j u, xs[j]? = some u → (w.alloc (.cells xs.toArray t)).cell? ((⟨n, 0, none⟩ : Addr).add j) = some u := by
  subst hn; exact cells_new w xs t
theorem blk1 {w : World} {g : Nat} {t : TypeId} {x0 : Value} (h : Blk w g t #[x0]) : w.cell? ⟨g, 0, none⟩ = some x0 ∧ w.frozen? ⟨g, 0, none⟩ = false :=
  ⟨h.cell 0, h.frozen 0⟩
theorem blk2 {w : World} {g : Nat} {t : TypeId} {x0 x1 : Value} (h : Blk w g t #[x0, x1]) : w.cell? ⟨g, 0, none⟩ = some x0 ∧ w.cell? ⟨g, 1, none⟩ = some x1 ∧ w.frozen? ⟨g, 0, none⟩ = false ∧ w.frozen? ⟨g, 1, none⟩ = false :=
  ⟨h.cell 0, h.cell 1, h.frozen 0, h.frozen 1⟩
theorem blk3 {w : World} {g : Nat} {t : TypeId} {x0 x1 x2 : Value} (h : Blk w g t #[x0, x1, x2]) : w.cell? ⟨g, 0, none⟩ = some x0 ∧ w.cell? ⟨g, 1, none⟩ = some x1 ∧ w.cell? ⟨g, 2, none⟩ = some x2 ∧ w.frozen? ⟨g, 0, none⟩ = false ∧ w.frozen? ⟨g, 1, none⟩ = false ∧ w.frozen? ⟨g, 2, none⟩ = false :=
  ⟨h.cell 0, h.cell 1, h.cell 2, h.frozen 0, h.frozen 1, h.frozen 2⟩
theorem blk4 {w : World} {g : Nat} {t : TypeId} {x0 x1 x2 x3 : Value} (h : Blk w g t #[x0, x1, x2, x3]) : w.cell? ⟨g, 0, none⟩ = some x0 ∧ w.cell? ⟨g, 1, none⟩ = some x1 ∧ w.cell? ⟨g, 2, none⟩ = some x2 ∧ w.cell? ⟨g, 3, none⟩ = some x3 ∧ w.frozen? ⟨g, 0, none⟩ = false ∧ w.frozen? ⟨g, 1, none⟩ = false ∧ w.frozen? ⟨g, 2, none⟩ = false ∧ w.frozen? ⟨g, 3, none⟩ = false :=
  ⟨h.cell 0, h.cell 1, h.cell 2, h.cell 3, h.frozen 0, h.frozen 1, h.frozen 2, h.frozen 3⟩
theorem blk5 {w : World} {g : Nat} {t : TypeId} {x0 x1 x2 x3 x4 : Value} (h : Blk w g t #[x0, x1, x2, x3, x4]) : w.cell? ⟨g, 0, none⟩ = some x0 ∧ w.cell? ⟨g, 1, none⟩ = some x1 ∧ w.cell? ⟨g, 2, none⟩ = some x2 ∧ w.cell? ⟨g, 3, none⟩ = some x3 ∧ w.cell? ⟨g, 4, none⟩ = some x4 ∧ w.frozen? ⟨g, 0, none⟩ = false ∧ w.frozen? ⟨g, 1, none⟩ = false ∧ w.frozen? ⟨g, 2, none⟩ = false ∧ w.frozen? ⟨g, 3, none⟩ = false ∧ w.frozen? ⟨g, 4, none⟩ = false :=
  ⟨h.cell 0, h.cell 1, h.cell 2, h.cell 3, h.cell 4, h.frozen 0, h.frozen 1, h.frozen 2, h.frozen 3, h.frozen 4⟩
theorem blk6 {w : World} {g : Nat} {t : TypeId} {x0 x1 x2 x3 x4 x5 : Value} (h : Blk w g t #[x0, x1, x2, x3, x4, x5]) : w.cell? ⟨g, 0, none⟩ = some x0 ∧ w.cell? ⟨g, 1, none⟩ = some x1 ∧ w.cell? ⟨g, 2, none⟩ = some x2 ∧ w.cell? ⟨g, 3, none⟩ = some x3 ∧ w.cell? ⟨g, 4, none⟩ = some x4 ∧ w.cell? ⟨g, 5, none⟩ = some x5 ∧ w.frozen? ⟨g, 0, none⟩ = false ∧ w.frozen? ⟨g, 1, none⟩ = false ∧ w.frozen? ⟨g, 2, none⟩ = false ∧ w.frozen? ⟨g, 3, none⟩ = false ∧ w.frozen? ⟨g, 4, none⟩ = false ∧ w.frozen? ⟨g, 5, none⟩ = false :=
  ⟨h.cell 0, h.cell 1, h.cell 2, h.cell 3, h.cell 4, h.cell 5, h.frozen 0, h.frozen 1, h.frozen 2, h.frozen 3, h.frozen 4, h.frozen 5⟩
end Go.Proofs.YtgoojcjfhghmgaaDoor

/- append of any slice, at a step of a region that draws its order. -/
namespace Go.Proofs.YtgoojcjfhghmgaaDoor
open Go.RowKit

section
variable {P : Program} (w : World)
theorem run_app (base : Nat) (t ty e : TypeId) (i : TypeInfo) (z : Value) (size bytes : Nat) (ht : P.underlying t = some (.slice e)) (hi : P.info? e = some i) (hz : i.zero = some z)
    (hsize : i.size = size) (hby : i.bytes = bytes) (hzs : z.cells.size = size) (hsz : 0 < size)
    (v : Value) (n : Nat) (xs : List Value) (hown : w.ownsRow base e size v n xs)
    (A : Option Addr) (m c : Nat) (news : List Value) (hl : news.length = m * size) (hA : A = none → m = 0) (hnews : ∀ ad, A = some ad → ∀ j u, news[j]? = some u → w.cell? (ad.add j) = some u) (h1 : ∀ u ∈ news, u.oneCell' = true)
    (h63 : n + m ≤ maxLen) (hbytes : (n + m) * bytes ≤ 140737488355328) (hbase : base ≤ w.heap.size) :
    ∃ A' c' w', (Builtin.append_ #[t, t] ty #[v, .slice A m c]).run P w = .ok (.slice A' (n + m) c') w' ∧ w'.ownsRow base e size (.slice A' (n + m) c') (n + m) (xs ++ news) ∧ w.grownBy w' v.ownBlock ∧ (v.ownBlock = none ∨ (∃ a, A' = some a ∧ (v.ownBlock = some a.block ∨ a.block = w.heap.size)) ∨ A' = none) := by
  cases A with
  | some ad =>
    obtain ⟨v', w', hr, h2, h3, _, h5⟩ := run_append_own_at (P := P) w base t ty e i z size bytes ht hi hz hsize hby hzs hsz v n xs hown ad m c news hl (hnews ad rfl) h1 h63 hbytes hbase
    obtain ⟨A', c', rfl⟩ := own_form h2
    refine ⟨A', c', w', hr, h2, h3, ?_⟩
    cases A' with
    | none => exact .inr (.inr rfl)
    | some a =>
      rcases h5 with h5 | h5
      · exact .inr (.inl ⟨a, rfl, .inl (by rw [← h5]; rfl)⟩)
      · exact .inr (.inl ⟨a, rfl, .inr (by simpa [Value.ownBlock] using h5)⟩)
  | none =>
    obtain rfl := hA rfl
    have hn : news = [] := List.eq_nil_of_length_eq_zero (by simpa using hl)
    subst hn
    have hrun : (Builtin.append_ #[t, t] ty #[v, .slice none 0 c]).run P w = .ok v w := by
      rcases hown.2 with ⟨rfl, rfl⟩ | ⟨g, cap, cur, rfl, _, _, hnc, _⟩
      · simp [Builtin.append_, run_underlying ht, sizeOf, typeInfo, hi, Builtin.lenOf, Builtin.firstCells]
      · simp [Builtin.append_, run_underlying ht, sizeOf, typeInfo, hi, Builtin.lenOf, Builtin.firstCells, hnc, storeCells]
    obtain ⟨A', c', rfl⟩ := own_form hown
    refine ⟨A', c', w, hrun, by simpa using hown, World.grownBy.refl _ _, ?_⟩
    cases A' with
    | none => exact .inl rfl
    | some a => exact .inr (.inl ⟨a, rfl, .inl rfl⟩)

theorem step_app {ops : Array Oper} {o : Oper} {a : Act} {K : Act → World → Prop} {Q : Exit → Act → World → Prop} {E : Prop} (hgd : o.guard = none) (s x : Operand) (t : TypeId)
    (ho : o.op = .call { callee := .builtin .append, args := #[s, x], argTypes := #[t, t] })
    (base : Nat) (e : TypeId) (i : TypeInfo) (z : Value) (size bytes : Nat) (ht : P.underlying t = some (.slice e)) (hi : P.info? e = some i) (hz : i.zero = some z)
    (hsize : i.size = size) (hby : i.bytes = bytes) (hzs : z.cells.size = size) (hsz : 0 < size)
    (v : Value) (n : Nat) (xs : List Value) (hs : a.eval s = v) (hown : w.ownsRow base e size v n xs)
    (A : Option Addr) (m c : Nat) (news : List Value) (hx : a.eval x = .slice A m c) (hl : news.length = m * size) (hA : A = none → m = 0) (hnews : ∀ ad, A = some ad → ∀ j u, news[j]? = some u → w.cell? (ad.add j) = some u) (h1 : ∀ u ∈ news, u.oneCell' = true)
    (h63 : n + m ≤ maxLen) (hbytes : (n + m) * bytes ≤ 140737488355328) (hbase : base ≤ w.heap.size)
    (h : ∀ A' c' w', w'.ownsRow base e size (.slice A' (n + m) c') (n + m) (xs ++ news) → w.grownBy w' v.ownBlock → (v.ownBlock = none ∨ (∃ a, A' = some a ∧ (v.ownBlock = some a.block ∨ a.block = w.heap.size)) ∨ A' = none) → K (a.put o.dst (.slice A' (n + m) c')) w') :
    if Region.wanted o (yielded ops a.tmps) = true then Oper.wp P o a w K Q else E := by
  have hw : Region.wanted o (yielded ops a.tmps) = true := by simp [Region.wanted, hgd]
  rw [if_pos hw]
  obtain ⟨A', c', w', hr, h2, h3, h4⟩ := run_app (P := P) w base t o.type e i z size bytes ht hi hz hsize hby hzs hsz v n xs hown A m c news hl hA hnews h1 h63 hbytes hbase
  unfold Oper.wp execOp
  simp only [ho, resolve, invoke, builtin, Sem.run_bind, Sem.run_pure, Result.andThen_ok, List.map_toArray, List.map_cons, List.map_nil, hs, hx, hr]
  exact h A' c' w' h2 h3 h4
end

/-- The cells of pairs. -/
def flat2 (l : List (Int × Int)) : List Value := l.flatMap fun x => [.int .i64 x.1, .int .i64 x.2]
theorem flat2_length (l : List (Int × Int)) : (flat2 l).length = l.length * 2 := by
  induction l with
  | nil => rfl
  | cons x l ih => simp only [flat2, List.flatMap_cons, List.length_append, List.length_cons, List.length_nil] at ih ⊢; omega
theorem flat2_one (l : List (Int × Int)) : ∀ u ∈ flat2 l, u.oneCell' = true := by
  intro u hu
  simp only [flat2, List.mem_flatMap] at hu
  obtain ⟨x, _, hx⟩ := hu
  simp at hx
  rcases hx with rfl | rfl <;> rfl
theorem flat2_get : ∀ (l : List (Int × Int)) (k j : Nat), k < l.length → j < 2 → (flat2 l)[k * 2 + j]? = some (.int .i64 (if j = 0 then (l[k]?.getD (0, 0)).1 else (l[k]?.getD (0, 0)).2))
  | [], k, j, hk, _ => by simp at hk
  | x :: l, k, j, hk, hj => by
    cases k with
    | zero =>
      have : j = 0 ∨ j = 1 := by omega
      rcases this with rfl | rfl <;> simp [flat2]
    | succ k =>
      have := flat2_get l k j (by simpa using hk) hj
      rw [show (k + 1) * 2 + j = (k * 2 + j) + 2 by omega]
      simp only [flat2, List.flatMap_cons] at this ⊢
      rw [List.getElem?_append_right (by simp)]
      simpa using this
theorem flat2_append (l m : List (Int × Int)) : flat2 (l ++ m) = flat2 l ++ flat2 m := by simp [flat2]
theorem PairsAt.news {B : Nat} {w : World} {A : Option Addr} {l : List (Int × Int)} (h : PairsAt B w A l) : ∀ ad, A = some ad → ∀ j u, (flat2 l)[j]? = some u → w.cell? (ad.add j) = some u := by
  intro ad hA j u hj
  have hlt : j < l.length * 2 := by rw [← flat2_length]; exact (List.getElem?_eq_some_iff.1 hj).1
  obtain ⟨b, off, e, hb, hc⟩ := h (j / 2) (by omega)
  obtain rfl : ad = ⟨b, off, none⟩ := by rw [hA] at e; injection e
  have h1 := hc (j % 2) (by omega)
  have h2 := flat2_get l (j / 2) (j % 2) (by omega) (by omega)
  rw [Addr.add_lit]
  rw [show off + j / 2 * 2 + j % 2 = off + j by omega] at h1
  rw [show j / 2 * 2 + j % 2 = j by omega] at h2
  rw [h1, ← hj, h2]
theorem PairsAt.none_nil {B : Nat} {w : World} {A : Option Addr} {l : List (Int × Int)} (h : PairsAt B w A l) : A = none → l.length = 0 := by
  intro hA
  cases hl : l.length with
  | zero => rfl
  | succ n =>
    obtain ⟨b, off, e, _⟩ := h 0 (by omega)
    rw [hA] at e; cases e
theorem PairsAt.of_own {w : World} {base e c : Nat} {A : Option Addr} {l : List (Int × Int)} (h : w.ownsRow base e 2 (.slice A l.length c) l.length (flat2 l)) : PairsAt w.heap.size w A l :=
  ElsAt.of_own h fun k j hk hj => flat2_get l k j hk hj
theorem own_new {w : World} {base e : Nat} (size : Nat) (hb : base ≤ w.heap.size) : (w.alloc (.cells #[] e)).ownsRow base e size (.slice (some ⟨w.heap.size, 0, none⟩) 0 0) 0 [] :=
  World.ownsRow_made w #[] 0 hb (by simp [maxLen]) (by simp)
end Go.Proofs.YtgoojcjfhghmgaaDoor

/- append at a step of a region that draws its order, what has come named. -/
namespace Go.Proofs.YtgoojcjfhghmgaaDoor
open Go.RowKit

theorem step_app' {P : Program} (w : World) {ops : Array Oper} {o : Oper} {a : Act} {K : Act → World → Prop} {Q : Exit → Act → World → Prop} {E : Prop} (hgd : o.guard = none) (s x : Operand) (t : TypeId)
    (ho : o.op = .call { callee := .builtin .append, args := #[s, x], argTypes := #[t, t] })
    (base : Nat) (e : TypeId) (i : TypeInfo) (z : Value) (size bytes : Nat) (ht : P.underlying t = some (.slice e)) (hi : P.info? e = some i) (hz : i.zero = some z)
    (hsize : i.size = size) (hby : i.bytes = bytes) (hzs : z.cells.size = size) (hsz : 0 < size)
    (v : Value) (n : Nat) (xs : List Value) (hs : a.eval s = v) (hown : w.ownsRow base e size v n xs)
    (A : Option Addr) (m c : Nat) (news : List Value) (hx : a.eval x = .slice A m c) (hl : news.length = m * size) (hA : A = none → m = 0) (hnews : ∀ ad, A = some ad → ∀ j u, news[j]? = some u → w.cell? (ad.add j) = some u) (h1 : ∀ u ∈ news, u.oneCell' = true)
    (h63 : n + m ≤ 1000000) (hbytes : bytes ≤ 1000) (hbase : base ≤ w.heap.size) (N : Nat) (hN : n + m = N) (ys : List Value) (hys : xs ++ news = ys)
    (h : ∀ A' c' w', w'.ownsRow base e size (.slice A' N c') N ys → w.grownBy w' v.ownBlock → (∀ k, v.ownBlock = some k → base ≤ k) → K (a.put o.dst (.slice A' N c')) w') :
    if Region.wanted o (yielded ops a.tmps) = true then Oper.wp P o a w K Q else E := by
  subst hN hys
  exact step_app w hgd s x t ho base e i z size bytes ht hi hz hsize hby hzs hsz v n xs hs hown A m c news hx hl hA hnews h1 (by simp only [maxLen]; omega)
    (Nat.le_trans (Nat.mul_le_mul h63 hbytes) (by decide)) hbase fun A' c' w' h2 h3 _ => h A' c' w' h2 h3 fun k hk => (hown.lt k hk).1

theorem news_blk {W : World} {g : Nat} {t : TypeId} {cs : Array Value} (h : Blk W g t cs) : ∀ ad, some (⟨g, 0, none⟩ : Addr) = some ad → ∀ j u, cs.toList[j]? = some u → W.cell? (ad.add j) = some u := by
  intro ad had j u hj
  injection had with had
  subst had
  rw [Addr.add_lit, h.cell]
  simpa using hj
theorem blk_new' {W : World} {t : TypeId} {cs : Array Value} {n : Nat} (hn : W.heap.size = n) : Blk (W.alloc (.cells cs t)) n t cs := by subst hn; exact Blk.new W t cs
theorem own_new' {w : World} {base e n : Nat} (size : Nat) (hn : w.heap.size = n) (hb : base ≤ n) : (w.alloc (.cells #[] e)).ownsRow base e size (.slice (some ⟨n, 0, none⟩) 0 0) 0 [] := by subst hn; exact own_new size hb
theorem balloc {w1 W : World} (h : Below w1.heap.size w1 W) (o : Obj) : Below w1.heap.size w1 (W.alloc o) := h.alloc h.size o
theorem bgrown {w1 W W' : World} {row : Option Nat} (h : Below w1.heap.size w1 W) (hg : W.grownBy W' row) (hr : ∀ k, row = some k → w1.heap.size ≤ k) : Below w1.heap.size w1 W' := h.grown hg h.size hr
theorem bown {w1 W W' : World} {e size n : Nat} {v : Value} {xs : List Value} (h : Below w1.heap.size w1 W) (hr : W.ownsRow w1.heap.size e size v n xs) (hg : W.grownBy W' v.ownBlock) : Below w1.heap.size w1 W' := bgrown h hg fun k hk => (hr.lt k hk).1
end Go.Proofs.YtgoojcjfhghmgaaDoor

/- append of any slice, in a region that keeps its order. -/
namespace Go.Proofs.YtgoojcjfhghmgaaDoor
open Go.RowKit

theorem wpList_app {P : Program} (w : World) {ops : Array Oper} {rest : List Oper} {o : Oper} {a : Act} {Q : Exit → Act → World → Prop} (hgd : o.guard = none) (s x : Operand) (t : TypeId)
    (ho : o.op = .call { callee := .builtin .append, args := #[s, x], argTypes := #[t, t] })
    (base : Nat) (e : TypeId) (i : TypeInfo) (z : Value) (size bytes : Nat) (ht : P.underlying t = some (.slice e)) (hi : P.info? e = some i) (hz : i.zero = some z)
    (hsize : i.size = size) (hby : i.bytes = bytes) (hzs : z.cells.size = size) (hsz : 0 < size)
    (v : Value) (n : Nat) (xs : List Value) (hs : a.eval s = v) (hown : w.ownsRow base e size v n xs)
    (A : Option Addr) (m c : Nat) (news : List Value) (hx : a.eval x = .slice A m c) (hl : news.length = m * size) (hA : A = none → m = 0) (hnews : ∀ ad, A = some ad → ∀ j u, news[j]? = some u → w.cell? (ad.add j) = some u) (h1 : ∀ u ∈ news, u.oneCell' = true)
    (h63 : n + m ≤ 1000000) (hbytes : bytes ≤ 1000) (hbase : base ≤ w.heap.size) (N : Nat) (hN : n + m = N) (ys : List Value) (hys : xs ++ news = ys)
    (h : ∀ A' c' w', w'.ownsRow base e size (.slice A' N c') N ys → w.grownBy w' v.ownBlock → (∀ k, v.ownBlock = some k → base ≤ k) → wpList P ops Q rest (a.put o.dst (.slice A' N c')) w') : wpList P ops Q (o :: rest) a w := by
  subst hN hys
  refine wpList_plain hgd fun K hK => ?_
  obtain ⟨A', c', w', hr, h2, h3, _⟩ := run_app (P := P) w base t o.type e i z size bytes ht hi hz hsize hby hzs hsz v n xs hown A m c news hl hA hnews h1 (by simp only [maxLen]; omega)
    (Nat.le_trans (Nat.mul_le_mul h63 hbytes) (by decide)) hbase
  unfold Oper.wp execOp
  simp only [ho, resolve, invoke, builtin, Sem.run_bind, Sem.run_pure, Result.andThen_ok, List.map_toArray, List.map_cons, List.map_nil, hs, hx, hr]
  exact hK _ _ (h A' c' w' h2 h3 fun k hk => (hown.lt k hk).1)
end Go.Proofs.YtgoojcjfhghmgaaDoor

/- Lists of ints whose slices lie in a row; append that tells where its row lies. -/
namespace Go.Proofs.YtgoojcjfhghmgaaDoor
open Go.RowKit

theorem IntsAt.news {B : Nat} {w : World} {A : Option Addr} {l : List Int} (h : IntsAt B w A l) : ∀ ad, A = some ad → ∀ j u, (l.map (Value.int .i64))[j]? = some u → w.cell? (ad.add j) = some u := by
  intro ad hA j u hj
  have hlt : j < l.length := by simpa using (List.getElem?_eq_some_iff.1 hj).1
  obtain ⟨b, off, e, hb, hc⟩ := h.at hlt
  obtain rfl : ad = ⟨b, off, none⟩ := by rw [hA] at e; injection e
  rw [Addr.add_lit, hc, ← hj]; simp [hlt]
theorem IntsAt.none_nil {B : Nat} {w : World} {A : Option Addr} {l : List Int} (h : IntsAt B w A l) : A = none → l.length = 0 := by
  intro hA
  cases hl : l.length with
  | zero => rfl
  | succ n =>
    obtain ⟨b, off, e, _⟩ := h.at (k := 0) (by omega)
    rw [hA] at e; cases e
theorem IntsAt.take {B : Nat} {w : World} {A : Option Addr} {l : List Int} (h : IntsAt B w A l) (k : Nat) : IntsAt B w A (l.take k) := by
  intro j hj
  simp only [List.length_take] at hj
  obtain ⟨b, off, e, hb, hc⟩ := h j (by omega)
  refine ⟨b, off, e, hb, fun i hi => ?_⟩
  rw [hc i hi]
  simp only [List.getElem?_take]
  rw [if_pos (by omega)]
theorem IntsAt.drop {B : Nat} {w : World} {b off : Nat} {l : List Int} (h : IntsAt B w (some ⟨b, off, none⟩) l) (k : Nat) : IntsAt B w (some ⟨b, off + k, none⟩) (l.drop k) := by
  intro j hj
  simp only [List.length_drop] at hj
  obtain ⟨b', off', e, hb, hc⟩ := h (k + j) (by omega)
  obtain ⟨rfl, rfl⟩ : b = b' ∧ off = off' := by injection e with e; injection e with e1 e2; exact ⟨e1, e2⟩
  refine ⟨b, off + k, rfl, hb, fun i hi => ?_⟩
  have := hc i hi
  simp only [Nat.mul_one] at this ⊢
  rw [show off + k + j + i = off + (k + j) + i by omega, this]
  simp
theorem ints_one (l : List Int) : ∀ u ∈ l.map (Value.int .i64), u.oneCell' = true := by
  intro u hu
  simp only [List.mem_map] at hu
  obtain ⟨x, _, rfl⟩ := hu
  rfl

/-- The values are the slices of the lists; none of them lies in block g. -/
def LstN (g : Option Nat) (w : World) (vs : List Value) (os : List (List Int)) : Prop :=
  vs.length = os.length ∧ ∀ i (h : i < os.length), ∃ A c, vs[i]? = some (.slice A os[i].length c) ∧ IntsAt w.heap.size w A os[i] ∧ (∀ a, A = some a → a.block < w.heap.size ∧ some a.block ≠ g ∧ a.spot = none) ∧ os[i].length ≤ c ∧ c ≤ maxLen
namespace LstN
variable {g g' : Option Nat} {w w' : World} {vs : List Value} {os : List (List Int)}
theorem nil (g : Option Nat) (w : World) : LstN g w [] [] := ⟨rfl, fun i h => by simp at h⟩
theorem below (h : LstN g w vs os) (hb : Below w.heap.size w w') : LstN g w' vs os := by
  refine ⟨h.1, fun i hi => ?_⟩
  obtain ⟨A, c, h1, h2, h3, h4⟩ := h.2 i hi
  exact ⟨A, c, h1, h2.below hb hb.size, fun a ha => ⟨Nat.lt_of_lt_of_le (h3 a ha).1 hb.size, (h3 a ha).2⟩, h4⟩
theorem weak (h : LstN g w vs os) : LstN none w vs os := by
  refine ⟨h.1, fun i hi => ?_⟩
  obtain ⟨A, c, h1, h2, h3, h4⟩ := h.2 i hi
  exact ⟨A, c, h1, h2, fun a ha => ⟨(h3 a ha).1, by simp, (h3 a ha).2.2⟩, h4⟩
theorem grown (h : LstN g w vs os) (hg : w.grownBy w' g) (hg' : ∀ k, g' = some k → g = some k ∨ k = w.heap.size) : LstN g' w' vs os := by
  refine ⟨h.1, fun i hi => ?_⟩
  obtain ⟨A, c, h1, h2, h3, h4⟩ := h.2 i hi
  refine ⟨A, c, h1, ?_, fun a ha => ?_, h4⟩
  · intro k hk
    obtain ⟨b, off, e, hb, hc⟩ := h2 k hk
    refine ⟨b, off, e, Nat.lt_of_lt_of_le hb hg.size, fun j hj => ?_⟩
    rw [World.cell?_of_block (hg.block b hb (fun he => (h3 _ e).2.1 he))]
    exact hc j hj
  · obtain ⟨h5, h6, h7⟩ := h3 a ha
    refine ⟨Nat.lt_of_lt_of_le h5 hg.size, fun he => ?_, h7⟩
    rcases hg' a.block he.symm with h8 | h8
    · exact h6 h8.symm
    · omega
theorem snoc {A : Option Addr} {c : Nat} {o : List Int} (h : LstN g w vs os) (h2 : IntsAt w.heap.size w A o) (h3 : ∀ a, A = some a → a.block < w.heap.size ∧ some a.block ≠ g ∧ a.spot = none) (h4 : o.length ≤ c) (h5 : c ≤ maxLen) :
    LstN g w (vs ++ [.slice A o.length c]) (os ++ [o]) := by
  refine ⟨by simp [h.1], fun i hi => ?_⟩
  simp only [List.length_append, List.length_cons, List.length_nil, Nat.zero_add] at hi
  by_cases hlt : i < os.length
  · obtain ⟨A', c', h1', r⟩ := h.2 i hlt
    rw [List.getElem_append_left hlt, List.getElem?_append_left (by rw [h.1]; exact hlt)]
    exact ⟨A', c', h1', r⟩
  · obtain rfl : i = os.length := by omega
    refine ⟨A, c, ?_, ?_⟩
    · rw [List.getElem?_append_right (by rw [h.1]; exact Nat.le_refl _), h.1]; simp
    · simpa using ⟨h2, h3, h4, h5⟩
end LstN
theorem own_caps {w : World} {base e n c : Nat} {A : Option Addr} {xs : List Value} (h : w.ownsRow base e 1 (.slice A n c) n xs) : n ≤ c ∧ c ≤ maxLen ∧ ∀ a, A = some a → base ≤ a.block ∧ a.block < w.heap.size ∧ a.spot = none := by
  rcases h.2 with ⟨e1, e2⟩ | ⟨g, cap, cur, e1, hb, _, hc, hm, _⟩
  · injection e1 with e1 e3 e4
    subst e1 e4
    exact ⟨by omega, Nat.zero_le _, fun a ha => by cases ha⟩
  · injection e1 with e1 e3 e4
    subst e1 e4
    refine ⟨hc, hm, fun a ha => ?_⟩
    obtain rfl : (⟨g, 0, none⟩ : Addr) = a := by injection ha
    exact ⟨hb, (h.lt g rfl).2, rfl⟩
theorem own_below {w w' : World} {base e size n : Nat} {v : Value} {xs : List Value} (h : w.ownsRow base e size v n xs) (hb : Below w.heap.size w w') : w'.ownsRow base e size v n xs := by
  refine ⟨h.1, ?_⟩
  rcases h.2 with hn | ⟨g, cap, cur, hv, hbg, hh, rest⟩
  · exact .inl hn
  · refine .inr ⟨g, cap, cur, hv, hbg, ?_, rest⟩
    have hlt : g < w.heap.size := (Array.getElem?_eq_some_iff.1 hh).1
    rw [hb.block g hlt]; exact hh

section
variable {P : Program} (w : World)
theorem run_app2 (base : Nat) (t ty e : TypeId) (i : TypeInfo) (z : Value) (size bytes : Nat) (ht : P.underlying t = some (.slice e)) (hi : P.info? e = some i) (hz : i.zero = some z)
    (hsize : i.size = size) (hby : i.bytes = bytes) (hzs : z.cells.size = size) (hsz : 0 < size)
    (v : Value) (n : Nat) (xs : List Value) (hown : w.ownsRow base e size v n xs)
    (ad : Addr) (m c : Nat) (news : List Value) (hl : news.length = m * size) (hnews : ∀ j u, news[j]? = some u → w.cell? (ad.add j) = some u) (h1 : ∀ u ∈ news, u.oneCell' = true)
    (h63 : n + m ≤ maxLen) (hbytes : (n + m) * bytes ≤ 140737488355328) (hbase : base ≤ w.heap.size) :
    ∃ A' c' w', (Builtin.append_ #[t, t] ty #[v, .slice (some ad) m c]).run P w = .ok (.slice A' (n + m) c') w' ∧ w'.ownsRow base e size (.slice A' (n + m) c') (n + m) (xs ++ news) ∧ w.grownBy w' v.ownBlock ∧ (∀ k, (Value.slice A' (n + m) c').ownBlock = some k → v.ownBlock = some k ∨ k = w.heap.size) := by
  obtain ⟨v', w', hr, h2, h3, _, h5⟩ := run_append_own_at (P := P) w base t ty e i z size bytes ht hi hz hsize hby hzs hsz v n xs hown ad m c news hl hnews h1 h63 hbytes hbase
  obtain ⟨A', c', rfl⟩ := own_form h2
  refine ⟨A', c', w', hr, h2, h3, fun k hk => ?_⟩
  rcases h5 with h5 | h5
  · exact .inl (h5.symm.trans hk)
  · rw [h5] at hk; injection hk with hk; exact .inr hk.symm
theorem step_app2 {ops : Array Oper} {o : Oper} {a : Act} {K : Act → World → Prop} {Q : Exit → Act → World → Prop} {E : Prop} (hgd : o.guard = none) (s x : Operand) (t : TypeId)
    (ho : o.op = .call { callee := .builtin .append, args := #[s, x], argTypes := #[t, t] })
    (base : Nat) (e : TypeId) (i : TypeInfo) (z : Value) (size bytes : Nat) (ht : P.underlying t = some (.slice e)) (hi : P.info? e = some i) (hz : i.zero = some z)
    (hsize : i.size = size) (hby : i.bytes = bytes) (hzs : z.cells.size = size) (hsz : 0 < size)
    (v : Value) (n : Nat) (xs : List Value) (hs : a.eval s = v) (hown : w.ownsRow base e size v n xs)
    (ad : Addr) (m c : Nat) (news : List Value) (hx : a.eval x = .slice (some ad) m c) (hl : news.length = m * size) (hnews : ∀ j u, news[j]? = some u → w.cell? (ad.add j) = some u) (h1 : ∀ u ∈ news, u.oneCell' = true)
    (h63 : n + m ≤ 1000000) (hbytes : bytes ≤ 1000) (hbase : base ≤ w.heap.size) (N : Nat) (hN : n + m = N) (ys : List Value) (hys : xs ++ news = ys)
    (h : ∀ A' c' w', w'.ownsRow base e size (.slice A' N c') N ys → w.grownBy w' v.ownBlock → (∀ k, v.ownBlock = some k → base ≤ k) → (∀ k, (Value.slice A' N c').ownBlock = some k → v.ownBlock = some k ∨ k = w.heap.size) → K (a.put o.dst (.slice A' N c')) w') :
    if Region.wanted o (yielded ops a.tmps) = true then Oper.wp P o a w K Q else E := by
  subst hN hys
  have hw : Region.wanted o (yielded ops a.tmps) = true := by simp [Region.wanted, hgd]
  rw [if_pos hw]
  obtain ⟨A', c', w', hr, h2, h3, h4⟩ := run_app2 (P := P) w base t o.type e i z size bytes ht hi hz hsize hby hzs hsz v n xs hown ad m c news hl hnews h1 (by simp only [maxLen]; omega)
    (Nat.le_trans (Nat.mul_le_mul h63 hbytes) (by decide)) hbase
  unfold Oper.wp execOp
  simp only [ho, resolve, invoke, builtin, Sem.run_bind, Sem.run_pure, Result.andThen_ok, List.map_toArray, List.map_cons, List.map_nil, hs, hx, hr]
  exact h A' c' w' h2 h3 (fun k hk => (hown.lt k hk).1) h4
end
end Go.Proofs.YtgoojcjfhghmgaaDoor

/- An argument opened: ints, structs of ints, slices of ints, slices of structs of ints; a law's row out of its walk. -/
namespace Go.Proofs.YtgoojcjfhghmgaaDoor
open Go.RowKit Go.ChangeShapes Go.WideShapes Go.ChangeAt Go.Deep

/-- It fits an int. -/
def I64 (n : Int) : Prop := (Lit.int .i64 n).wf = true

section
variable {H : Type} {enc : TypeId × Value → H} {P : Program} {W : World} {base : Nat} {sp : Nat → Bool} {held : Bool} {fuel : Nat} {t e : TypeId} {cs : List Value} {x : DataW H × List MemPlace}

theorem spot_none {w : World} {a : Addr} {v : Value} (h : w.cell? a = some v) : a.spot = none := by
  cases hs : a.spot with
  | none => rfl
  | some s =>
    have : w.cell? a = none := by
      unfold World.cell?
      split
      · simp [hs]
      · rfl
    rw [this] at h; cases h
theorem add_spot (a : Addr) (n : Nat) : (a.add n).spot = a.spot ∨ (a.add n).spot = none := by
  unfold Addr.add; split <;> simp_all

theorem ElsAt.of_add {w : World} {a : Addr} {s n : Nat} {f : Nat → Nat → Value} (hs : 0 < s) (h : ∀ k, k < n → ∀ j, j < s → w.cell? (a.add (k * s + j)) = some (f k j)) (ha : 0 < n → a.spot = none) : ElsAt w.heap.size w (some a) s n f := by
  intro k hk
  obtain ⟨b, off, spot⟩ := a
  obtain rfl : spot = none := ha (by omega)
  have h0 := h k hk 0 hs
  rw [Addr.add_lit] at h0
  refine ⟨b, off, rfl, cell_lt h0, fun j hj => ?_⟩
  have := h k hk j hj
  rw [Addr.add_lit] at this
  rw [Nat.add_assoc]; exact this

/-- A slice of ints that came in. -/
theorem open_intsAt (ht : P.underlying t = some (.slice e)) (he : P.underlying e = some (.int .i64)) (hc : P.cellsOf e = 1) (h : DataW.trod enc P W base sp held fuel t cs = some x) :
    ∃ A c zs, cs = [.slice A zs.length c] ∧ IntsAt W.heap.size W A zs ∧ (∀ z ∈ zs, I64 z) ∧ zs.length ≤ maxLen := by
  rcases open_ints ht he hc h with ⟨hcs, _⟩ | ⟨a, len, cap, zs, hcs, _, hl, hm, hz, _, hcell, hwf⟩
  · exact ⟨none, 0, [], hcs, IntsAt.nil _ _ _, by simp, Nat.zero_le _⟩
  · have hlz : len ≤ zs.length := by rw [hz]; split <;> omega
    have hlen : (zs.take len).length = len := by simp; omega
    refine ⟨some a, cap, zs.take len, by rw [hlen]; exact hcs, ?_, fun z hz => hwf z (List.mem_of_mem_take hz), by omega⟩
    refine ElsAt.of_add (by omega) (fun k hk j hj => ?_) (fun h0 => ?_)
    · rw [hlen] at hk
      obtain rfl : j = 0 := by omega
      have := hcell k (by omega)
      simp only [Nat.mul_one, Nat.add_zero]
      rw [this]; simp [hk]
    · rw [hlen] at h0
      have := spot_none (hcell 0 (by omega))
      unfold Addr.add at this
      simpa using this

theorem trod_int_inv {n : Nat} {v : Value} {y : DataW H × List MemPlace} (he : P.underlying e = some (.int .i64)) (h : DataW.trod enc P W base sp held n e [v] = some y) : ∃ z, v = .int .i64 z ∧ I64 z := by
  obtain ⟨z, e0, _, wa⟩ := DataW.trod_int he h
  exact ⟨z, by simpa using e0, wa⟩

/-- The cells of a struct whose fields are all ints. -/
theorem struct_ints {fs : Array Field} {n : Nat} {cs' : List Value} {y : DataW H × List MemPlace} (hs : P.underlying e = some (.struct fs)) (hone : oneCellFields P fs = true) (hC : P.cellsOf e = fs.size)
    (hint : ∀ f ∈ fs.toList, P.underlying f.type = some (.int .i64)) (h : DataW.trod enc P W base sp held n e cs' = some y) :
    cs'.length = fs.size ∧ ∀ j, j < fs.size → ∃ z, cs'[j]? = some (.int .i64 z) ∧ I64 z := by
  obtain ⟨ys, n', _, _, hlen, _, hf⟩ := DataW.trod_struct hs h
  rw [hC] at hlen
  refine ⟨hlen, fun j hj => ?_⟩
  have hfj : fs[j]? = some fs[j] := Array.getElem?_eq_getElem hj
  obtain ⟨ho, hk⟩ := hone_of hone j fs[j] hfj
  have h1 := hf j fs[j] hfj
  rw [ho, hk] at h1
  have hv : cs'[j]? = some (cs'[j]'(by omega)) := List.getElem?_eq_getElem (by omega)
  have hone' : (cs'.drop j).take 1 = [cs'[j]'(by omega)] := by
    rw [List.drop_eq_getElem_cons (by omega)]; rfl
  rw [hone'] at h1
  cases hy : DataW.trod enc P W base sp held n' fs[j].type [cs'[j]'(by omega)] with
  | none => 
    rw [hy] at h1
    have := ‹ys.length = fs.size›
    rw [List.getElem?_eq_getElem (by omega)] at h1; cases h1
  | some y' =>
    obtain ⟨z, hz, wz⟩ := trod_int_inv (hint fs[j] (by simp)) hy
    exact ⟨z, by rw [hv, hz], wz⟩

/-- A slice of structs of ints that came in. -/
theorem open_rowsAt {fs : Array Field} (ht : P.underlying t = some (.slice e)) (hs : P.underlying e = some (.struct fs)) (hone : oneCellFields P fs = true) (hC : P.cellsOf e = fs.size) (h0 : 0 < fs.size)
    (hint : ∀ f ∈ fs.toList, P.underlying f.type = some (.int .i64)) (h : DataW.trod enc P W base sp held fuel t cs = some x) :
    ∃ A c n, ∃ f : Nat → Nat → Int, cs = [.slice A n c] ∧ ElsAt W.heap.size W A fs.size n (fun k j => .int .i64 (f k j)) ∧ (∀ k j, k < n → j < fs.size → I64 (f k j)) ∧ n ≤ maxLen := by
  rcases open_slice ht h with ⟨hcs, _⟩ | ⟨a, len, cap, m, n, D, Pl, hcs, _, hl, hm, hmm, _, hel⟩
  · exact ⟨none, 0, 0, fun _ _ => 0, hcs, ElsAt.nil _ _ _ _ _, fun k j hk => by omega, Nat.zero_le _⟩
  · have hlm : len ≤ m := by rw [hmm]; split <;> omega
    have key : ∀ k, ∃ g : Nat → Int, k < len → ∀ j, j < fs.size → W.cell? (a.add (k * fs.size + j)) = some (.int .i64 (g j)) ∧ I64 (g j) := by
      intro k
      by_cases hk : k < len
      · obtain ⟨cs', hc, htr⟩ := hel k (by omega)
        obtain ⟨hlen, hz⟩ := struct_ints hs hone hC hint htr
        obtain ⟨_, _, hat⟩ := World.cells?_some hc
        rw [hC] at hat
        have : ∀ j, ∃ z, j < fs.size → cs'[j]? = some (.int .i64 z) ∧ I64 z := fun j => by
          by_cases hj : j < fs.size
          · obtain ⟨z, h1, h2⟩ := hz j hj; exact ⟨z, fun _ => ⟨h1, h2⟩⟩
          · exact ⟨0, fun h => absurd h hj⟩
        refine ⟨fun j => Classical.choose (this j), fun _ j hj => ?_⟩
        obtain ⟨h1, h2⟩ := Classical.choose_spec (this j) hj
        refine ⟨?_, h2⟩
        rw [← Go.Deep.add_add, hat j hj]; exact h1
      · exact ⟨fun _ => 0, fun h => absurd h hk⟩
    refine ⟨some a, cap, len, fun k => Classical.choose (key k), hcs, ElsAt.of_add h0 (fun k hk j hj => (Classical.choose_spec (key k) hk j hj).1) (fun h0' => ?_), fun k j hk hj => (Classical.choose_spec (key k) hk j hj).2, by omega⟩
    have := spot_none (Classical.choose_spec (key 0) h0' 0 h0).1
    unfold Addr.add at this
    simpa using this

/-- A struct of ints by value. -/
theorem open_agg_ints {fs : Array Field} {r : Reach} {b0 : Nat} {v : Value} {d : DataW H} {p : List MemPlace} (hs : P.underlying e = some (.struct fs)) (hone : oneCellFields P fs = true) (hC : P.cellsOf e = fs.size)
    (hint : ∀ f ∈ fs.toList, P.underlying f.type = some (.int .i64)) (hv : Value.okWide P W r b0 e v) (h : DataW.Trod enc P W base sp held e v d p) :
    ∃ zs : List Int, zs.length = fs.size ∧ v = .agg (zs.map (Value.int .i64)).toArray ∧ ∀ z ∈ zs, I64 z := by
  obtain ⟨cs, rfl, hsz⟩ := okWide_struct hs hv
  obtain ⟨fuel, hf⟩ := h
  simp only [Value.cells] at hf
  obtain ⟨hlen, hz⟩ := struct_ints hs hone hC hint hf
  have hsz' : cs.size = fs.size := hsz.trans hC
  have key : ∀ j, ∃ z, j < fs.size → cs.toList[j]? = some (.int .i64 z) ∧ I64 z := fun j => by
    by_cases hj : j < fs.size
    · obtain ⟨z, h1, h2⟩ := hz j hj; exact ⟨z, fun _ => ⟨h1, h2⟩⟩
    · exact ⟨0, fun h => absurd h hj⟩
  refine ⟨(List.range fs.size).map fun j => Classical.choose (key j), by simp, ?_, fun z hz' => ?_⟩
  · congr 1
    apply Array.ext'
    apply List.ext_getElem?
    intro j
    by_cases hj : j < fs.size
    · rw [(Classical.choose_spec (key j) hj).1]; simp [hj]
    · rw [List.getElem?_eq_none (by simp; omega), List.getElem?_eq_none (by simp; omega)]
  · simp only [List.mem_map, List.mem_range] at hz'
    obtain ⟨j, hj, rfl⟩ := hz'
    exact (Classical.choose_spec (key j) hj).2
end
theorem list1 {zs : List Int} (h : zs.length = 1) : ∃ x0 : Int, zs = [x0] := by
  match zs, h with
  | [x0], _ => exact ⟨_, rfl⟩
theorem list2 {zs : List Int} (h : zs.length = 2) : ∃ x0 x1 : Int, zs = [x0, x1] := by
  match zs, h with
  | [x0, x1], _ => exact ⟨_, _, rfl⟩
theorem list3 {zs : List Int} (h : zs.length = 3) : ∃ x0 x1 x2 : Int, zs = [x0, x1, x2] := by
  match zs, h with
  | [x0, x1, x2], _ => exact ⟨_, _, _, rfl⟩
theorem list4 {zs : List Int} (h : zs.length = 4) : ∃ x0 x1 x2 x3 : Int, zs = [x0, x1, x2, x3] := by
  match zs, h with
  | [x0, x1, x2, x3], _ => exact ⟨_, _, _, _, rfl⟩
theorem list5 {zs : List Int} (h : zs.length = 5) : ∃ x0 x1 x2 x3 x4 : Int, zs = [x0, x1, x2, x3, x4] := by
  match zs, h with
  | [x0, x1, x2, x3, x4], _ => exact ⟨_, _, _, _, _, rfl⟩
theorem list6 {zs : List Int} (h : zs.length = 6) : ∃ x0 x1 x2 x3 x4 x5 : Int, zs = [x0, x1, x2, x3, x4, x5] := by
  match zs, h with
  | [x0, x1, x2, x3, x4, x5], _ => exact ⟨_, _, _, _, _, _, rfl⟩
end Go.Proofs.YtgoojcjfhghmgaaDoor
