/- Words for slices of ints and of batches in a world, and small lemmas on them; nothing of the program. -/
import Derived.WalkKit
import Derived.Lib.Hide
import Derived.Maps.AppendAt
import Derived.Deep.Draws
import Derived.ProofKit
namespace Go.Proofs.YtgoojcjfhghmgaaDoor
open Go.RowKit

/-- The slice that begins at A holds n elements of s cells each, cell j of element k being f k j; all lies below block B. -/
def ElsAt (B : Nat) (w : World) (A : Option Addr) (s n : Nat) (f : Nat → Nat → Value) : Prop :=
  ∀ k, k < n → ∃ b off, A = some ⟨b, off, none⟩ ∧ b < B ∧ ∀ j, j < s → w.cell? ⟨b, off + k * s + j, none⟩ = some (f k j)

theorem ElsAt.keep {B B' : Nat} {w w' : World} {A : Option Addr} {s n : Nat} {f : Nat → Nat → Value} (h : ElsAt B w A s n f) (hB : B ≤ B') (hk : ∀ p : Addr, p.block < B → w'.cell? p = w.cell? p) : ElsAt B' w' A s n f := by
  intro k hkn
  obtain ⟨b, off, e, hb, hc⟩ := h k hkn
  exact ⟨b, off, e, by omega, fun j hj => (hk _ hb).trans (hc j hj)⟩
theorem ElsAt.below {B B' : Nat} {w w' : World} {A : Option Addr} {s n : Nat} {f : Nat → Nat → Value} (h : ElsAt B w A s n f) (hb : Below B w w') (hB : B ≤ B') : ElsAt B' w' A s n f :=
  h.keep hB fun _ hp => hb.cell hp
theorem ElsAt.nil (B : Nat) (w : World) (A : Option Addr) (s : Nat) (f : Nat → Nat → Value) : ElsAt B w A s 0 f := fun k hk => by omega
theorem ElsAt.congr {B : Nat} {w : World} {A : Option Addr} {s n : Nat} {f g : Nat → Nat → Value} (h : ElsAt B w A s n f) (e : ∀ k j, k < n → j < s → f k j = g k j) : ElsAt B w A s n g := by
  intro k hkn
  obtain ⟨b, off, e', hb, hc⟩ := h k hkn
  exact ⟨b, off, e', hb, fun j hj => by rw [hc j hj, e k j hkn hj]⟩

/-- A slice of ints. -/
def IntsAt (B : Nat) (w : World) (A : Option Addr) (zs : List Int) : Prop := ElsAt B w A 1 zs.length fun k _ => .int .i64 (zs[k]?.getD 0)
theorem IntsAt.below {B B' : Nat} {w w' : World} {A : Option Addr} {zs : List Int} (h : IntsAt B w A zs) (hb : Below B w w') (hB : B ≤ B') : IntsAt B' w' A zs := ElsAt.below h hb hB
theorem IntsAt.keep {B B' : Nat} {w w' : World} {A : Option Addr} {zs : List Int} (h : IntsAt B w A zs) (hB : B ≤ B') (hk : ∀ p : Addr, p.block < B → w'.cell? p = w.cell? p) : IntsAt B' w' A zs := ElsAt.keep h hB hk
theorem IntsAt.nil (B : Nat) (w : World) (A : Option Addr) : IntsAt B w A [] := ElsAt.nil _ _ _ _ _
/-- The cell of element k. -/
theorem IntsAt.at {B : Nat} {w : World} {A : Option Addr} {zs : List Int} (h : IntsAt B w A zs) {k : Nat} (hk : k < zs.length) :
    ∃ b off, A = some ⟨b, off, none⟩ ∧ b < B ∧ w.cell? ⟨b, off + k, none⟩ = some (.int .i64 zs[k]) := by
  obtain ⟨b, off, e, hb, hc⟩ := h k hk
  have := hc 0 (by omega)
  simp only [Nat.mul_one, Nat.add_zero] at this
  exact ⟨b, off, e, hb, by rw [this]; simp [hk]⟩
theorem IntsAt.cells {B : Nat} {w : World} {b off : Nat} {zs : List Int} (h : IntsAt B w (some ⟨b, off, none⟩) zs) {k : Nat} (hk : k < zs.length) : b < B ∧ w.cell? ⟨b, off + k, none⟩ = some (.int .i64 zs[k]) := by
  obtain ⟨b', off', e, hb, hc⟩ := h.at hk
  cases e
  exact ⟨hb, hc⟩

/-- A slice of pairs of ints. -/
def PairsAt (B : Nat) (w : World) (A : Option Addr) (l : List (Int × Int)) : Prop := ElsAt B w A 2 l.length fun k j => .int .i64 (if j = 0 then (l[k]?.getD (0, 0)).1 else (l[k]?.getD (0, 0)).2)
theorem PairsAt.below {B B' : Nat} {w w' : World} {A : Option Addr} {l : List (Int × Int)} (h : PairsAt B w A l) (hb : Below B w w') (hB : B ≤ B') : PairsAt B' w' A l := ElsAt.below h hb hB
theorem PairsAt.at {B : Nat} {w : World} {A : Option Addr} {l : List (Int × Int)} (h : PairsAt B w A l) {k : Nat} (hk : k < l.length) :
    ∃ b off, A = some ⟨b, off, none⟩ ∧ b < B ∧ w.cell? ⟨b, off + k * 2, none⟩ = some (.int .i64 l[k].1) ∧ w.cell? ⟨b, off + k * 2 + 1, none⟩ = some (.int .i64 l[k].2) := by
  obtain ⟨b, off, e, hb, hc⟩ := h k hk
  have h0 := hc 0 (by omega)
  have h1 := hc 1 (by omega)
  simp only [Nat.add_zero] at h0
  exact ⟨b, off, e, hb, by rw [h0]; simp [hk], by rw [h1]; simp [hk]⟩

/-- What the call owns reads as a slice. -/
theorem ElsAt.of_own {w : World} {base e c s n : Nat} {A : Option Addr} {xs : List Value} {f : Nat → Nat → Value} (h : w.ownsRow base e s (.slice A n c) n xs) (hf : ∀ k j, k < n → j < s → xs[k * s + j]? = some (f k j)) : ElsAt w.heap.size w A s n f := by
  intro k hk
  rcases h.2 with ⟨_, h0⟩ | ⟨g, cap, cur, hv, _⟩
  · omega
  · have hA : A = some ⟨g, 0, none⟩ := by injection hv
    subst hA
    refine ⟨g, 0, rfl, (h.lt g rfl).2, fun j hj => ?_⟩
    have := h.cells (g := g) rfl (k * s + j) (f k j) (hf k j hk hj)
    rw [Addr.add_lit] at this
    simpa [Nat.add_assoc] using this
theorem IntsAt.of_own {w : World} {base e c : Nat} {A : Option Addr} {zs : List Int} (h : w.ownsRow base e 1 (.slice A zs.length c) zs.length (zs.map (Value.int .i64))) : IntsAt w.heap.size w A zs :=
  ElsAt.of_own h fun k j hk hj => by
    obtain rfl : j = 0 := by omega
    simp [hk]
/-- The form of an owned value. -/
theorem own_form {w : World} {base e s n : Nat} {v : Value} {xs : List Value} (h : w.ownsRow base e s v n xs) : ∃ A c, v = .slice A n c := by
  rcases h.2 with ⟨rfl, rfl⟩ | ⟨g, cap, cur, rfl, _⟩
  · exact ⟨none, 0, rfl⟩
  · exact ⟨_, cap, rfl⟩
theorem IntsAt.of_own' {w : World} {base e : Nat} {v : Value} {zs : List Int} (h : w.ownsRow base e 1 v zs.length (zs.map (Value.int .i64))) : ∃ A c, v = .slice A zs.length c ∧ IntsAt w.heap.size w A zs := by
  obtain ⟨A, c, rfl⟩ := own_form h
  exact ⟨A, c, rfl, IntsAt.of_own h⟩

theorem bcell {w w1 : World} {B : Nat} (hb : Below B w w1) : ∀ b o, b < B → w1.cell? ⟨b, o, none⟩ = w.cell? ⟨b, o, none⟩ := fun b o h => hb.cell (p := ⟨b, o, none⟩) h
theorem ret_int {k : IntKind} {a b : Int} (h : a = b) : Ending.returned (.int k a) = .returned (.int k b) := by rw [h]
theorem ret_bool {a b : Bool} (h : a = b) : Ending.returned (.bool a) = .returned (.bool b) := by rw [h]
theorem cell_lt {w : World} {a : Addr} {v : Value} (h : w.cell? a = some v) : a.block < w.heap.size := by
  rcases Nat.lt_or_ge a.block w.heap.size with h1 | h1
  · exact h1
  · simp [World.cell?, Array.getElem?_eq_none h1] at h
end Go.Proofs.YtgoojcjfhghmgaaDoor
