/- The search: its tours (plain); worlds that keep all but some blocks. -/
import Derived.Test.YtmodbpglopfghaaVanAx
import Derived.Test.YtmodbpglopfghaaVanY
set_option linter.unusedSimpArgs false
set_option linter.unusedVariables false
namespace Go.Proofs.Ytmodbpglopfghaa
open Go.RowKit

/-- All that begin with t and go on with l in some order. -/
def exts : Nat → List Nat → List Nat → List (List Nat)
  | 0, t, _ => [t]
  | k + 1, t, l => (List.range l.length).flatMap fun i => exts k (t ++ [l[i]?.getD 0]) (l.eraseIdx i)
theorem exts_mem : ∀ (k : Nat) (t l : List Nat), l.length = k → ∀ s, s ∈ exts k t l ↔ ∃ p : List Nat, p.Perm l ∧ s = t ++ p
  | 0, t, l, h, s => by
    obtain rfl := List.eq_nil_of_length_eq_zero h
    simp [exts]
  | k + 1, t, l, h, s => by
    have key : ∀ i, i < l.length → (s ∈ exts k (t ++ [l[i]?.getD 0]) (l.eraseIdx i) ↔ ∃ p : List Nat, p.Perm (l.eraseIdx i) ∧ s = (t ++ [l[i]?.getD 0]) ++ p) := fun i hi =>
      exts_mem k _ _ (by rw [List.length_eraseIdx_of_lt hi]; omega) s
    simp only [exts, List.mem_flatMap, List.mem_range]
    constructor
    · rintro ⟨i, hi, hs⟩
      obtain ⟨p, hp, rfl⟩ := (key i hi).1 hs
      refine ⟨l[i] :: p, ((hp.cons _).trans (erase_perm hi)), by simp [hi]⟩
    · rintro ⟨p, hp, rfl⟩
      match p, hp with
      | [], hp => have := hp.length_eq; simp at this; omega
      | x :: p, hp =>
        obtain ⟨i, hi, rfl⟩ := List.mem_iff_getElem.1 (hp.mem_iff.1 (List.mem_cons_self))
        refine ⟨i, hi, (key i hi).2 ⟨p, ?_, by simp [hi]⟩⟩
        exact (hp.trans (erase_perm hi).symm).cons_inv
/-- The first i of its branches. -/
def exP (k : Nat) (t l : List Nat) (i : Nat) : List (List Nat) := (List.range i).flatMap fun i => exts k (t ++ [l[i]?.getD 0]) (l.eraseIdx i)
theorem exP_zero (k : Nat) (t l : List Nat) : exP k t l 0 = [] := rfl
theorem exP_succ (k : Nat) (t l : List Nat) {i : Nat} (h : i < l.length) : exP k t l (i + 1) = exP k t l i ++ exts k (t ++ [l[i]]) (l.eraseIdx i) := by
  simp [exP, List.range_succ, h]
theorem exP_all (k : Nat) (t l : List Nat) : exP k t l l.length = exts (k + 1) t l := rfl
theorem exP_sub {k : Nat} {t l : List Nat} {i : Nat} (h : i < l.length) {s : List Nat} (hs : s ∈ exts k (t ++ [l[i]]) (l.eraseIdx i)) : s ∈ exts (k + 1) t l := by
  simp only [exts, List.mem_flatMap, List.mem_range]
  exact ⟨i, h, by simpa [h] using hs⟩

/-- All blocks but some are as they were. -/
structure Fr (X : Nat → Prop) (a w : World) : Prop where
  os : w.os = a.os
  tape : w.tape = a.tape
  output : w.output = a.output
  size : a.heap.size ≤ w.heap.size
  block : ∀ i, i < a.heap.size → ¬ X i → w.heap[i]? = a.heap[i]?
namespace Fr
variable {X : Nat → Prop} {a w w' : World}
theorem refl (X : Nat → Prop) (a : World) : Fr X a a := ⟨rfl, rfl, rfl, Nat.le_refl _, fun _ _ _ => rfl⟩
theorem trans (h : Fr X a w) (h' : Fr X w w') : Fr X a w' := ⟨h'.os.trans h.os, h'.tape.trans h.tape, h'.output.trans h.output, Nat.le_trans h.size h'.size, fun i hi hx => (h'.block i (Nat.lt_of_lt_of_le hi h.size) hx).trans (h.block i hi hx)⟩
theorem of_below (h : Below a.heap.size a w) : Fr X a w := ⟨h.os, h.tape, h.output, h.size, fun i hi _ => h.block i hi⟩
theorem below {B : Nat} (h : Fr X a w) (hB : B ≤ a.heap.size) (hX : ∀ i, i < B → ¬ X i) : Below B a w := ⟨h.os, h.tape, h.output, h.size, fun i hi => h.block i (Nat.lt_of_lt_of_le hi hB) (hX i hi)⟩
theorem cell {p : Addr} (h : Fr X a w) (hp : p.block < a.heap.size) (hx : ¬ X p.block) : w.cell? p = a.cell? p := World.cell?_of_block (h.block p.block hp hx)
theorem blk {g : Nat} {t : TypeId} {cs : Array Value} (h : Fr X a w) (hb : Blk a g t cs) (hx : ¬ X g) : Blk w g t cs := (h.block g hb.lt hx).trans hb
theorem els {A : Option Addr} {s n : Nat} {f : Nat → Nat → Value} (h : Fr X a w) (hA : ∀ q, A = some q → ¬ X q.block) (hI : ElsAt a.heap.size a A s n f) : ElsAt w.heap.size w A s n f := by
  intro k hk
  obtain ⟨b, off, rfl, hb, hc⟩ := hI k hk
  have hx := hA _ rfl
  exact ⟨b, off, rfl, Nat.lt_of_lt_of_le hb h.size, fun j hj => (h.cell (p := ⟨b, off + k * s + j, none⟩) hb hx).trans (hc j hj)⟩
theorem ints {A : Option Addr} {l : List Int} (h : Fr X a w) (hA : ∀ q, A = some q → ¬ X q.block) (hI : IntsAt a.heap.size a A l) : IntsAt w.heap.size w A l := h.els hA hI
theorem put {g i : Nat} (h : Fr X a w) (hx : X g) (v : Value) : Fr X a (w.setCell ⟨g, i, none⟩ v) := by
  have ho : Only g w (w.setCell ⟨g, i, none⟩ v) := (Only.refl _ _).put i v
  exact ⟨ho.os.trans h.os, ho.tape.trans h.tape, ho.output.trans h.output, Nat.le_trans h.size ho.size, fun j hj hxj => (ho.block j (Nat.lt_of_lt_of_le hj h.size) (fun e => hxj (by injection e with e; rw [e]; exact hx))).trans (h.block j hj hxj)⟩
theorem drew (h : Fr X a w) : Fr X a w.drew := ⟨h.os, h.tape, h.output, h.size, h.block⟩
end Fr
end Go.Proofs.Ytmodbpglopfghaa
