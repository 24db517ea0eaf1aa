/- The state of the search. -/
import Derived.Test.YtoegemlpboeodaaKitC
import Derived.Test.YtoegemlpboeodaaPlain6
import Derived.Laws.OwnMore
namespace Go.Proofs.Ytoegemlpboeodaa
open Go.RowKit

/-- The closure that searches. -/
def srchF (s : Nat) : Value := .func (.func 77) #[] #[.pointer (some ⟨s + 2, 0, none⟩), .pointer (some ⟨s + 4, 0, none⟩), .pointer (some ⟨s, 0, none⟩), .pointer (some ⟨s + 1, 0, none⟩), .pointer (some ⟨s + 5, 0, none⟩)]

structure Srch (w0 : World) (lv : Value) (n : Nat) (p : List Int) (L : Int) (F : List Int) (W : World) : Prop where
  bl : Blk W w0.heap.size 33 #[lv]
  bf : ∃ v, Blk W (w0.heap.size + 1) 34 #[v] ∧ W.ownsRow (w0.heap.size + 6) 3 1 v F.length (F.map (Value.int .i64))
  bm : Blk W (w0.heap.size + 2) 3 #[.int .i64 L]
  row : W.ownsRow (w0.heap.size + 3) 3 1 (.slice (some ⟨w0.heap.size + 3, 0, none⟩) p.length n) p.length (p.map (Value.int .i64))
  bo : Blk W (w0.heap.size + 4) 34 #[.slice (some ⟨w0.heap.size + 3, 0, none⟩) p.length n]
  bt : Blk W (w0.heap.size + 5) 93 #[srchF w0.heap.size]
  old : Below w0.heap.size w0 W

namespace Srch
variable {w0 W W' : World} {lv : Value} {n : Nat} {p F : List Int} {L : Int}
theorem size (h : Srch w0 lv n p L F W) : w0.heap.size + 6 ≤ W.heap.size := by have := h.bt.lt; omega
theorem below (h : Srch w0 lv n p L F W) (hb : Below W.heap.size W W') : Srch w0 lv n p L F W' := by
  have hs := h.size
  have ho : ∀ g, Only g W W' := fun g => Only.of_below hb g
  obtain ⟨v, hv, hr⟩ := h.bf
  exact ⟨h.bl.below hb (by omega), ⟨v, hv.below hb (by omega), hr.kept (row := none) ⟨hb.os, hb.tape, hb.output, hb.size, fun i hi _ => hb.block i hi⟩ (by cases hv : v.ownBlock <;> simp)⟩, h.bm.below hb (by omega),
    h.row.kept (row := none) ⟨hb.os, hb.tape, hb.output, hb.size, fun i hi _ => hb.block i hi⟩ (.inr (by simp [Value.ownBlock])), h.bo.below hb (by omega), h.bt.below hb (by omega), h.old.trans (hb.mono (by omega))⟩
theorem far {v : Value} {k : Nat} {xs : List Value} (hv : W.ownsRow (w0.heap.size + 6) 3 1 v k xs) {g : Nat} (hg : g < w0.heap.size + 6) : v.ownBlock = none ∨ v.ownBlock ≠ some g := by
  cases h : v.ownBlock with
  | none => exact .inl rfl
  | some b => exact .inr fun e => by have := (hv.lt b h).1; injection e; omega
/-- One number more. -/
theorem push (h : Srch w0 lv n p L F W) {x : Int} (hr : W'.ownsRow (w0.heap.size + 3) 3 1 (.slice (some ⟨w0.heap.size + 3, 0, none⟩) (p.length + 1) n) (p.length + 1) (p.map (Value.int .i64) ++ [.int .i64 x])) (hg : W.grownBy W' (some (w0.heap.size + 3))) :
    Srch w0 lv n (p ++ [x]) L F (W'.setCell ⟨w0.heap.size + 4, 0, none⟩ (.slice (some ⟨w0.heap.size + 3, 0, none⟩) (p.length + 1) n)) := by
  have hs := h.size
  obtain ⟨v, hv, hvr⟩ := h.bf
  have ne : ∀ {k : Nat}, k ≠ w0.heap.size + 3 → some k ≠ some (w0.heap.size + 3) := fun hk e => hk (by injection e)
  have hO : Only (w0.heap.size + 4) W' (W'.setCell ⟨w0.heap.size + 4, 0, none⟩ (.slice (some ⟨w0.heap.size + 3, 0, none⟩) (p.length + 1) n)) := (Only.refl _ _).put 0 _
  refine ⟨(h.bl.grown hg (ne (by omega))).far (by simp) _, ⟨v, (hv.grown hg (ne (by omega))).far (by simp) _, (hvr.kept hg (far hvr (by omega))).kept hO (by rcases far (hvr) (g := w0.heap.size + 4) (by omega) with h1 | h1 <;> simp [h1])⟩, (h.bm.grown hg (ne (by omega))).far (by simp) _, ?_, ?_, (h.bt.grown hg (ne (by omega))).far (by simp) _, ?_⟩
  · have := hr.kept hO (.inr (by simp [Value.ownBlock]))
    simpa using this
  · have := (h.bo.grown hg (ne (by omega))).put 0 (.slice (some ⟨w0.heap.size + 3, 0, none⟩) (p.length + 1) n)
    simpa using this
  · have := h.old.trans (Only.below (B := w0.heap.size) hg (by omega) (by omega))
    exact this.trans (hO.below (by omega) (by have := hg.size; omega))
/-- One number less. -/
theorem pop {x : Int} (h : Srch w0 lv n (p ++ [x]) L F W) : Srch w0 lv n p L F (W.setCell ⟨w0.heap.size + 4, 0, none⟩ (.slice (some ⟨w0.heap.size + 3, 0, none⟩) p.length n)) := by
  have hs := h.size
  obtain ⟨v, hv, hvr⟩ := h.bf
  have hO : Only (w0.heap.size + 4) W (W.setCell ⟨w0.heap.size + 4, 0, none⟩ (.slice (some ⟨w0.heap.size + 3, 0, none⟩) p.length n)) := (Only.refl _ _).put 0 _
  refine ⟨h.bl.far (by simp) _, ⟨v, hv.far (by simp) _, hvr.kept hO (far hvr (by omega))⟩, h.bm.far (by simp) _, ?_, ?_, h.bt.far (by simp) _, ?_⟩
  · have h1 := h.row.kept hO (.inr (by simp [Value.ownBlock]))
    refine ⟨by simp, ?_⟩
    rcases h1.2 with ⟨h2, _⟩ | ⟨g, cap, cur, h2, hb, hg, r1, r2, r3, r4⟩
    · simp at h2
    · injection h2 with e1 e2 e3
      injection e1 with e1
      injection e1 with e1
      subst e1 e3
      refine .inr ⟨_, _, cur, rfl, hb, hg, by simp at r1; omega, r2, r3, ?_⟩
      have : cur.toList.take p.length = (cur.toList.take ((p ++ [x]).length * 1)).take p.length := by rw [List.take_take]; congr 1; simp
      rw [Nat.mul_one, this, r4]; simp
  · have := h.bo.put 0 (.slice (some ⟨w0.heap.size + 3, 0, none⟩) p.length n)
    simpa using this
  · exact h.old.trans (hO.below (by omega) (by omega))
/-- A better one. -/
theorem found (h : Srch w0 lv n p L F W) (hb : Below W.heap.size W W') {v : Value} {e : Int} (hr : W'.ownsRow W.heap.size 3 1 v p.length (p.map (Value.int .i64))) :
    Srch w0 lv n p e p ((W'.setCell ⟨w0.heap.size + 1, 0, none⟩ v).setCell ⟨w0.heap.size + 2, 0, none⟩ (.int .i64 e)) := by
  have h' := h.below hb
  have hs := h.size
  have hr6 := own_base hr hs
  have o1 : Only (w0.heap.size + 1) W' (W'.setCell ⟨w0.heap.size + 1, 0, none⟩ v) := (Only.refl _ _).put 0 _
  have o2 : Only (w0.heap.size + 2) (W'.setCell ⟨w0.heap.size + 1, 0, none⟩ v) ((W'.setCell ⟨w0.heap.size + 1, 0, none⟩ v).setCell ⟨w0.heap.size + 2, 0, none⟩ (.int .i64 e)) := (Only.refl _ _).put 0 _
  obtain ⟨v0, hv, hvr⟩ := h'.bf
  refine ⟨(h'.bl.far (by simp) _).far (by simp) _, ⟨v, ?_, (hr6.kept o1 (far hr6 (by omega))).kept o2 (far hr6 (by omega))⟩, ?_, (h'.row.kept o1 (.inr (by simp [Value.ownBlock]))).kept o2 (.inr (by simp [Value.ownBlock])), (h'.bo.far (by simp) _).far (by simp) _, (h'.bt.far (by simp) _).far (by simp) _, ?_⟩
  · have := (hv.put 0 v).far (p := ⟨w0.heap.size + 2, 0, none⟩) (by simp) (.int .i64 e)
    simpa using this
  · have := (h'.bm.far (p := ⟨w0.heap.size + 1, 0, none⟩) (by simp) v).put 0 (.int .i64 e)
    simpa using this
  · exact (h'.old.trans (o1.below (by omega) (by have := hb.size; omega))).trans (o2.below (by omega) (by have := hb.size; have := o1.size; omega))
end Srch
end Go.Proofs.Ytoegemlpboeodaa
