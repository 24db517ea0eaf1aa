/- Better potentials. -/
import Derived.Test.YtmodbpglopfghaaVanT
set_option linter.unusedSimpArgs false
set_option linter.unusedVariables false
namespace Go.Proofs.Ytmodbpglopfghaa
open Go.RowKit

theorem IR.get {g : Nat} {zs : List Int} {w : World} (h : IR g zs w) : IntsAt w.heap.size w (some ⟨g, 0, none⟩) zs := by
  intro k hk
  refine ⟨g, 0, rfl, h.1, fun j hj => ?_⟩
  obtain rfl : j = 0 := by omega
  rw [show 0 + k * 1 + 0 = k by omega, (h.2 k hk).1]
  simp [hk]
theorem IR.below {g B : Nat} {zs : List Int} {w w' : World} (h : IR g zs w) (hb : Below B w w') (hg : g < B) : IR g zs w' :=
  ⟨Nat.lt_of_lt_of_le h.1 hb.size, fun i hi => ⟨(hb.cell (p := ⟨g, i, none⟩) hg).trans (h.2 i hi).1, (frozen_block (hb.block g hg)).trans (h.2 i hi).2⟩⟩
/-- make([]int, n). -/
theorem make_ints (n : Nat) (hn : n ≤ 1000000) : ∃ cs : Array Value, cs.size = n ∧ (∀ d, d < n → cs[d]? = some (.int .i64 0)) ∧ ∀ w : World, (Instr.makeSlice 28 (.int .i64 (n : Int)) (.int .i64 (n : Int))).run Try.prog w = .ok (.slice (some ⟨w.heap.size, 0, none⟩) n n) (w.alloc (.cells cs 3)) := by
  obtain ⟨i0, hi, hz0, hz1, hz2⟩ := info_parts info3
  refine ⟨madeCells (Value.int .i64 0).cells (n * i0.size), ?_, fun d hd => ?_, fun w => ?_⟩
  · rw [size_madeCells, hz1, Nat.mul_one]
  · rw [hz1]; simp [madeCells, Value.cells, hd, Nat.mod_one]
  · have hr := run_make (P := Try.prog) w 28 3 i0 _ Try.underlying28 hi hz0 .i64 .i64 n n (by omega) (by omega) (by rw [hz2]; omega) (by omega)
    simp only [Int.toNat_natCast] at hr
    exact hr
def zerL (n : Nat) : List Int := List.replicate n 0
theorem IR.made {n : Nat} {cs : Array Value} (w : World) (hs : cs.size = n) (hz : ∀ d, d < n → cs[d]? = some (.int .i64 0)) : IR w.heap.size (zerL n) (w.alloc (.cells cs 3)) := by
  have hb := Blk.new w 3 cs
  refine ⟨hb.lt, fun i hi => ⟨?_, hb.frozen i⟩⟩
  have hi' : i < n := by simpa [zerL] using hi
  rw [hb.cell, hz i hi']; simp [zerL]
theorem IR.put {g i : Nat} {zs : List Int} {w : World} (h : IR g zs w) (hi : i < zs.length) (v : Int) : IR g (zs.set i v) (w.setCell ⟨g, i, none⟩ (.int .i64 v)) := by
  refine ⟨by simpa [World.setCell] using h.1, fun k hk => ⟨?_, ?_⟩⟩
  · have hk' : k < zs.length := by simpa using hk
    by_cases e : k = i
    · subst e
      rw [World.cell?_setCell_same' _ _ _ (by rw [(h.2 k hk').1]; rfl)]; simp
    · rw [World.cell?_setCell_other _ _ _ _ (show (⟨g, i, none⟩ : Addr) ≠ ⟨g, k, none⟩ from fun e' => e (by injection e' with _ e'; exact e'.symm)), (h.2 k hk').1]
      rw [List.getElem_set_ne (fun e' => e e'.symm)]
  · rw [frozen_set]; exact (h.2 k (by simpa using hk)).2
theorem IR.copied {g n : Nat} {cs : Array Value} {p : List Int} {w : World} (hb : Blk w g 3 cs) (hs : cs.size = n) (hp : p.length = n) :
    IR g p (w.setRow g (cs.toList.take 0 ++ ((p.map (Value.int .i64)) ++ cs.toList.drop (0 + (p.map (Value.int .i64)).length))).toArray) := by
  have h2 : Blk (w.setRow g (cs.toList.take 0 ++ ((p.map (Value.int .i64)) ++ cs.toList.drop (0 + (p.map (Value.int .i64)).length))).toArray) g 3 (cs.toList.take 0 ++ ((p.map (Value.int .i64)) ++ cs.toList.drop (0 + (p.map (Value.int .i64)).length))).toArray := setRow_heap w g _ _ 3 _ hb
  refine ⟨h2.lt, fun i hi => ⟨?_, h2.frozen i⟩⟩
  rw [h2.cell]
  simp only [List.take_zero, List.nil_append, List.getElem?_toArray]
  rw [List.getElem?_append_left (by simpa using hi)]; simp [hi]
/-- The bound's value. -/
noncomputable def bV (rows : List (List Int)) (q : List Int) : Int := @dite _ (∃ z, BdIs rows.length (wy rows) q z) (Classical.propDecidable _) (fun h => Classical.choose h) (fun _ => 0)
theorem bV_eq {rows : List (List Int)} {q : List Int} {z : Int} (hv : WG rows q) (h : BdIs rows.length (wy rows) q z) : bV rows q = z := by
  have he : ∃ z, BdIs rows.length (wy rows) q z := ⟨z, h⟩
  unfold bV
  rw [dif_pos he]
  exact (Classical.choose_spec he).unique h hv.vw.sym (fun i k hi hk => cg_bd hv.vw.bd hv.ok hv.len hi hk)
theorem wg_zeros {rows : List (List Int)} {p : List Int} (h : WG rows p) : WG rows (zerL rows.length) := ⟨h.vw, h.n3, by simp [zerL], fun x hx => by
  rw [zerL, List.mem_replicate] at hx
  rw [hx.2]; omega⟩
theorem wg_set {rows : List (List Int)} {q : List Int} {i : Nat} {x : Int} (h : WG rows q) (hx : -1000 ≤ x ∧ x ≤ 1000) : WG rows (q.set i x) := ⟨h.vw, h.n3, by rw [List.length_set]; exact h.len, fun y hy => by
  rcases List.mem_or_eq_of_mem_set hy with h1 | h1
  · exact h.ok y h1
  · rw [h1]; exact hx⟩
theorem bound_val (b off c c' B : Nat) (rows : List (List Int)) (A' : Option Addr) (q : List Int) (w : World) (hB : B ≤ w.heap.size) (h : WaAt B w b off rows.length (wy rows)) (hv : WG rows q) (hI : IntsAt w.heap.size w A' q) :
    Calls Try.prog 59 #[.slice (some ⟨b, off, none⟩) rows.length c, .slice A' rows.length c'] w fun e w' => e = .returned (.int .i64 (bV rows q)) ∧ Below w.heap.size w w' :=
  (bound_any b off rows.length c c' w.heap.size (wy rows) A' q w (Nat.le_refl _) (h.below (Below.refl _ _) hB) hv.vw.bd hI hv.ok hv.len hv.n3 hv.vw.n1).mono fun e w' ⟨z, h1, h2, _, _, h3⟩ => ⟨by rw [h1, bV_eq hv h2], h3⟩
/-- Potentials no worse than those given and zeros. -/
def Bt (rows : List (List Int)) (p q : List Int) : Prop := WG rows q ∧ bV rows p ≤ bV rows q ∧ bV rows (zerL rows.length) ≤ bV rows q
end Go.Proofs.Ytmodbpglopfghaa
