/- A map from a set of stops and its last one to a length. -/
import Derived.Test.YtmodbpglopfghaaVanB
import Derived.Maps.OwnSet
import Derived.Maps.Views
import Derived.Maps.OwnOps
import Derived.DeepKeys4
set_option linter.unusedSimpArgs false
namespace Go.Proofs.Ytmodbpglopfghaa
open Go.RowKit

def kl (s l : Nat) : Lit := .string [0, 0, 0, 0, 0, 0, 0, UInt8.ofNat s, 0, 0, 0, 0, 0, 0, 0, UInt8.ofNat l]
theorem bytes8 (s : Nat) (h : s < 256) : bytesBE 8 s = [0, 0, 0, 0, 0, 0, 0, UInt8.ofNat s] := by
  have : ∀ s : Nat, s < 256 → bytesBE 8 s = [0, 0, 0, 0, 0, 0, 0, UInt8.ofNat s] := by decide +kernel
  exact this s h
theorem kl_inj {s l s' l' : Nat} (hs : s < 256) (hl : l < 256) (hs' : s' < 256) (hl' : l' < 256) (h : kl s l = kl s' l') : s = s' ∧ l = l' := by
  injection h with h
  simp only [List.cons.injEq, true_and, and_true] at h
  obtain ⟨h1, h2⟩ := h
  have e1 := congrArg UInt8.toNat h1
  have e2 := congrArg UInt8.toNat h2
  simp only [UInt8.toNat_ofNat'] at e1 e2
  omega
theorem place_keyed : Go.Maps.Keyed Try.prog 109 := Go.Maps.Keyed.of_law (deep_law_laid (by kernel_rfl) (m := Try.prog.types.size) (by decide +kernel) (by decide +kernel) (by decide +kernel) (by kernel_rfl))
theorem wf64 {x : Int} (h : -9223372036854775808 ≤ x ∧ x ≤ 9223372036854775807) : (Lit.int .i64 x).wf = true := by
  exact WalkArith.wf_i64 h
theorem key_of (s l : Nat) (hs : s < 256) (hl : l < 256) : keyOf Try.prog 109 (.agg #[.int .i64 (s : Int), .int .i64 (l : Int)]) = some (kl s l) := by
  obtain ⟨m, hm⟩ : ∃ m, Try.prog.types.size = m + 1 := ⟨Try.prog.types.size - 1, by decide +kernel⟩
  have hk : Try.prog.keyType 109 = true := by decide +kernel
  have hc : Try.prog.cellsOf 109 = 2 := by decide +kernel
  have hc3 : Try.prog.cellsOf 3 = 1 := by decide +kernel
  have w1 : (Lit.int .i64 (s : Int)).wf = true := wf64 (by omega)
  have w2 : (Lit.int .i64 (l : Int)).wf = true := wf64 (by omega)
  have hf : (Value.agg #[.int .i64 (s : Int), .int .i64 (l : Int)]).formed Try.prog 109 = true := by
    simp [Value.formed, Try.underlying109, hc]
  unfold keyOf
  simp only [Try.underlying109, hk, hf, Bool.and_self, if_true, Value.cells, hm]
  simp [Program.keyLits, Try.underlying109, Try.underlying3, hc, hc3, w1, w2]
  have e : ∀ x : Nat, x < 256 → Lit.keyBytes (.int .i64 (x : Int)) = [0, 0, 0, 0, 0, 0, 0, UInt8.ofNat x] := fun x hx => by
    show bytesBE 8 ((x : Int) % 2 ^ 64).toNat = _
    have hx2 : (((x : Nat) : Int) % 2 ^ 64).toNat = x := by omega
    rw [hx2, bytes8 x hx]
  unfold kl keyBytes
  rw [List.flatMap_cons, List.flatMap_cons, List.flatMap_nil, e s hs, e l hl]
  rfl

/-- Block g is a map that has m's entries. -/
def MpAt (w : World) (g cnt : Nat) (m : Nat → Nat → Option Int) : Prop := ∃ D : DataW Unit, w.ownsMap Try.prog 109 (plainElem Try.prog 3) g cnt D ∧
  ∀ s l, s < 256 → l < 256 → ∀ z, D.atKey (kl s l) z = match m s l with | some v => .lit (.int .i64 v) | none => z
def upd (m : Nat → Nat → Option Int) (s l : Nat) (v : Int) : Nat → Nat → Option Int := fun s' l' => if s' = s ∧ l' = l then some v else m s' l'
theorem zero3 (w : World) : (zeroValue 3).run Try.prog w = .ok (.int .i64 0) w := by kernel_rfl
theorem lit_inj {a c : Int} (h : (DataW.lit (.int .i64 a) : DataW Unit) = .lit (.int .i64 c)) : c = a := by cases h; rfl
namespace MpAt
variable {w w' : World} {g cnt : Nat} {m : Nat → Nat → Option Int}
theorem made (w : World) : MpAt (w.alloc (.map #[] 0)) w.heap.size 0 fun _ _ => none := ⟨.map [], World.ownsMap_made _ _ _ _, fun _ _ _ _ _ => rfl⟩
theorem lt (h : MpAt w g cnt m) : g < w.heap.size := by obtain ⟨D, h1, _⟩ := h; exact h1.lt
theorem below {B : Nat} (h : MpAt w g cnt m) (hb : Below B w w') (hg : g < B) : MpAt w' g cnt m := by
  obtain ⟨D, ⟨es, clock, hb1, F, hs, hD⟩, h2⟩ := h
  exact ⟨D, ⟨es, clock, (hb.block g hg).trans hb1, F, hs, hD⟩, h2⟩
theorem alloc (h : MpAt w g cnt m) (o : Obj) : MpAt (w.alloc o) g cnt m := by obtain ⟨D, h1, h2⟩ := h; exact ⟨D, h1.alloc o, h2⟩
theorem drewN (h : MpAt w g cnt m) (n : Nat) : MpAt (w.drewN n) g cnt m := by obtain ⟨D, h1, h2⟩ := h; exact ⟨D, h1, h2⟩
theorem look0 (h : MpAt w g cnt m) {s l : Nat} (hs : s < 256) (hl : l < 256) : (Instr.lookup 107 (.map (some g)) (.agg #[.int .i64 (s : Int), .int .i64 (l : Int)]) false).run Try.prog w = .ok (.int .i64 ((m s l).getD 0)) w := by
  obtain ⟨D, h1, h2⟩ := h
  obtain ⟨c, hrun, hat, _⟩ := h1.lookup_int place_keyed Try.underlying107 Try.underlying3 (zero3 w) (key_of s l hs hl)
  rw [hrun]
  rw [h2 s l hs hl] at hat
  cases hm : m s l with
  | none => rw [hm] at hat; simp only at hat; rw [lit_inj hat]; rfl
  | some v => rw [hm] at hat; simp only at hat; rw [lit_inj hat]; rfl
theorem look (h : MpAt w g cnt m) {s l : Nat} (hs : s < 256) (hl : l < 256) : (Instr.lookup 107 (.map (some g)) (.agg #[.int .i64 (s : Int), .int .i64 (l : Int)]) true).run Try.prog w = .ok (.tuple #[.int .i64 ((m s l).getD 0), .bool (m s l).isSome]) w := by
  obtain ⟨D, h1, h2⟩ := h
  obtain ⟨v, ps, hrun, hv⟩ := h1.look_ok place_keyed Try.underlying107 (zero3 w) (plainElem_int Try.underlying3 (by decide)) (key_of s l hs hl)
  obtain ⟨c, rfl, hc, _⟩ := plainElem_int_inv Try.underlying3 hv
  have hat := congrArg Prod.fst hc
  simp only at hat
  rw [hrun]
  have hh := h2 s l hs hl
  rw [hh] at hat
  cases hm : m s l with
  | none =>
    rw [hm] at hat hh
    simp only at hat hh
    rw [lit_inj hat]
    rw [Go.Maps.has_false_of_atKey hh]; rfl
  | some v =>
    rw [hm] at hat hh
    simp only at hat hh
    rw [lit_inj hat]
    rw [Go.Maps.has_true_of_atKey hh]; rfl
theorem put (h : MpAt w g cnt m) {s l : Nat} {v : Int} (hs : s < 256) (hl : l < 256) (hv : -9223372036854775808 ≤ v ∧ v ≤ 9223372036854775807) (hc : cnt < 1000000) :
    ∃ w', (Instr.mapUpdate 107 (.map (some g)) (.agg #[.int .i64 (s : Int), .int .i64 (l : Int)]) (.int .i64 v)).run Try.prog w = .ok () w' ∧ MpAt w' g (cnt + 1) (upd m s l v) ∧ w.grownBy w' (some g) := by
  obtain ⟨D, h1, h2⟩ := h
  obtain ⟨w', hrun, r1, r2⟩ := h1.update place_keyed Try.underlying107 (Nat.lt_of_lt_of_le hc (by decide)) (key_of s l hs hl) (plainElem_int Try.underlying3 (wf64 hv))
  refine ⟨w', hrun, ⟨_, r1, fun s' l' hs' hl' z => ?_⟩, r2⟩
  unfold upd
  by_cases e : s' = s ∧ l' = l
  · obtain ⟨rfl, rfl⟩ := e
    rw [if_pos ⟨rfl, rfl⟩, Go.Maps.atKey_put_same h1.isMap (show WideAt.IsKeyLit (kl s' l') from trivial)]
  · rw [if_neg e, Go.Maps.atKey_put_other (fun hk => e (kl_inj hs' hl' hs hl hk)), h2 s' l' hs' hl' z]
end MpAt
end Go.Proofs.Ytmodbpglopfghaa
