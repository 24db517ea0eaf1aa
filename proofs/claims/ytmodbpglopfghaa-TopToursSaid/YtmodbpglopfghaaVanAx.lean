/- The closure that ends a search f91: what it catches. -/
import Derived.Test.YtmodbpglopfghaaVanA
import Derived.Tactics2
import Derived.Defers
import Derived.Recover
import Derived.Laws.Pointers
set_option linter.unusedSimpArgs false
set_option linter.unusedVariables false
namespace Go.Proofs.Ytmodbpglopfghaa
open Go.RowKit

set_option maxRecDepth 100000 in
set_option maxHeartbeats 1000000 in
theorem catch_idle (p : Addr) (w : World) :
    CallsD Try.prog 91 #[.pointer (some p)] .returning w fun e u' w' => e = .returned (.tuple #[]) ∧ u' = .returning ∧ w' = w := by
  refine callsD_of_wpS Try.func91 rfl fun c₀ cs hu => ?_
  apply wpS_seq
  apply wpS_region
  simp [wpOpsS, go_sem, recoverD, hu, Try.ntmps91, Exit.thenS]
  refine wpS_of_wp ?_
  have ht : (#[Value.pointer (some p)] ++ ((Array.replicate 16 undef).setIfInBounds 3 (Value.nilIface)).setIfInBounds 0 (Value.nilIface) : Array Value) = #[.pointer (some p), .nilIface, undef, undef, .nilIface, undef, undef, undef, undef, undef, undef, undef, undef, undef, undef, undef, undef] := rfl
  rw [ht]
  go_wp2_with fail
  cases c₀
  simp_all [bodyPostS, results, Try.results91]

set_option maxRecDepth 100000 in
set_option maxHeartbeats 1000000 in
theorem catch_enough (b : Nat) (x : Value) (A : Option Addr) (n c : Nat) (older : List PanicEntry) (w : World) (hc : w.cell? ⟨b, 0, none⟩ = some x) (hz : w.frozen? ⟨b, 0, none⟩ = false) :
    CallsD Try.prog 91 #[.pointer (some ⟨b, 0, none⟩)] (.panicking ({ v := .iface 117 (.agg #[.slice A n c]), recovered := false } :: older)) w fun e u' w' =>
      e = .returned (.tuple #[]) ∧ u' = .panicking ({ v := .iface 117 (.agg #[.slice A n c]), recovered := true } :: older) ∧ w' = (w.setCell ⟨b, 0, none⟩ (.slice A n c)).alloc (.cells #[.slice A n c] 117) := by
  refine callsD_of_wpS Try.func91 rfl fun c₀ cs hu => ?_
  apply wpS_seq
  apply wpS_region
  simp [wpOpsS, go_sem, recoverD, hu, Try.ntmps91, Exit.thenS]
  refine wpS_of_wp ?_
  have ht : (#[Value.pointer (some ⟨b, 0, none⟩)] ++ ((Array.replicate 16 undef).setIfInBounds 3 (Value.iface 117 (.agg #[.slice A n c]))).setIfInBounds 0 (Value.iface 117 (.agg #[.slice A n c])) : Array Value) = #[.pointer (some ⟨b, 0, none⟩), .iface 117 (.agg #[.slice A n c]), undef, undef, .iface 117 (.agg #[.slice A n c]), undef, undef, undef, undef, undef, undef, undef, undef, undef, undef, undef, undef] := rfl
  rw [ht]
  have hta : ∀ w : World, (Instr.typeAssert (.iface 117 (.agg #[.slice A n c])) 20 117 true).run Try.prog w = .ok (.tuple #[.agg #[.slice A n c], .bool true]) w := fun _ => by kernel_rfl
  have hbw := cell_lt hc
  go_wp2_with fail
  exact ⟨rfl, _, rfl, _, by simp [results, Try.results91], rfl, rfl, rfl⟩
end Go.Proofs.Ytmodbpglopfghaa
