/- ordered, Spans, Changed. -/
import Derived.Test.YtefojeaoechgoaaTimF
import Derived.Laws.EntriesVeiled
namespace Go.Proofs.Ytefojeaoechgoaa
open Go.RowKit

/-- What is known of a child at a minute, day by day. -/
def kn (l : List Fc) (at_ ch : Int) (d : Nat) : Int := mealOf (unt l at_) ch d
def ordS (l : List Fc) (at_ ch : Int) : List Sp := spanS (fun d => decide (0 < kn l at_ ch d)) (kn l at_ ch) 1000
def chgS (l : List Fc) (a b ch : Int) : List Sp := spanS (fun d => kn l a ch d != kn l b ch d) (kn l b ch) 1000

set_option maxRecDepth 100000 in
set_option maxHeartbeats 1000000 in
theorem ordered_any (A : Option Addr) (c B : Nat) (l : List Fc) (at_ ch : Int) (w : World) (hB : B ≤ w.heap.size) (h : FactsAt B w A l) (hok : Ok l) (hc : l.length ≤ c) (hc2 : c ≤ maxLen) :
    Calls Try.prog 20 #[.slice A l.length c, .int .i64 at_, .int .i64 ch] w fun e w' => ∃ A' c', e = .returned (.slice A' (ordS l at_ ch).length c') ∧ SpansAt w'.heap.size w' A' (ordS l at_ ch) ∧ (∀ a, A' = some a → w.heap.size ≤ a.block ∧ a.block < w'.heap.size) ∧ Below w.heap.size w w' := by
  have cd := Lib.hid (days_any A c B l at_ ch w hB h hok hc hc2)
  have cs : ∀ (W : World), DB w.heap.size (kn l at_ ch) W → Calls Try.prog 22 #[.slice (some ⟨w.heap.size, 0, none⟩) 1000 1000, .func (.func 28) #[] #[.pointer (some ⟨W.heap.size, 0, none⟩)]] (W.alloc (.cells #[.slice (some ⟨w.heap.size, 0, none⟩) 1000 1000] 52)) fun e w' => ∃ A' c', e = .returned (.slice A' (ordS l at_ ch).length c') ∧ SpansAt w'.heap.size w' A' (ordS l at_ ch) ∧ (∀ a, A' = some a → W.heap.size ≤ a.block ∧ a.block < w'.heap.size) ∧ Below W.heap.size W w' := by
    intro W hD
    have hb := Blk.new W 52 #[.slice (some ⟨w.heap.size, 0, none⟩) 1000 1000]
    have hW : Below W.heap.size W (W.alloc (.cells #[.slice (some ⟨w.heap.size, 0, none⟩) 1000 1000] 52)) := (Below.refl _ _).alloc (Nat.le_refl _) _
    refine (spans28 w.heap.size W.heap.size (kn l at_ ch) (fun d => decide (0 < kn l at_ ch d)) _ (hD.alloc _) ?_).mono ?_
    · intro d W2 hd hb2
      refine (want28 w.heap.size W.heap.size (kn l at_ ch) W2 ((hD.alloc _).below hb2) ((hb.below hb2 hb.lt).cell 0) d hd).mono ?_
      rintro e w' ⟨rfl, rfl⟩
      exact ⟨rfl, Below.refl _ _⟩
    · rintro e w' ⟨A', c', rfl, h1, hlo, h2⟩
      exact ⟨A', c', rfl, h1, fun a ha => ⟨Nat.le_trans hW.size (hlo a ha).1, (hlo a ha).2⟩, hW.trans (h2.mono hW.size)⟩
  have Cs := Lib.hid cs
  clear h cs
  go_enter Try.func20, Try.ntmps20
  go_wp2_with (first
    | (go_at_call 21; refine cd.out.mono ?_; rintro e w1 ⟨rfl, hD, hb1⟩)
    | (go_at_call 22; refine (Cs.out _ hD).mono ?_; rintro e w2 ⟨A', c', rfl, hS, hlo, hb2⟩))
  go_ret
  exact ⟨A', c', rfl, hS, fun a ha => ⟨Nat.le_trans hb1.size (hlo a ha).1, (hlo a ha).2⟩, hb1.trans (hb2.mono hb1.size)⟩

set_option maxRecDepth 100000 in
set_option maxHeartbeats 1000000 in
theorem Spans_any (A : Option Addr) (c B : Nat) (l : List Fc) (at_ ch : Int) (w : World) (hB : B ≤ w.heap.size) (h : FactsAt B w A l) (hok : Ok l) (hc : l.length ≤ c) (hc2 : c ≤ maxLen) (hch : isCh ch = true) :
    Calls Try.prog 8 #[.slice A l.length c, .int .i64 at_, .int .i64 ch] w fun e w' => ∃ A' c', e = .returned (.tuple #[.slice A' (ordS l at_ ch).length c', .int .i64 0]) ∧ SpansAt w'.heap.size w' A' (ordS l at_ ch) ∧ Below w.heap.size w w' := by
  have hI := RecAt.below h (Below.refl _ _) hB
  have ca := Lib.hid (asked_ok A c B l true w hB h hok)
  have c14 := Lib.hid (isChild_any ch)
  have co := Lib.hid (fun W (hW : Below w.heap.size w W) => ordered_any A c w.heap.size l at_ ch W hW.size (RecAt.below hI hW (Nat.le_refl _)) hok hc hc2)
  rw [hch] at c14
  simp only [if_true] at ca
  clear h hI hch
  go_enter Try.func8, Try.ntmps8
  go_wp2_with (first
    | (go_at_call 14; refine (c14.out _).mono ?_; rintro e w1 ⟨rfl, rfl⟩)
    | (go_at_call 13; refine ca.out.mono ?_; rintro e w1 ⟨rfl, hb1⟩)
    | (go_at_call 20; refine (co.out _ hb1).mono ?_; rintro e w2 ⟨A', c', rfl, hS, _, hb2⟩))
  go_ret2
  exact ⟨A', c', rfl, hS, hb1.trans (hb2.mono hb1.size)⟩

set_option maxRecDepth 100000 in
set_option maxHeartbeats 1000000 in
theorem Changed_any (A : Option Addr) (c B : Nat) (l : List Fc) (a b ch : Int) (w : World) (hB : B ≤ w.heap.size) (h : FactsAt B w A l) (hok : Ok l) (hc : l.length ≤ c) (hc2 : c ≤ maxLen) (hch : isCh ch = true) :
    Calls Try.prog 12 #[.slice A l.length c, .int .i64 a, .int .i64 b, .int .i64 ch] w fun e w' => ∃ A' c', e = .returned (.tuple #[.slice A' (chgS l a b ch).length c', .int .i64 0]) ∧ SpansAt w'.heap.size w' A' (chgS l a b ch) ∧ Below w.heap.size w w' := by
  have hI := RecAt.below h (Below.refl _ _) hB
  have ca := Lib.hid (asked_ok A c B l true w hB h hok)
  have c14 := Lib.hid (isChild_any ch)
  have cd := Lib.hid (fun W (hW : Below w.heap.size w W) => days_any A c w.heap.size l a ch W hW.size (RecAt.below hI hW (Nat.le_refl _)) hok hc hc2)
  have ce := Lib.hid (fun W (hW : Below w.heap.size w W) => days_any A c w.heap.size l b ch W hW.size (RecAt.below hI hW (Nat.le_refl _)) hok hc hc2)
  have cs : ∀ (g0 g1 : Nat) (W : World), DB g0 (kn l a ch) W → DB g1 (kn l b ch) W → Calls Try.prog 22 #[.slice (some ⟨g1, 0, none⟩) 1000 1000, .func (.func 23) #[] #[.pointer (some ⟨W.heap.size, 0, none⟩), .pointer (some ⟨W.heap.size + 1, 0, none⟩)]] ((W.alloc (.cells #[.slice (some ⟨g0, 0, none⟩) 1000 1000] 52)).alloc (.cells #[.slice (some ⟨g1, 0, none⟩) 1000 1000] 52)) fun e w' => ∃ A' c', e = .returned (.slice A' (chgS l a b ch).length c') ∧ SpansAt w'.heap.size w' A' (chgS l a b ch) ∧ Below W.heap.size W w' := by
    intro g0 g1 W hD hD'
    have k1 := (Blk.new W 52 #[.slice (some ⟨g0, 0, none⟩) 1000 1000]).alloc (.cells #[.slice (some ⟨g1, 0, none⟩) 1000 1000] 52)
    have k2 : Blk ((W.alloc (.cells #[.slice (some ⟨g0, 0, none⟩) 1000 1000] 52)).alloc (.cells #[.slice (some ⟨g1, 0, none⟩) 1000 1000] 52)) (W.heap.size + 1) 52 #[.slice (some ⟨g1, 0, none⟩) 1000 1000] := blk_new' (by simp)
    have hW : Below W.heap.size W ((W.alloc (.cells #[.slice (some ⟨g0, 0, none⟩) 1000 1000] 52)).alloc (.cells #[.slice (some ⟨g1, 0, none⟩) 1000 1000] 52)) := balloc (balloc (Below.refl _ _) _) _
    refine (spans23 g1 W.heap.size (W.heap.size + 1) (kn l b ch) (fun d => kn l a ch d != kn l b ch d) _ ((hD'.alloc _).alloc _) ?_).mono ?_
    · intro d W2 hd hb2
      exact want23 g0 g1 W.heap.size (W.heap.size + 1) (kn l a ch) (kn l b ch) W2 (((hD.alloc _).alloc _).below hb2) (((hD'.alloc _).alloc _).below hb2) ((k1.below hb2 k1.lt).cell 0) ((k2.below hb2 k2.lt).cell 0) d hd
    · rintro e w' ⟨A', c', rfl, h1, _, h2⟩
      exact ⟨A', c', rfl, h1, hW.trans (h2.mono hW.size)⟩
  have Cs := Lib.hid cs
  rw [hch] at c14
  simp only [if_true] at ca
  have tok := Lib.hid (Nat.le_refl 0)
  clear h hI hch cs
  go_enter Try.func12, Try.ntmps12
  go_wp2_with (first
    | (go_at_call 14; refine (c14.out _).mono ?_; rintro e w1 ⟨rfl, rfl⟩)
    | (go_at_call 13; refine ca.out.mono ?_; rintro e w1 ⟨rfl, hb1⟩)
    | (go_at_call 21; have tk := tok; clear tok; refine (cd.out _ hb1).mono ?_; rintro e w2 ⟨rfl, hD, hb2⟩; have hb3 := hb1.trans (hb2.mono hb1.size))
    | (go_at_call 21; refine (ce.out _ hb3).mono ?_; rintro e w3 ⟨rfl, hD', hb4⟩; have hb5 := hb3.trans (hb4.mono hb3.size); have HD := hD.below hb4)
    | (go_at_call 22; refine (Cs.out _ _ _ HD hD').mono ?_; rintro e w4 ⟨A', c', rfl, hS, hb6⟩))
  go_ret2
  exact ⟨A', c', rfl, hS, hb5.trans (hb6.mono hb5.size)⟩
end Go.Proofs.Ytefojeaoechgoaa
