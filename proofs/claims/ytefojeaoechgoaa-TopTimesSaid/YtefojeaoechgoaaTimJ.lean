/- TopTimes: what the law's walks carry; the law where little is reached. -/
import Derived.Test.YtefojeaoechgoaaTimI
import Derived.Test.YtefojeaoechgoaaTimH
namespace Go.Proofs.Ytefojeaoechgoaa
open Go.RowKit

theorem long_any (A : Option Addr) (c n : Nat) (w : World) (hn : n ≤ maxLen) : Calls Try.prog 5 #[.slice A n c] w fun e w' => e = .returned (.bool (decide (200 < n))) ∧ w = w' := by
  unfold maxLen at hn
  go_enter Try.func5, Try.ntmps5
  go_wp2
  go_ret
  exact ⟨by simp; omega, rfl⟩
theorem one_kn : knR [⟨0, 1, 0, 1, 4⟩] 0 1 0 = 4 ∧ knE 1 0 = 0 := by decide +kernel
theorem one_ok : Ok [⟨0, 1, 0, 1, 4⟩] := by
  refine ⟨by decide, fun i hi _ => ?_, fun i hi _ => by simp at hi⟩
  obtain rfl : i = 0 := by simpa using hi
  show okF ⟨0, 1, 0, 1, 4⟩ = true
  decide +kernel
theorem k4_any (W : World) (n : Nat) (hn : W.heap.size = n) : Calls Try.prog 4 #[.slice (some ⟨n, 0, none⟩) 1 1, .int .i64 0, .int .i64 1, .int .i64 0] (W.alloc (.cells #[.int .i64 0, .int .i64 1, .int .i64 0, .int .i64 1, .int .i64 4] 24)) fun e w' => e = .returned (.tuple #[.int .i64 4, .int .i64 0]) ∧ Below W.heap.size W w' := by
  subst hn
  have hp : FactsAt (W.heap.size + 1) (W.alloc (.cells #[.int .i64 0, .int .i64 1, .int .i64 0, .int .i64 1, .int .i64 4] 24)) (some ⟨W.heap.size, 0, none⟩) [⟨0, 1, 0, 1, 4⟩] := by
    intro k hk
    obtain rfl : k = 0 := by simpa using hk
    refine ⟨W.heap.size, 0, rfl, by omega, fun j hj => ?_⟩
    have hb := Blk.new W 24 #[.int .i64 0, .int .i64 1, .int .i64 0, .int .i64 1, .int .i64 4]
    rw [hb.cell]
    match j, hj with
    | 0, _ => rfl
    | 1, _ => rfl
    | 2, _ => rfl
    | 3, _ => rfl
    | 4, _ => rfl
  have h := Known_any (some ⟨W.heap.size, 0, none⟩) 1 (W.heap.size + 1) [⟨0, 1, 0, 1, 4⟩] 0 1 0 _ (by simp) hp one_ok (by decide) (by decide)
  rw [one_kn.1, one_kn.2] at h
  refine h.mono ?_
  rintro e w' ⟨rfl, hb⟩
  exact ⟨rfl, ((Below.refl _ _).alloc (Nat.le_refl _) _).trans (hb.mono (by simp))⟩

/-- The world with both arguments boxed. -/
def W0 (w : World) (f : Fc) (at_ ch d : Int) : World := (w.alloc (.cells #[.int .i64 f.a, .int .i64 f.c, .int .i64 f.f, .int .i64 f.t, .int .i64 f.m] 24)).alloc (.cells #[.int .i64 at_, .int .i64 ch, .int .i64 d] 26)
/-- What holds of a world on the way. -/
structure St (w : World) (f : Fc) (at_ ch d : Int) (W : World) : Prop where
  b0 : Blk W w.heap.size 24 #[.int .i64 f.a, .int .i64 f.c, .int .i64 f.f, .int .i64 f.t, .int .i64 f.m]
  b1 : Blk W (w.heap.size + 1) 26 #[.int .i64 at_, .int .i64 ch, .int .i64 d]
  bw : Below w.heap.size w W
theorem St.start (w : World) (f : Fc) (at_ ch d : Int) : St w f at_ ch d ((w.alloc (.cells #[.int .i64 f.a, .int .i64 f.c, .int .i64 f.f, .int .i64 f.t, .int .i64 f.m] 24)).alloc (.cells #[.int .i64 at_, .int .i64 ch, .int .i64 d] 26)) :=
  ⟨(Blk.new _ _ _).alloc _, blk_new' (by simp), balloc (balloc (Below.refl _ _) _) _⟩
theorem St.step {w W W' : World} {f : Fc} {at_ ch d : Int} (h : St w f at_ ch d W) (hd : Below W.heap.size W W') : St w f at_ ch d W' :=
  ⟨h.b0.below hd h.b0.lt, h.b1.below hd h.b1.lt, h.bw.trans (hd.mono h.bw.size)⟩
theorem St.cells {w W : World} {f : Fc} {at_ ch d : Int} (h : St w f at_ ch d W) : W.cell? ⟨w.heap.size, 0, none⟩ = some (.int .i64 f.a) ∧ W.cell? ⟨w.heap.size + 1, 0, none⟩ = some (.int .i64 at_) ∧ W.cell? ⟨w.heap.size + 1, 1, none⟩ = some (.int .i64 ch) ∧ W.cell? ⟨w.heap.size + 1, 2, none⟩ = some (.int .i64 d) :=
  ⟨h.b0.cell 0, h.b1.cell 0, h.b1.cell 1, h.b1.cell 2⟩
theorem St.more {w W : World} {f : Fc} {at_ ch d : Int} (h : St w f at_ ch d W) : W.cell? ⟨w.heap.size, 1, none⟩ = some (.int .i64 f.c) ∧ W.cell? ⟨w.heap.size, 2, none⟩ = some (.int .i64 f.f) ∧ W.cell? ⟨w.heap.size, 3, none⟩ = some (.int .i64 f.t) ∧ W.cell? ⟨w.heap.size, 4, none⟩ = some (.int .i64 f.m) :=
  ⟨h.b0.cell 1, h.b0.cell 2, h.b0.cell 3, h.b0.cell 4⟩

section
variable (A : Option Addr) (c : Nat) (l : List Fc) (f : Fc) (at_ ch d : Int) (w : World)
set_option maxRecDepth 100000 in
set_option maxHeartbeats 1000000 in
theorem times_long (n : Nat) (hn : n ≤ maxLen) (hlong : 200 < n) :
    Calls Try.prog 3 #[.slice A n c, .agg #[.int .i64 f.a, .int .i64 f.c, .int .i64 f.f, .int .i64 f.t, .int .i64 f.m], .agg #[.int .i64 at_, .int .i64 ch, .int .i64 d]] w fun e w' => e = .returned (.bool true) ∧ Below w.heap.size w w' := by
  have cl := Lib.hid (fun W => long_any A c n W hn)
  rw [show decide (200 < n) = true by simpa using hlong] at cl
  have s0 := St.start w f at_ ch d
  have k4 := Lib.hid (k4_any _ (w.heap.size + 2) (show ((w.alloc (.cells #[.int .i64 f.a, .int .i64 f.c, .int .i64 f.f, .int .i64 f.t, .int .i64 f.m] 24)).alloc (.cells #[.int .i64 at_, .int .i64 ch, .int .i64 d] 26)).heap.size = w.heap.size + 2 by simp))
  clear hlong hn
  go_enter Try.func3, Try.ntmps3
  go_wp2_with (first
    | (go_at_call 4; refine k4.out.mono ?_; rintro e w1 ⟨rfl, hd⟩; have s1 := s0.step hd)
    | (go_at_call 5; refine (cl.out _).mono ?_; rintro e w2 ⟨rfl, rfl⟩))
  go_ret
  exact ⟨rfl, s1.bw⟩

set_option maxRecDepth 100000 in
set_option maxHeartbeats 1000000 in
theorem times_bad (h : FactsAt w.heap.size w A l) (hm : l.length ≤ 200) (hbad : ¬ Ok l ∨ (Ok l ∧ ¬ Ok (l ++ [f]))) :
    Calls Try.prog 3 #[.slice A l.length c, .agg #[.int .i64 f.a, .int .i64 f.c, .int .i64 f.f, .int .i64 f.t, .int .i64 f.m], .agg #[.int .i64 at_, .int .i64 ch, .int .i64 d]] w fun e w' => e = .returned (.bool true) ∧ Below w.heap.size w w' := by
  have cl := Lib.hid (fun W => long_any A c l.length W (by simp only [maxLen]; omega))
  rw [show decide (200 < l.length) = false by simpa using hm] at cl
  have s0 := St.start w f at_ ch d
  have k4 := Lib.hid (k4_any _ (w.heap.size + 2) (show ((w.alloc (.cells #[.int .i64 f.a, .int .i64 f.c, .int .i64 f.f, .int .i64 f.t, .int .i64 f.m] 24)).alloc (.cells #[.int .i64 at_, .int .i64 ch, .int .i64 d] 26)).heap.size = w.heap.size + 2 by simp))
  have ca : ∀ W, Below w.heap.size w W → Calls Try.prog 6 #[.slice A l.length c, .agg #[.int .i64 f.a, .int .i64 f.c, .int .i64 f.f, .int .i64 f.t, .int .i64 f.m]] W fun e w' => ∃ z, e = .returned (.tuple #[.slice none 0 0, .int .i64 z]) ∧ ((z == 0) = false ∧ (z != 0) = true) ∧ Below W.heap.size W w' := by
    intro W hW
    rcases hbad with hb | ⟨hb1, hb2⟩
    · exact Add_bad A c w.heap.size l f W hW.size (RecAt.below h hW (Nat.le_refl _)) (by omega) hb
    · exact Add_none A c w.heap.size l f W hW.size (RecAt.below h hW (Nat.le_refl _)) hb1 hb2
  have Ca := Lib.hid ca
  clear h ca hbad
  go_enter Try.func3, Try.ntmps3
  go_wp2_with (first
    | (go_at_call 4; refine k4.out.mono ?_; rintro e w1 ⟨rfl, hd⟩; have s1 := s0.step hd; obtain ⟨y0, y1, y2, y3⟩ := s1.cells; obtain ⟨x1, x2, x3, x4⟩ := s1.more)
    | (go_at_call 5; refine (cl.out _).mono ?_; rintro e w2 ⟨rfl, rfl⟩)
    | (go_at_call 6; refine (Ca.out _ s1.bw).mono ?_; rintro e w3 ⟨z, rfl, ⟨hz1, hz2⟩, hd3⟩; have s3 := s1.step hd3))
  go_ret
  exact ⟨rfl, s3.bw⟩
end
end Go.Proofs.Ytefojeaoechgoaa
