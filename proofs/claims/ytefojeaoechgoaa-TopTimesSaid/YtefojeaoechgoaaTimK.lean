/- TopTimes: the law where a fact is added. -/
import Derived.Test.YtefojeaoechgoaaTimJ
namespace Go.Proofs.Ytefojeaoechgoaa
open Go.RowKit

section
variable (A : Option Addr) (c : Nat) (l : List Fc) (f : Fc) (w : World)

set_option maxRecDepth 100000 in
set_option maxHeartbeats 1000000 in
theorem times_arg1 (at_ ch d : Int) (h : FactsAt w.heap.size w A l) (hm : l.length ≤ 200) (hcap : l.length ≤ c) (hcap2 : c ≤ maxLen) (hok : Ok l) (hok2 : Ok (l ++ [f])) (hE : knE ch d = 1) (hlt : at_ < f.a) :
    Calls Try.prog 3 #[.slice A l.length c, .agg #[.int .i64 f.a, .int .i64 f.c, .int .i64 f.f, .int .i64 f.t, .int .i64 f.m], .agg #[.int .i64 at_, .int .i64 ch, .int .i64 d]] w fun e w' => e = .returned (.bool true) ∧ Below w.heap.size w w' := by
  have cl := Lib.hid (fun W => long_any A c l.length W (by simp only [maxLen]; omega))
  rw [show decide (200 < l.length) = false by simpa using hm] at cl
  have s0 := St.start w f at_ ch d
  have k4 := Lib.hid (k4_any _ (w.heap.size + 2) (show ((w.alloc (.cells #[.int .i64 f.a, .int .i64 f.c, .int .i64 f.f, .int .i64 f.t, .int .i64 f.m] 24)).alloc (.cells #[.int .i64 at_, .int .i64 ch, .int .i64 d] 26)).heap.size = w.heap.size + 2 by simp))
  have cA := Lib.hid (fun W (hW : Below w.heap.size w W) => Add_good A c w.heap.size l f W hW.size (RecAt.below h hW (Nat.le_refl _)) hok hok2)
  have kM := Lib.hid (fun A' c' (W : World) (hI : FactsAt W.heap.size W A' (l ++ [f])) h1 h2 => Known_any A' c' W.heap.size (l ++ [f]) at_ ch d W (Nat.le_refl _) hI hok2 h1 h2)
  have cL := Lib.hid (fun W (hW : Below w.heap.size w W) => Known_any A c w.heap.size l at_ ch d W hW.size (RecAt.below h hW (Nat.le_refl _)) hok hcap hcap2)
  rw [hE] at kM cL
  have hk : knR l at_ ch d = knR (l ++ [f]) at_ ch d := by unfold knR; rw [kn_before hlt]
  rw [hk] at cL
  clear hk
  generalize knR (l ++ [f]) at_ ch d = m at kM cL
  generalize l ++ [f] = M at kM cA
  have HT := Lib.hid (Nat.le_refl 0)
  have t1 := HT
  clear h hok hok2 hE hcap hcap2
  go_enter Try.func3, Try.ntmps3
  go_wp2_with (first
    | (go_at_call 4; have tk := t1; clear t1; refine k4.out.mono ?_; rintro e w1 ⟨rfl, hd⟩; have s1 := s0.step hd; obtain ⟨y0, y1, y2, y3⟩ := s1.cells; obtain ⟨x1, x2, x3, x4⟩ := s1.more)
    | (go_at_call 5; refine (cl.out _).mono ?_; rintro e w2 ⟨rfl, rfl⟩)
    | (go_at_call 6; refine (cA.out _ s1.bw).mono ?_; rintro e w2 ⟨A3, c3, rfl, hF2, hc3, hc4, hd2⟩; have s2 := s1.step hd2; have t2 := HT; clear y0 y1 y2 y3 x1 x2 x3 x4; obtain ⟨y0, y1, y2, y3⟩ := s2.cells)
    | (go_at_call 4; have tk := t2; clear t2; refine (cL.out _ s2.bw).mono ?_; rintro e w3 ⟨rfl, hd⟩; have s3 := s2.step hd; clear y0 y1 y2 y3; obtain ⟨y0, y1, y2, y3⟩ := s3.cells; have hF3 := RecAt.below hF2 hd hd.size; clear hd; have t3 := tk)
    | (go_at_call 4; have tk := t3; clear t3; refine (kM.out _ _ _ hF3 hc3 hc4).mono ?_; rintro e w4 ⟨rfl, hd⟩; have s4 := s3.step hd; clear y0 y1 y2 y3; obtain ⟨y0, y1, y2, y3⟩ := s4.cells; have hF4 := RecAt.below hF3 hd hd.size; clear hd; have t4 := tk)
    | (go_at_call 4; have tk := t4; clear t4; refine (kM.out _ _ _ hF4 hc3 hc4).mono ?_; rintro e w5 ⟨rfl, hd⟩; have s5 := s4.step hd; clear y0 y1 y2 y3; obtain ⟨y0, y1, y2, y3⟩ := s5.cells; have hF5 := RecAt.below hF4 hd hd.size; clear hd))
  go_ret
  exact ⟨rfl, s5.bw⟩

set_option maxRecDepth 100000 in
set_option maxHeartbeats 1000000 in
theorem times_arg2 (at_ ch d : Int) (h : FactsAt w.heap.size w A l) (hm : l.length ≤ 200) (hcap : l.length ≤ c) (hcap2 : c ≤ maxLen) (hok : Ok l) (hok2 : Ok (l ++ [f])) (hE : knE ch d = 1) (hlt : ¬ at_ < f.a) :
    Calls Try.prog 3 #[.slice A l.length c, .agg #[.int .i64 f.a, .int .i64 f.c, .int .i64 f.f, .int .i64 f.t, .int .i64 f.m], .agg #[.int .i64 at_, .int .i64 ch, .int .i64 d]] w fun e w' => e = .returned (.bool true) ∧ Below w.heap.size w w' := by
  have cl := Lib.hid (fun W => long_any A c l.length W (by simp only [maxLen]; omega))
  rw [show decide (200 < l.length) = false by simpa using hm] at cl
  have s0 := St.start w f at_ ch d
  have k4 := Lib.hid (k4_any _ (w.heap.size + 2) (show ((w.alloc (.cells #[.int .i64 f.a, .int .i64 f.c, .int .i64 f.f, .int .i64 f.t, .int .i64 f.m] 24)).alloc (.cells #[.int .i64 at_, .int .i64 ch, .int .i64 d] 26)).heap.size = w.heap.size + 2 by simp))
  have cA := Lib.hid (fun W (hW : Below w.heap.size w W) => Add_good A c w.heap.size l f W hW.size (RecAt.below h hW (Nat.le_refl _)) hok hok2)
  have kM := Lib.hid (fun A' c' (W : World) (hI : FactsAt W.heap.size W A' (l ++ [f])) h1 h2 => Known_any A' c' W.heap.size (l ++ [f]) at_ ch d W (Nat.le_refl _) hI hok2 h1 h2)
  have cL := Lib.hid (fun W (hW : Below w.heap.size w W) => Known_any A c w.heap.size l at_ ch d W hW.size (RecAt.below h hW (Nat.le_refl _)) hok hcap hcap2)
  rw [hE] at kM cL
  generalize knR (l ++ [f]) at_ ch d = m at kM
  generalize l ++ [f] = M at kM cA
  have HT := Lib.hid (Nat.le_refl 0)
  have t1 := HT
  clear h hok hok2 hE hcap hcap2 cL
  go_enter Try.func3, Try.ntmps3
  go_wp2_with (first
    | (go_at_call 4; have tk := t1; clear t1; refine k4.out.mono ?_; rintro e w1 ⟨rfl, hd⟩; have s1 := s0.step hd; obtain ⟨y0, y1, y2, y3⟩ := s1.cells; obtain ⟨x1, x2, x3, x4⟩ := s1.more)
    | (go_at_call 5; refine (cl.out _).mono ?_; rintro e w2 ⟨rfl, rfl⟩)
    | (go_at_call 6; refine (cA.out _ s1.bw).mono ?_; rintro e w2 ⟨A3, c3, rfl, hF2, hc3, hc4, hd2⟩; have s2 := s1.step hd2; have t4 := HT; clear y0 y1 y2 y3 x1 x2 x3 x4; obtain ⟨y0, y1, y2, y3⟩ := s2.cells)
    | (go_at_call 4; have tk := t4; clear t4; refine (kM.out _ _ _ hF2 hc3 hc4).mono ?_; rintro e w5 ⟨rfl, hd⟩; have s5 := s2.step hd; clear y0 y1 y2 y3; obtain ⟨y0, y1, y2, y3⟩ := s5.cells; have hF5 := RecAt.below hF2 hd hd.size; clear hd))
  go_ret
  exact ⟨rfl, s5.bw⟩
end
end Go.Proofs.Ytefojeaoechgoaa
