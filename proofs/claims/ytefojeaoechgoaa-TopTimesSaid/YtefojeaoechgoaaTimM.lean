/- TopTimes: the call returns true. -/
import Derived.Test.YtefojeaoechgoaaTimL1
import Derived.Test.YtefojeaoechgoaaTimL2
import Derived.Test.YtefojeaoechgoaaTimL3
import Derived.Test.YtefojeaoechgoaaTimL4
namespace Go.Proofs.Ytefojeaoechgoaa
open Go.RowKit

theorem times_law (A : Option Addr) (c : Nat) (l : List Fc) (f : Fc) (at_ ch d : Int) (w : World) (h : FactsAt w.heap.size w A l) (hm : l.length ≤ maxLen) (hcap : l.length ≤ c) (hcap2 : c ≤ maxLen) :
    Calls Try.prog 3 #[.slice A l.length c, .agg #[.int .i64 f.a, .int .i64 f.c, .int .i64 f.f, .int .i64 f.t, .int .i64 f.m], .agg #[.int .i64 at_, .int .i64 ch, .int .i64 d]] w fun e w' => e = .returned (.bool true) ∧ Below w.heap.size w w' := by
  by_cases hlong : 200 < l.length
  · exact times_long A c f at_ ch d w _ hm hlong
  have hs : l.length ≤ 200 := by omega
  by_cases hok : Ok l
  · by_cases hok2 : Ok (l ++ [f])
    · by_cases hE : isCh ch = true ∧ isDy d = true
      · obtain ⟨h1, h2⟩ := hE
        simp only [isCh, decide_eq_true_eq] at h1
        simp only [isDy, decide_eq_true_eq] at h2
        obtain ⟨c2, rfl⟩ := Int.eq_ofNat_of_zero_le h1.1
        obtain ⟨d2, rfl⟩ := Int.eq_ofNat_of_zero_le h2.1
        by_cases hlt : at_ < f.a
        · by_cases hcg : 60 < (cmpS (l ++ [f]) at_ 100).length
          · exact times_all1b A c l f w at_ c2 d2 h hs hcap hcap2 hok hok2 (by omega) (by omega) hlt hcg
          · exact times_all1a A c l f w at_ c2 d2 h hs hcap hcap2 hok hok2 (by omega) (by omega) hlt hcg
        · by_cases hcg : 60 < (cmpS (l ++ [f]) at_ 100).length
          · exact times_all2b A c l f w at_ c2 d2 h hs hcap hcap2 hok hok2 (by omega) (by omega) hlt hcg
          · exact times_all2a A c l f w at_ c2 d2 h hs hcap hcap2 hok hok2 (by omega) (by omega) hlt hcg
      · have hE1 : knE ch d = 1 := by
          unfold knE
          rw [if_neg]
          simpa using hE
        by_cases hlt : at_ < f.a
        · exact times_arg1 A c l f w at_ ch d h hs hcap hcap2 hok hok2 hE1 hlt
        · exact times_arg2 A c l f w at_ ch d h hs hcap hcap2 hok hok2 hE1 hlt
    · exact times_bad A c l f at_ ch d w h hs (.inr ⟨hok, hok2⟩)
  · exact times_bad A c l f at_ ch d w h hs (.inl hok)
end Go.Proofs.Ytefojeaoechgoaa
