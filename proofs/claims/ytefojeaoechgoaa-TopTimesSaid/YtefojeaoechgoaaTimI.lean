/- Compact. -/
import Derived.Test.YtefojeaoechgoaaPlain3
namespace Go.Proofs.Ytefojeaoechgoaa
open Go.RowKit

theorem RecAt.grown {α : Type} {g : α → List Value} {s : Nat} {w w' : World} {A : Option Addr} {l : List α} {row : Option Nat} (h : RecAt g s w.heap.size w A l) (hg : w.grownBy w' row) (hne : ∀ a, A = some a → some a.block ≠ row) : RecAt g s w'.heap.size w' A l := by
  intro k hk
  obtain ⟨b, off, e, h1, h2⟩ := h k hk
  exact ⟨b, off, e, Nat.lt_of_lt_of_le h1 hg.size, fun j hj => (World.cell?_of_block (a := ⟨b, off + k * s + j, none⟩) (hg.block b h1 (hne _ e))).trans (h2 j hj)⟩

set_option maxRecDepth 100000 in
set_option maxHeartbeats 1000000 in
theorem Compact_any (A : Option Addr) (c B : Nat) (l : List Fc) (at_ : Int) (w : World) (hB : B ≤ w.heap.size) (h : FactsAt B w A l) (hok : Ok l) (hc : l.length ≤ c) (hc2 : c ≤ maxLen) :
    Calls Try.prog 10 #[.slice A l.length c, .int .i64 at_] w fun e w' => ∃ v z, e = .returned (.tuple #[v, .int .i64 z]) ∧ ((((z == 0) = false ∧ (z != 0) = true) ∧ 60 < (cmpS l at_ 100).length) ∨ (z = 0 ∧ (cmpS l at_ 100).length ≤ 60 ∧ ∃ A' c', v = .slice A' (cmpS l at_ 100).length c' ∧ FactsAt w'.heap.size w' A' (cmpS l at_ 100) ∧ (cmpS l at_ 100).length ≤ c' ∧ c' ≤ maxLen)) ∧ Below w.heap.size w w' := by
  have h60 := hok.1
  have hI := RecAt.below h (Below.refl _ _) hB
  have cv := Lib.hid (Validate_ok A c B l w hB h (by omega) hok)
  have co := Lib.hid (fun (ch : Int) W (hW : Below w.heap.size w W) => ordered_any A c w.heap.size l at_ ch W hW.size (RecAt.below hI hW (Nat.le_refl _)) hok hc hc2)
  obtain ⟨i0, hi, hz0, hz1, hz2⟩ := info_parts info24
  clear h hI hok hc hc2
  go_enter Try.func10, Try.ntmps10
  go_wp2_with (go_at_call 17; refine cv.out.mono ?_; rintro e w1 ⟨rfl, hb1⟩)
  go_loopw [7, 16] (fun out i wr => ∃ k : Nat, k ≤ 100 ∧ i = .int .i64 k ∧ wr.ownsRow w.heap.size 24 5 out (cmpS l at_ k).length (flatG cF (cmpS l at_ k)) ∧ Below w.heap.size w wr) (fun _ i _ => 100 - (intOf i).toNat)
  case atStart => exact ⟨0, Nat.zero_le _, rfl, World.ownsRow_nil _ _ _ _, hb1⟩
  case round =>
    obtain ⟨k, hk, rfl, hown, hb⟩ := hrel
    obtain ⟨wo, rfl⟩ : ∃ wo : World, wo = wr := ⟨_, rfl⟩
    by_cases hlt : k < 100
    · have hlen := cmpS_length l at_ k
      have hlen2 := ordS_length l at_ k
      have HO := Lib.hid hown
      have Hs := Lib.hid (cmpS_succ l at_ k)
      clear hown
      go_wp2_with (go_at_call 20; refine (co.out _ _ hb).mono ?_; rintro e w2 ⟨A2, c2, rfl, hS, hlo, hb2⟩; have HO2 := Lib.hid (own_below HO.out hb2); have hbw := hb.trans (hb2.mono hb.size))
      generalize ordS l at_ k = S at hS Hs hlen2
      obtain ⟨P, hP⟩ : ∃ P, cmpS l at_ k = P := ⟨_, rfl⟩
      rw [hP] at HO2 Hs hlen HO
      clear hP
      go_loopw [7, 24] (fun out i wr => ∃ j : Nat, j ≤ S.length ∧ i = .int .i64 j ∧ wr.ownsRow w.heap.size 24 5 out (P.length + j) (flatG cF (P ++ (S.take j).map (ofSp k))) ∧ SpansAt wr.heap.size wr A2 S ∧ (∀ a, A2 = some a → a.block < wr.heap.size ∧ some a.block ≠ out.ownBlock) ∧ Below w.heap.size w wr) (fun _ i _ => S.length - (intOf i).toNat)
      case atStart => exact ⟨0, Nat.zero_le _, rfl, by simpa using HO2.out, hS, fun a ha => ⟨(hlo a ha).2, fun he => by have h1 := (HO.out.lt _ he.symm).2; have h2 := (hlo a ha).1; omega⟩, hbw⟩
      case round =>
        obtain ⟨j, hj, rfl, hown3, hS3, hlo3, hb3⟩ := hrel
        by_cases hlt2 : j < S.length
        · obtain ⟨b, off, rfl, hbB, c0, c1, c2'⟩ := hS3.at hlt2
          have hsn : flatG cF (P ++ (S.take (j + 1)).map (ofSp k)) = flatG cF (P ++ (S.take j).map (ofSp k)) ++ [.int .i64 0, .int .i64 (k : Int), .int .i64 S[j].f, .int .i64 S[j].t, .int .i64 S[j].m] := by
            rw [List.take_succ_eq_append_getElem hlt2, List.map_append, ← List.append_assoc, flatG_append]; rfl
          have Hsn := Lib.hid hsn
          have hba := balloc (w1 := w) (balloc (w1 := w) hb3 (.cells #[.int .i64 S[j].f, .int .i64 S[j].t, .int .i64 S[j].m] 41)) (.cells #[.int .i64 0, .int .i64 (k : Int), .int .i64 S[j].f, .int .i64 S[j].t, .int .i64 S[j].m] 24)
          have HBA := Lib.hid hba
          have HOA := Lib.hid ((hown3.alloc (.cells #[.int .i64 S[j].f, .int .i64 S[j].t, .int .i64 S[j].m] 41)).alloc (.cells #[.int .i64 0, .int .i64 (k : Int), .int .i64 S[j].f, .int .i64 S[j].t, .int .i64 S[j].m] 24))
          have HSA := Lib.hid (RecAt.below (B' := ((wr.alloc (.cells #[.int .i64 S[j].f, .int .i64 S[j].t, .int .i64 S[j].m] 41)).alloc (.cells #[.int .i64 0, .int .i64 (k : Int), .int .i64 S[j].f, .int .i64 S[j].t, .int .i64 S[j].m] 24)).heap.size) hS3 (balloc (w1 := wr) (balloc (w1 := wr) (Below.refl _ _) (.cells #[.int .i64 S[j].f, .int .i64 S[j].t, .int .i64 S[j].m] 41)) (.cells #[.int .i64 0, .int .i64 (k : Int), .int .i64 S[j].f, .int .i64 S[j].t, .int .i64 S[j].m] 24)) (by simp; omega))
          have HLO := Lib.hid hlo3
          clear hsn hba hown3 hS3 hlo3
          go_wp2_with (at_builtin; refine wpList_append_own_at _ rfl _ _ 22 rfl w.heap.size 24 i0 _ 5 40 Try.underlying22 hi hz0 hz1 hz2 rfl (by decide) _ _ _ rfl HOA.out ⟨wr.heap.size + 1, 0, none⟩ 1 1 _ rfl rfl (cells_new' _ _ (by simp) _ _) (by simp [Value.oneCell']) (by simp only [maxLen]; omega) (by omega) HBA.out.size ?_; intro v' w4 hown4 hg4 _ hat4)
          have b4 : Below w.heap.size w w4 := HBA.out.grown hg4 HBA.out.size (fun x hx => (HOA.out.lt x hx).1)
          go_roundw
          case rel =>
            refine ⟨j + 1, by omega, by go_num, by rw [Hsn.out]; exact hown4, RecAt.grown HSA.out hg4 (fun a ha => (HLO.out a ha).2), fun a ha => ?_, b4⟩
            obtain ⟨h1, h2⟩ := HLO.out a ha
            refine ⟨Nat.lt_of_lt_of_le h1 (Nat.le_trans (by simp; omega) hg4.size), fun he => ?_⟩
            rcases hat4 with h3 | h3
            · exact h2 (he.trans h3)
            · rw [h3] at he; injection he with he; simp at he; omega
          case measure => simp [intOf]; omega
        · obtain rfl : j = S.length := by omega
          rw [List.take_length] at hown3
          have HO3 := Lib.hid hown3
          clear hown3 hS3 hlo3
          go_wp2_with fail
          go_roundw
          case rel => exact ⟨k + 1, by omega, by go_num, by rw [Hs.out, List.length_append, List.length_map]; exact HO3.out, hb3⟩
          case measure => simp [intOf]; omega
    · obtain rfl : k = 100 := by omega
      have hlen := cmpS_length l at_ 100
      obtain ⟨A5, c5, rfl⟩ := own_form hown
      have HO := Lib.hid hown
      by_cases h6 : 60 < (cmpS l at_ 100).length
      · have H60 := Lib.hid h6
        clear hown
        go_wp2_with fail
        go_ret2
        exact ⟨_, 4, rfl, .inl ⟨by decide, H60.out⟩, hb⟩
      · have H6 := Lib.hid h6
        clear hown
        go_wp2_with fail
        go_ret2
        have hcap := own_cap HO.out
        exact ⟨_, 0, rfl, .inr ⟨rfl, Nat.le_of_not_lt H6.out, A5, c5, rfl, RecAt.of_own cF_length HO.out, hcap⟩, hb⟩
theorem Compact_good (A : Option Addr) (c B : Nat) (l : List Fc) (at_ : Int) (w : World) (hB : B ≤ w.heap.size) (h : FactsAt B w A l) (hok : Ok l) (hc : l.length ≤ c) (hc2 : c ≤ maxLen) (h6 : ¬ 60 < (cmpS l at_ 100).length) :
    Calls Try.prog 10 #[.slice A l.length c, .int .i64 at_] w fun e w' => ∃ A' c', e = .returned (.tuple #[.slice A' (cmpS l at_ 100).length c', .int .i64 0]) ∧ FactsAt w'.heap.size w' A' (cmpS l at_ 100) ∧ (cmpS l at_ 100).length ≤ c' ∧ c' ≤ maxLen ∧ Below w.heap.size w w' := by
  refine (Compact_any A c B l at_ w hB h hok hc hc2).mono ?_
  rintro e w' ⟨v, z, rfl, h1 | ⟨rfl, _, A', c', rfl, h2, h3, h4⟩, hb⟩
  · exact absurd h1.2 h6
  · exact ⟨A', c', rfl, h2, h3, h4, hb⟩
theorem Compact_bad (A : Option Addr) (c B : Nat) (l : List Fc) (at_ : Int) (w : World) (hB : B ≤ w.heap.size) (h : FactsAt B w A l) (hok : Ok l) (hc : l.length ≤ c) (hc2 : c ≤ maxLen) (h6 : 60 < (cmpS l at_ 100).length) :
    Calls Try.prog 10 #[.slice A l.length c, .int .i64 at_] w fun e w' => ∃ v z, e = .returned (.tuple #[v, .int .i64 z]) ∧ ((z == 0) = false ∧ (z != 0) = true) ∧ Below w.heap.size w w' := by
  refine (Compact_any A c B l at_ w hB h hok hc hc2).mono ?_
  rintro e w' ⟨v, z, rfl, h1 | ⟨rfl, h2, _⟩, hb⟩
  · exact ⟨v, z, rfl, h1.1, hb⟩
  · omega
end Go.Proofs.Ytefojeaoechgoaa
