/- TopTimes: the law where a fact is added. -/
import Derived.Test.YtefojeaoechgoaaTimK
namespace Go.Proofs.Ytefojeaoechgoaa
open Go.RowKit

section
variable (A : Option Addr) (c : Nat) (l : List Fc) (f : Fc) (w : World)

set_option maxRecDepth 100000 in
set_option maxHeartbeats 2000000 in
theorem times_all1a (at_ : Int) (ch d : Nat) (h : FactsAt w.heap.size w A l) (hm : l.length ≤ 200) (hcap : l.length ≤ c) (hcap2 : c ≤ maxLen) (hok : Ok l) (hok2 : Ok (l ++ [f])) (hch : ch < 100) (hdd : d < 1000) (hlt : at_ < f.a) (hcg : ¬ 60 < (cmpS (l ++ [f]) at_ 100).length) :
    Calls Try.prog 3 #[.slice A l.length c, .agg #[.int .i64 f.a, .int .i64 f.c, .int .i64 f.f, .int .i64 f.t, .int .i64 f.m], .agg #[.int .i64 at_, .int .i64 ch, .int .i64 d]] w fun e w' => e = .returned (.bool true) ∧ Below w.heap.size w w' := by
  have cl := Lib.hid (fun W => long_any A c l.length W (by simp only [maxLen]; omega))
  rw [show decide (200 < l.length) = false by simpa using hm] at cl
  have s0 := St.start w f at_ (ch : Int) (d : Int)
  have k4 := Lib.hid (k4_any _ (w.heap.size + 2) (show ((w.alloc (.cells #[.int .i64 f.a, .int .i64 f.c, .int .i64 f.f, .int .i64 f.t, .int .i64 f.m] 24)).alloc (.cells #[.int .i64 at_, .int .i64 (ch : Int), .int .i64 (d : Int)] 26)).heap.size = w.heap.size + 2 by simp))
  have cA := Lib.hid (fun W (hW : Below w.heap.size w W) => Add_good A c w.heap.size l f W hW.size (RecAt.below h hW (Nat.le_refl _)) hok hok2)
  have hci : isCh (ch : Int) = true := by simp only [isCh, decide_eq_true_eq]; omega
  have hdi : isDy (d : Int) = true := by simp only [isDy, decide_eq_true_eq]; omega
  have hE : knE (ch : Int) (d : Int) = 0 := by simp [knE, hci, hdi]
  have hR : ∀ (M : List Fc) (t : Int), knR M t ch d = kn M t ch d := fun M t => by simp [knR, hci, hdi, kn]
  have hff : okF f = true := by
    have := hok2.ok (i := l.length) (by simp)
    simpa using this
  have hfa := okF_iff hff
  have k1 := fun A' c' (W : World) (hI : FactsAt W.heap.size W A' (l ++ [f])) h1 h2 => Known_any A' c' W.heap.size (l ++ [f]) at_ ch d W (Nat.le_refl _) hI hok2 h1 h2
  have k2 := fun A' c' (W : World) (hI : FactsAt W.heap.size W A' (l ++ [f])) h1 h2 => Known_any A' c' W.heap.size (l ++ [f]) (f.a - 1) ch d W (Nat.le_refl _) hI hok2 h1 h2
  have k3 := fun A' c' (W : World) (hI : FactsAt W.heap.size W A' (unt (l ++ [f]) at_)) h1 h2 => Known_any A' c' W.heap.size (unt (l ++ [f]) at_) 1440000 ch d W (Nat.le_refl _) hI (hok2.take _) h1 h2
  have kl := fun W (hW : Below w.heap.size w W) => Known_any A c w.heap.size l at_ ch d W hW.size (RecAt.below h hW (Nat.le_refl _)) hok hcap hcap2
  have hk3 : kn (unt (l ++ [f]) at_) 1440000 ch d = kn (l ++ [f]) at_ ch d := by unfold kn; rw [unt_unt hok2]
  simp only [hR, hE, hk3] at k1 k2 k3 kl
  have hk : kn l at_ ch d = kn (l ++ [f]) at_ ch d := by unfold kn; rw [kn_before hlt]
  rw [hk] at kl
  clear hk
  have ku := fun A' c' (W : World) (hI : FactsAt W.heap.size W A' (l ++ [f])) h1 h2 => Until_any A' c' W.heap.size (l ++ [f]) at_ W (Nat.le_refl _) hI hok2 h1 h2
  simp only [← unt_length] at ku
  have ks := fun A' c' (W : World) (hI : FactsAt W.heap.size W A' (l ++ [f])) h1 h2 => Spans_any A' c' W.heap.size (l ++ [f]) at_ ch W (Nat.le_refl _) hI hok2 h1 h2 hci
  have hSl := ordS_length (l ++ [f]) at_ ch
  have ki := fun A' c' (W : World) (hI : SpansAt W.heap.size W A' (ordS (l ++ [f]) at_ ch)) => in_any A' c' W.heap.size (ordS (l ++ [f]) at_ ch) d W hI (by omega)
  simp only [ordS_in hok2 at_ ch hdd] at ki
  have kc := fun A' c' (W : World) (hI : FactsAt W.heap.size W A' (l ++ [f])) h1 h2 => Compact_good A' c' W.heap.size (l ++ [f]) at_ W (Nat.le_refl _) hI hok2 h1 h2 hcg
  have hC := cmpS_ok hok2 at_ (Nat.le_of_not_lt hcg)
  have kt := fun A' c' (W : World) (hI : FactsAt W.heap.size W A' (cmpS (l ++ [f]) at_ 100)) h1 h2 => Spans_any A' c' W.heap.size (cmpS (l ++ [f]) at_ 100) 0 ch W (Nat.le_refl _) hI hC h1 h2 hci
  simp only [cmpS_ord hok2 at_ hch] at kt
  have kx := fun A' A'' c' c'' (W : World) (hI : SpansAt W.heap.size W A' (ordS (l ++ [f]) at_ ch)) (hI' : SpansAt W.heap.size W A'' (ordS (l ++ [f]) at_ ch)) => same_eq A' A'' c' c'' W.heap.size (ordS (l ++ [f]) at_ ch) W hI hI' (by omega)
  have KT := Lib.hid kt
  have KX := Lib.hid kx
  clear kt kx hC
  have kg := fun A' c' (W : World) (hI : FactsAt W.heap.size W A' (l ++ [f])) h1 h2 => Changed_any A' c' W.heap.size (l ++ [f]) (f.a - 1) at_ ch W (Nat.le_refl _) hI hok2 h1 h2 hci
  have hGl := chgS_length (l ++ [f]) (f.a - 1) at_ ch
  have hGa := chgS_any (l ++ [f]) (f.a - 1) at_ ch hdd
  have K1 := Lib.hid k1
  have K2 := Lib.hid k2
  have K3 := Lib.hid k3
  have KL := Lib.hid kl
  have KU := Lib.hid ku
  have KS := Lib.hid ks
  have KI := Lib.hid ki
  have KC := Lib.hid kc
  have KG := Lib.hid kg
  have HG := Lib.hid hGa
  clear k1 k2 k3 kl ku ks ki kc kg hGa hR hk3 hE hff hok hok2 h hcap hcap2 hci hdi hcg
  generalize kn (l ++ [f]) at_ ch d = m at K1 K3 KL KI HG
  generalize kn (l ++ [f]) (f.a - 1) ch d = b at K2 HG
  generalize ordS (l ++ [f]) at_ ch = S at KS KI hSl KT KX
  generalize chgS (l ++ [f]) (f.a - 1) at_ ch = G at KG HG hGl
  generalize unt (l ++ [f]) at_ = U at K3 KU
  generalize cmpS (l ++ [f]) at_ 100 = C at KC KT
  generalize l ++ [f] = M at K1 K2 KU KS KC KG cA
  have HT := Lib.hid (Nat.le_refl 0)
  have t1 := HT
  go_enter Try.func3, Try.ntmps3
  go_wp2_with (first
    | (go_at_call 4; have tk := t1; clear t1; refine k4.out.mono ?_; rintro e w1 ⟨rfl, hd⟩; have s1 := s0.step hd; obtain ⟨y0, y1, y2, y3⟩ := s1.cells; obtain ⟨x1, x2, x3, x4⟩ := s1.more)
    | (go_at_call 5; refine (cl.out _).mono ?_; rintro e w2 ⟨rfl, rfl⟩)
    | (go_at_call 6; refine (cA.out _ s1.bw).mono ?_; rintro e w2 ⟨A3, c3, rfl, hF2, hc3, hc4, hd2⟩; have s2 := s1.step hd2; have t2 := HT; clear y0 y1 y2 y3 x1 x2 x3 x4; obtain ⟨y0, y1, y2, y3⟩ := s2.cells)
    | (go_at_call 4; have tk := t2; clear t2; refine (KL.out _ s2.bw).mono ?_; rintro e w3 ⟨rfl, hd⟩; have s3 := s2.step hd; clear y0 y1 y2 y3; obtain ⟨y0, y1, y2, y3⟩ := s3.cells; have hF3 := RecAt.below hF2 hd hd.size; clear hd; have t3 := tk)
    | (go_at_call 4; have tk := t3; clear t3; refine (K1.out _ _ _ hF3 hc3 hc4).mono ?_; rintro e w4 ⟨rfl, hd⟩; have s4 := s3.step hd; clear y0 y1 y2 y3; obtain ⟨y0, y1, y2, y3⟩ := s4.cells; have hF4 := RecAt.below hF3 hd hd.size; clear hd; have t4 := tk)
    | (go_at_call 4; have tk := t4; clear t4; refine (K1.out _ _ _ hF4 hc3 hc4).mono ?_; rintro e w5 ⟨rfl, hd⟩; have s5 := s4.step hd; clear y0 y1 y2 y3; obtain ⟨y0, y1, y2, y3⟩ := s5.cells; have hF5 := RecAt.below hF4 hd hd.size; clear hd)
    | (go_at_call 7; refine (KU.out _ _ _ hF5 hc3 hc4).mono ?_; rintro e w6 ⟨A6, c6, rfl, hU6, hu1, hu2, hd⟩; have s6 := s5.step hd; clear y0 y1 y2 y3; obtain ⟨y0, y1, y2, y3⟩ := s6.cells; have hF6 := RecAt.below hF5 hd hd.size; clear hd; have t7 := HT)
    | (go_at_call 4; have tk := t7; clear t7; refine (K3.out _ _ _ hU6 hu1 hu2).mono ?_; rintro e w7 ⟨rfl, hd⟩; have s7 := s6.step hd; clear y0 y1 y2 y3; obtain ⟨y0, y1, y2, y3⟩ := s7.cells; have hF7 := RecAt.below hF6 hd hd.size; clear hd; have t8 := HT)
    | (go_at_call 8; have tk := t8; clear t8; refine (KS.out _ _ _ hF7 hc3 hc4).mono ?_; rintro e w8 ⟨A8, c8, rfl, hS8, hd⟩; have s8 := s7.step hd; clear y0 y1 y2 y3; obtain ⟨y0, y1, y2, y3⟩ := s8.cells; have hF8 := RecAt.below hF7 hd hd.size; clear hd)
    | (go_at_call 9; refine (KI.out _ _ _ hS8).mono ?_; rintro e w9 ⟨rfl, rfl⟩)
    | (go_at_call 10; refine (KC.out _ _ _ hF8 hc3 hc4).mono ?_; rintro e w10 ⟨A10, c10, rfl, hC10, hx1, hx2, hd⟩; have hS10 := RecAt.below hS8 hd hd.size; have s10 := s8.step hd; clear y0 y1 y2 y3; obtain ⟨y0, y1, y2, y3⟩ := s10.cells; have hF10 := RecAt.below hF8 hd hd.size; clear hd; have t11 := HT)
    | (go_at_call 8; have tk := t11; clear t11; refine (KT.out _ _ _ hC10 hx1 hx2).mono ?_; rintro e w11 ⟨A11, c11, rfl, hS11, hd⟩; have hS12 := RecAt.below hS10 hd hd.size; have s11 := s10.step hd; clear y0 y1 y2 y3; obtain ⟨y0, y1, y2, y3⟩ := s11.cells; have hF11 := RecAt.below hF10 hd hd.size; clear hd)
    | (go_at_call 11; refine (KX.out _ _ _ _ _ hS11 hS12).mono ?_; rintro e w12 ⟨rfl, hd⟩; have s12 := s11.step hd; clear y0 y1 y2 y3; obtain ⟨y0, y1, y2, y3⟩ := s12.cells; have hF12 := RecAt.below hF11 hd hd.size; clear hd; have t13 := HT)
    | (go_at_call 4; have tk := t13; clear t13; refine (K2.out _ _ _ hF12 hc3 hc4).mono ?_; rintro e w13 ⟨rfl, hd⟩; have s13 := s12.step hd; clear y0 y1 y2 y3; obtain ⟨y0, y1, y2, y3⟩ := s13.cells; have hF13 := RecAt.below hF12 hd hd.size; clear hd)
    | (go_at_call 12; refine (KG.out _ _ _ hF13 hc3 hc4).mono ?_; rintro e w14 ⟨A14, c14, rfl, hG14, hd⟩; have s14 := s13.step hd; clear y0 y1 y2 y3; obtain ⟨y0, y1, y2, y3⟩ := s14.cells; have hF14 := RecAt.below hF13 hd hd.size; clear hd))
  go_loopw [29, 30] (fun x i wr => ∃ k : Nat, k ≤ G.length ∧ i = .int .i64 k ∧ x = .bool ((G.take k).any fun s => inS s d && (s.m == m)) ∧ Drew w14 wr) (fun _ i _ => G.length - (intOf i).toNat)
  case atStart => exact ⟨0, Nat.zero_le _, rfl, rfl, 0, rfl⟩
  case round =>
    obtain ⟨k, hk, rfl, rfl, hdr⟩ := hrel
    by_cases hlk : k < G.length
    · obtain ⟨bb, off, rfl, hbB, r0, r1, r2⟩ := hG14.at hlk
      have q0 := (hdr.cell _).trans r0
      have q1 := (hdr.cell _).trans r1
      have q2 := (hdr.cell _).trans r2
      have q3 := (hdr.cell _).trans y3
      have Hd := Lib.hid hdr
      have hsn : (G.take (k + 1)).any (fun s => inS s d && (s.m == m)) = ((G.take k).any (fun s => inS s d && (s.m == m)) || (inS G[k] d && (G[k].m == m))) := by
        rw [List.take_succ_eq_append_getElem hlk, List.any_append]; simp
      have Hsn := Lib.hid hsn
      have Hin := Lib.hid (show inS G[k] d = decide (G[k].f ≤ (d : Int) ∧ (d : Int) < G[k].t) from rfl)
      clear hsn hdr r0 r1 r2
      generalize (G.take k).any (fun s => inS s d && (s.m == m)) = ba at Hsn ⊢
      generalize hgf : G[k].f = gf at q0 Hin
      generalize hgt : G[k].t = gt at q1 Hin
      generalize hgm : G[k].m = gm at q2 Hsn
      clear hgf hgt hgm
      have hcase : ba = true ∨ (ba = false ∧ (((d : Int) < gf ∧ decide (gf ≤ (d : Int)) = false) ∨ ((gf ≤ (d : Int) ∧ decide (gf ≤ (d : Int)) = true) ∧ ((gt ≤ (d : Int) ∧ decide ((d : Int) < gt) = false) ∨ (((d : Int) < gt ∧ decide ((d : Int) < gt) = true) ∧ ((gm == m) = true ∨ (gm == m) = false)))))) := by
        cases ba
        · refine .inr ⟨rfl, ?_⟩
          rcases Int.lt_or_le (d : Int) gf with h1 | h1
          · exact .inl ⟨h1, by simp; omega⟩
          · refine .inr ⟨⟨h1, by simpa using h1⟩, ?_⟩
            rcases Int.lt_or_le (d : Int) gt with h2 | h2
            · refine .inr ⟨⟨h2, by simpa using h2⟩, ?_⟩
              cases gm == m
              · exact .inr rfl
              · exact .inl rfl
            · exact .inl ⟨h2, by simp; omega⟩
        · exact .inl rfl
      rcases hcase with rfl | ⟨rfl, ⟨h1, g1⟩ | ⟨⟨h1, g1⟩, ⟨h2, g2⟩ | ⟨⟨h2, g2⟩, h3 | h3⟩⟩⟩
      all_goals
        go_wp2_with fail
        go_quiet (fail)
        go_wp2_with fail
        go_roundw
        case rel => exact ⟨k + 1, by omega, by go_num, by rw [Hsn.out, Hin.out]; simp_all <;> intros <;> omega, Hd.out.drewN _⟩
        case measure => simp [intOf]; omega
    · obtain rfl : k = G.length := by omega
      have hz := s14.bw.trans (hdr.below w.heap.size)
      rw [List.take_length, HG.out]
      have hbb : ((b != m) == (b != m)) = true := by simp
      go_wp2_with fail
      go_ret
      exact ⟨by simp, hz⟩
end
end Go.Proofs.Ytefojeaoechgoaa
