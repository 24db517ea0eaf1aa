/- The law of tables. -/
import Derived.Test.YtgoojcjfhghmgaaDoorDisU
namespace Go.Proofs.YtgoojcjfhghmgaaDoor
open Go.RowKit

theorem ds_zero {l : List Int} {d ch : Int} (h : dsE l d ch = 0) : vtR l d = 0 ∧ 0 ≤ ch ∧ ch < (2 : Int) ^ l.length := by
  unfold dsE at h
  split at h
  · rename_i h0
    split at h
    · contradiction
    · exact ⟨h0, by omega, by omega⟩
  · contradiction
/-- A set without its lowest child. -/
def lessI (ch : Int) : Int := bits BinOp.and IntKind.i64 ch (wrap64 (ch - 1))
theorem less_facts {l : List Int} {d ch : Int} (h : dsE l d ch = 0) (hp : 0 < ch) :
    dsE l d (lessI ch) = 0 ∧ bits BinOp.and IntKind.i64 (dsV l d (lessI ch)) (dsV l d ch) = dsV l d ch := by
  obtain ⟨h0, h1, h2⟩ := ds_zero h
  obtain ⟨g1, g2, g3, g4, g5⟩ := vt_zero h0
  have h256 : ch.toNat < 256 := by
    have := lt256 (x := ch.toNat) (d := l.length) (by have := pow_cast l.length; omega) g3
    exact this
  obtain ⟨n, rfl⟩ : ∃ n : Nat, ch = n := ⟨ch.toNat, by omega⟩
  simp only [Int.toNat_natCast] at h256
  have e1 : wrap64 ((n : Int) - 1) = ((n - 1 : Nat) : Int) := by
    have : ∀ n : Nat, n < 256 → 0 < n → wrap64 ((n : Int) - 1) = ((n - 1 : Nat) : Int) := by decide +kernel
    exact this n h256 (by omega)
  have e2 : lessI (n : Int) = ((n &&& (n - 1) : Nat) : Int) := by
    unfold lessI
    rw [e1]; exact and_nat n (n - 1) (by omega) (by omega)
  have hle : n &&& (n - 1) ≤ n := Nat.and_le_left
  rw [e2]
  have hz : dsE l d ((n &&& (n - 1) : Nat) : Int) = 0 := by
    unfold dsE
    rw [if_pos h0, if_neg (by omega)]
  refine ⟨hz, ?_⟩
  unfold dsV
  rw [if_pos hz, if_pos h]
  simp only [Int.toNat_natCast]
  have b1 : ∀ c, comS (natL l) d.toNat c < 256 := fun c => lt256 (sumTo_lt _ _) (by omega)
  rw [and_nat _ _ (by have := b1 (n &&& (n - 1)); omega) (by have := b1 n; omega)]
  congr 1
  exact sub_and fun q hq => comS_less (fun i hi => by rw [Nat.testBit_and, Bool.and_eq_true] at hi; exact hi.1) q hq

set_option maxRecDepth 100000 in
set_option maxHeartbeats 4000000 in
theorem law_tables (A : Option Addr) (c : Nat) (l : List Int) (d ch : Int) (w : World) (h : IntsAt w.heap.size w A l) (hT : Tab w) :
    Calls Tryd.prog 8 #[.slice A l.length c, .int .i64 d, .int .i64 ch] w fun e w' => e = .returned (.bool true) ∧ Below w.heap.size w w' := by
  by_cases hl : 60 < l.length
  · have ck := Lib.hid (known_any w hT)
    have hld : decide ((60 : Int) < (l.length : Int)) = true := by simp; omega
    clear h hT
    go_enter Tryd.func8, Tryd.ntmps8
    go_wp2_with (go_at_call 18; refine ck.out.mono ?_; rintro e w1 ⟨rfl, hd⟩)
    go_ret
    exact ⟨rfl, hd⟩
  · have hld : decide ((60 : Int) < (l.length : Int)) = false := by simp; omega
    have hI := fun W (hW : Below w.heap.size w W) => h.below hW (Nat.le_refl _)
    have c1 := Lib.hid (Dishes_any A c w.heap.size l d ch w (Nat.le_refl _) h (by omega) hT)
    have c1b := Lib.hid (fun W (hW : Below w.heap.size w W) => Dishes_any A c w.heap.size l d (lessI ch) W hW.size (hI W hW) (by omega) (hT.below hW hT.2))
    have c2 := Lib.hid (fun W (hW : Below w.heap.size w W) => Dishes_ref A c w.heap.size l d ch W hW.size (hI W hW) (by omega))
    have c3 := Lib.hid (fun W (hW : Below w.heap.size w W) => Children_any A c w.heap.size l d ch W hW.size (hI W hW) (by omega))
    have c4 := Lib.hid (fun W (hW : Below w.heap.size w W) => Children_ref A c w.heap.size l d ch W hW.size (hI W hW) (by omega))
    have c5 := Lib.hid (fun W (hW : Below w.heap.size w W) => vt_any A c w.heap.size l d W hW.size (hI W hW) (by omega))
    have c6 := Lib.hid (fun W (hW : Below w.heap.size w W) => vt_ref A c w.heap.size l d W (hI W hW) (by omega))
    have ck := Lib.hid (fun W (hW : Below w.heap.size w W) => known_any W (hT.below hW hT.2))
    have HF := Lib.hid (fun (h0 : dsE l d ch = 0) (hp : 0 < ch) => less_facts h0 hp)
    have HL := Lib.hid (show bits BinOp.and IntKind.i64 ch (wrap64 (ch - 1)) = lessI ch from rfl)
    clear h hT hI
    generalize dsE l d ch = e1 at *
    generalize dsV l d ch = v1 at *
    generalize dsE l d (lessI ch) = e3 at *
    generalize dsV l d (lessI ch) = v3 at *
    generalize cdE l d ch = e2 at *
    generalize cdV l d ch = v2 at *
    generalize vtR l d = e0 at *
    generalize lessI ch = lch at *
    have tok := Lib.hid (Nat.le_refl 0)
    by_cases hx : e1 = 0 ∧ 0 < ch
    · obtain ⟨rfl, hp⟩ := hx
      obtain ⟨rfl, hbb⟩ := HF.out rfl hp
      have hpd : decide (0 < ch) = true := by simpa using hp
      have hbb2 : (bits BinOp.and IntKind.i64 v3 v1 != v1) = false := by rw [hbb]; simp
      have hll := HL.out
      clear HF HL hp
      go_enter Tryd.func8, Tryd.ntmps8
      go_wp2_with (first
        | (have tk := tok; clear tok; go_at_call 35; refine c1.out.mono ?_; rintro e w1 ⟨rfl, hb⟩; have hb1 := hb; clear hb; have tok2 := tk)
        | (have tk := tok2; clear tok2; go_at_call 36; refine (c2.out _ hb1).mono ?_; rintro e w2 ⟨rfl, hb⟩; have hb2 := hb1.trans (hb.mono hb1.size); clear hb; have tok3 := tk)
        | (have tk := tok3; clear tok3; go_at_call 37; refine (c3.out _ hb2).mono ?_; rintro e w3 ⟨rfl, hb⟩; have hb3 := hb2.trans (hb.mono hb2.size); clear hb; have tok4 := tk)
        | (have tk := tok4; clear tok4; go_at_call 38; refine (c4.out _ hb3).mono ?_; rintro e w4 ⟨rfl, hb⟩; have hb4 := hb3.trans (hb.mono hb3.size); clear hb; have tok5 := tk)
        | (have tk := tok5; clear tok5; go_at_call 39; refine (c5.out _ hb4).mono ?_; rintro e w5 ⟨rfl, hb⟩; have hb5 := hb4.trans (hb.mono hb4.size); clear hb; have tok6 := tk)
        | (have tk := tok6; clear tok6; go_at_call 40; refine (c6.out _ hb5).mono ?_; rintro e w6 ⟨rfl, hb⟩; have hb6 := hb5.trans (hb.mono hb5.size); clear hb; have tok7 := tk)
        | (have tk := tok7; clear tok7; go_at_call 35; refine (c1b.out _ hb6).mono ?_; rintro e w7 ⟨rfl, hb⟩; have hb7 := hb6.trans (hb.mono hb6.size); clear hb; have tok8 := tk)
        | (have tk := tok8; clear tok8; go_at_call 18; refine (ck.out _ hb7).mono ?_; rintro e w8 ⟨rfl, hb⟩; have hb8 := hb7.trans (hb.mono hb7.size); clear hb))
      go_ret
      exact ⟨rfl, hb8⟩
    · have hx2 : (e1 == 0) = false ∨ ((e1 == 0) = true ∧ decide (0 < ch) = false) := by
        by_cases h1 : e1 = 0
        · refine .inr ⟨by simp [h1], ?_⟩
          simp only [decide_eq_false_iff_not]
          exact fun h2 => hx ⟨h1, h2⟩
        · exact .inl (by simpa using h1)
      clear HF hx HL
      rcases hx2 with hx2 | ⟨hx2, hx3⟩
      all_goals
        go_enter Tryd.func8, Tryd.ntmps8
        go_wp2_with (first
          | (have tk := tok; clear tok; go_at_call 35; refine c1.out.mono ?_; rintro e w1 ⟨rfl, hb⟩; have hb1 := hb; clear hb; have tok2 := tk)
          | (have tk := tok2; clear tok2; go_at_call 36; refine (c2.out _ hb1).mono ?_; rintro e w2 ⟨rfl, hb⟩; have hb2 := hb1.trans (hb.mono hb1.size); clear hb; have tok3 := tk)
          | (have tk := tok3; clear tok3; go_at_call 37; refine (c3.out _ hb2).mono ?_; rintro e w3 ⟨rfl, hb⟩; have hb3 := hb2.trans (hb.mono hb2.size); clear hb; have tok4 := tk)
          | (have tk := tok4; clear tok4; go_at_call 38; refine (c4.out _ hb3).mono ?_; rintro e w4 ⟨rfl, hb⟩; have hb4 := hb3.trans (hb.mono hb3.size); clear hb; have tok5 := tk)
          | (have tk := tok5; clear tok5; go_at_call 39; refine (c5.out _ hb4).mono ?_; rintro e w5 ⟨rfl, hb⟩; have hb5 := hb4.trans (hb.mono hb4.size); clear hb; have tok6 := tk)
          | (have tk := tok6; clear tok6; go_at_call 40; refine (c6.out _ hb5).mono ?_; rintro e w6 ⟨rfl, hb⟩; have hb6 := hb5.trans (hb.mono hb5.size); clear hb; have tok7 := tk)
          | (have tk := tok7; clear tok7; go_at_call 18; refine (ck.out _ hb6).mono ?_; rintro e w8 ⟨rfl, hb⟩; have hb8 := hb6.trans (hb.mono hb6.size); clear hb))
        go_ret
        exact ⟨rfl, hb8⟩
end Go.Proofs.YtgoojcjfhghmgaaDoor
