/- Direct ways, of the program. -/
import Derived.Test.YtmodbpglopfghaaVanAh
import Derived.Test.YtmodbpglopfghaaVanAb
set_option linter.unusedSimpArgs false
set_option linter.unusedVariables false
namespace Go.Proofs.Ytmodbpglopfghaa
open Go.RowKit

theorem rowL_map (f : Nat → Nat → Int) (i n : Nat) : (rowL f i n).map (Value.int .i64) = (rowL f i n).map (Value.int .i64) := rfl
theorem wa_row {B b off n : Nat} {w : World} {f : Nat → Nat → Int} (h : WaAt B w b off n f) {i : Nat} (hi : i < n) : ∃ b1 off1 c1, b1 < B ∧ w.cell? ⟨b, off + i, none⟩ = some (.slice (some ⟨b1, off1, none⟩) n c1) ∧ IntsAt B w (some ⟨b1, off1, none⟩) (rowL f i n) := by
  obtain ⟨b1, o1, c1, h1, h2, h3⟩ := h.2 i hi
  refine ⟨b1, o1, c1, h1, h2, fun k hk => ?_⟩
  rw [rowL_length] at hk
  refine ⟨b1, o1, rfl, h1, fun j hj => ?_⟩
  obtain rfl : j = 0 := by omega
  rw [show o1 + k * 1 + 0 = o1 + k by omega, h3 k hk]
  simp [rowL, hk]
/-- A table of which the first i rows are there, each of its own. -/
def MTo (base g n : Nat) (f : Nat → Nat → Int) (i : Nat) (w : World) : Prop := base ≤ g ∧ g < w.heap.size ∧ (∀ d, w.frozen? ⟨g, d, none⟩ = false) ∧ (∀ i', i ≤ i' → i' < n → ∃ v, w.cell? ⟨g, i', none⟩ = some v) ∧ ∃ bs : Nat → Nat,
  (∀ i', i' < i → base ≤ bs i' ∧ bs i' ≠ g ∧ bs i' < w.heap.size) ∧ (∀ i' k, i' < i → k < i → i' ≠ k → bs i' ≠ bs k) ∧
  ∀ i', i' < i → (∃ c, w.cell? ⟨g, i', none⟩ = some (.slice (some ⟨bs i', 0, none⟩) n c)) ∧ ∀ j, j < n → w.cell? ⟨bs i', j, none⟩ = some (.int .i64 (f i' j)) ∧ w.frozen? ⟨bs i', j, none⟩ = false
theorem MTo.all {base g n : Nat} {f : Nat → Nat → Int} {w : World} (h : MTo base g n f n w) : MT base g n f w := by
  obtain ⟨h1, h2, _, _, bs, h3, h4, h5⟩ := h
  exact ⟨h1, h2, bs, h3, h4, h5⟩
theorem MTo.next {base g n i b c : Nat} {f : Nat → Nat → Int} {w w' : World} (h : MTo base g n f i w) (hi : i < n) (hb : Below w.heap.size w w') (hlo : w.heap.size ≤ b) (hbw : b < w'.heap.size)
    (hc : ∀ j, j < n → w'.cell? ⟨b, j, none⟩ = some (.int .i64 (f i j)) ∧ w'.frozen? ⟨b, j, none⟩ = false) (hbase : base ≤ w.heap.size) : MTo base g n f (i + 1) (w'.setCell ⟨g, i, none⟩ (.slice (some ⟨b, 0, none⟩) n c)) := by
  obtain ⟨h1, h2, h6, h7, bs, h3, h4, h5⟩ := h
  have hgw : g < w'.heap.size := Nat.lt_of_lt_of_le h2 hb.size
  have fz : ∀ p : Addr, (w'.setCell ⟨g, i, none⟩ (.slice (some ⟨b, 0, none⟩) n c)).frozen? p = w'.frozen? p := fun p => World.frozen?_setCell ..
  have far : ∀ q j, q ≠ g → (w'.setCell ⟨g, i, none⟩ (.slice (some ⟨b, 0, none⟩) n c)).cell? ⟨q, j, none⟩ = w'.cell? ⟨q, j, none⟩ := fun q j hq => World.cell?_of_block (a := ⟨q, j, none⟩) (Below.heap_setCell w' _ _ q (by simpa using hq))
  refine ⟨h1, by simpa [World.setCell] using hgw, fun d => ?_, fun i' hi1 hi2 => ?_, fun i' => if i' = i then b else bs i', fun i' hi' => ?_, fun i' k hi' hk hne => ?_, fun i' hi' => ?_⟩
  · rw [fz, frozen_block (hb.block g h2)]; exact h6 d
  · obtain ⟨v, hv⟩ := h7 i' (by omega) hi2
    refine ⟨v, ?_⟩
    rw [World.cell?_setCell_other _ _ _ _ (show (⟨g, i, none⟩ : Addr) ≠ ⟨g, i', none⟩ from fun e => by injection e with _ e; omega)]
    exact (hb.cell (p := ⟨g, i', none⟩) h2).trans hv
  · dsimp only
    by_cases e : i' = i
    · rw [if_pos e]; exact ⟨by omega, by omega, by simpa [World.setCell] using hbw⟩
    · rw [if_neg e]
      obtain ⟨q1, q2, q3⟩ := h3 i' (by omega)
      exact ⟨q1, q2, by simpa [World.setCell] using Nat.lt_of_lt_of_le q3 hb.size⟩
  · dsimp only
    by_cases e : i' = i
    · rw [if_pos e, if_neg (by omega)]
      have := (h3 k (by omega)).2.2
      omega
    · rw [if_neg e]
      by_cases e2 : k = i
      · rw [if_pos e2]
        have := (h3 i' (by omega)).2.2
        omega
      · rw [if_neg e2]; exact h4 i' k (by omega) (by omega) hne
  · by_cases e : i' = i
    · subst e
      simp only [if_pos]
      obtain ⟨v, hv⟩ := h7 i' (Nat.le_refl _) hi
      refine ⟨⟨c, World.cell?_setCell_same' _ _ _ (by rw [(hb.cell (p := ⟨g, i', none⟩) h2).trans hv]; rfl)⟩, fun j hj => ?_⟩
      rw [far b j (by omega), fz]
      exact hc j hj
    · simp only [if_neg e]
      obtain ⟨⟨c', q1⟩, q2⟩ := h5 i' (by omega)
      obtain ⟨q3, q4, q5⟩ := h3 i' (by omega)
      refine ⟨⟨c', ?_⟩, fun j hj => ?_⟩
      · rw [World.cell?_setCell_other _ _ _ _ (show (⟨g, i, none⟩ : Addr) ≠ ⟨g, i', none⟩ from fun e' => by injection e' with _ e'; omega)]
        exact (hb.cell (p := ⟨g, i', none⟩) h2).trans q1
      · rw [far (bs i') j q4, fz, frozen_block (hb.block _ q5)]
        exact ⟨(hb.cell (p := ⟨bs i', j, none⟩) q5).trans (q2 j hj).1, (q2 j hj).2⟩
theorem MTo.start {n : Nat} {f : Nat → Nat → Int} {cs : Array Value} (w : World) (hs : cs.size = n) : MTo w.heap.size w.heap.size n f 0 (w.alloc (.cells cs 28)) := by
  have hb := Blk.new w 28 cs
  refine ⟨Nat.le_refl _, hb.lt, hb.frozen, fun i' _ hi => ⟨cs[i'], by rw [hb.cell]; simp [hs, hi]⟩, fun _ => 0, fun i' h => absurd h (Nat.not_lt_zero _), fun i' k h => absurd h (Nat.not_lt_zero _), fun i' h => absurd h (Nat.not_lt_zero _)⟩

set_option maxRecDepth 100000 in
set_option maxHeartbeats 4000000 in
theorem direct_any (b off n c B : Nat) (f : Nat → Nat → Int) (w : World) (hB : B ≤ w.heap.size) (h : WaAt B w b off n f) (hf : ∀ i j, i < n → j < n → 0 ≤ f i j ∧ f i j ≤ 1000) (hn1 : 1 ≤ n) (hn7 : n ≤ 7) :
    Calls Try.prog 70 #[.slice (some ⟨b, off, none⟩) n c] w fun e w' => ∃ g D, e = .returned (.slice (some ⟨g, 0, none⟩) n n) ∧ MT w.heap.size g n D w' ∧ IsDist n f D ∧ Below w.heap.size w w' := by
  obtain ⟨cs, hcs, hcz, hmk⟩ := make_rows n (by omega)
  have H := Lib.hid (h.below (Below.refl _ _) hB)
  have Hf := Lib.hid hf
  have HM0 := Lib.hid (MTo.start (n := n) (f := f) w hcs)
  have Hw0 := Lib.hid ((Below.refl w.heap.size w).alloc (Nat.le_refl _) (.cells cs 28))
  clear h hf hcs hcz hB
  go_enter Try.func70, Try.ntmps70
  go_wp2_with fail
  go_loopw [14] (fun vi wr => ∃ i : Nat, i ≤ n ∧ vi = .int .i64 i ∧ MTo w.heap.size w.heap.size n f i wr ∧ Below w.heap.size w wr) (fun vi _ => n - (intOf vi).toNat)
  case atStart => exact ⟨0, Nat.zero_le _, rfl, HM0.out, Hw0.out⟩
  case round =>
    clear HM0 Hw0
    obtain ⟨i, hi, rfl, hM, hbr⟩ := hrel
    have HM := Lib.hid hM
    have HBr := Lib.hid hbr
    clear hM hbr
    by_cases hlt : i < n
    · obtain ⟨b1, o1, c1, hb1, e1, i1⟩ := wa_row (H.out.below HBr.out (Nat.le_refl _)) hlt
      have cc := clone_any (some ⟨b1, o1, none⟩) c1 w.heap.size (rowL f i n) wr (by rw [rowL_length]; omega) i1
      rw [rowL_length] at cc
      have CC := Lib.hid cc
      obtain ⟨v0, z0⟩ := HM.out.2.2.2.1 i (Nat.le_refl _) hlt
      have z1 := HM.out.2.2.1 i
      have hgw := HM.out.2.1
      have hiI : (i : Int) < (n : Int) := by omega
      clear cc i1
      go_wp2_with (go_at_call 61; refine CC.out.mono ?_; rintro e w2 ⟨v2, rfl, hown2, hd2⟩; obtain ⟨A2, c2, rfl⟩ := own_form hown2; obtain ⟨q, rfl, hq1, hq2, hq3, hI2⟩ := IR.of_own (zs := rowL f i n) hown2 (rowL_length f i n) (fun e => by injection e with _ e; omega); have HM2 := Lib.hid (HM.out.next (c := c2) hlt hd2 hq1 hI2.1 (fun j hj => by have := hI2.2 j (by rw [rowL_length]; exact hj); simpa [rowL] using this) HBr.out.size); have z2 := (hd2.cell (p := ⟨w.heap.size, i, none⟩) hgw).trans z0; have z3 := (frozen_block (i := i) (hd2.block w.heap.size hgw)).trans z1; have HB2 := Lib.hid (below_put (HBr.out.trans (hd2.mono HBr.out.size)) (Nat.le_refl _) i (.slice (some ⟨q, 0, none⟩) n c2)); clear hown2 hd2 hI2)
      go_roundw
      case rel => exact ⟨i + 1, by omega, by go_num, HM2.out, HB2.out⟩
      case measure => simp [intOf]; omega
    · obtain rfl : n = i := by omega
      have HMT := Lib.hid HM.out.all
      have HF := Lib.hid (Fl.start n f)
      have Hbd := Lib.hid (show ∀ (D : Nat → Nat → Int) k i' j', Fl n f D (Bst n k i' j') → ∀ x y, x < n → y < n → 0 ≤ D x y ∧ D x y ≤ 1000 from fun D k i' j' h x y hx hy => by
        obtain ⟨l, h1, h2⟩ := h.sound x y hx hy
        have h3 := wk_pos (fun a b ha hb => (Hf.out a b ha hb).1) hy l x hx h1
        have h4 := h.comp x y [] hx hy (by simp [Wl]) (.inl (by simp))
        have h5 := (Hf.out x y hx hy).2
        have : wk f y x [] = f x y := rfl
        omega)
      clear HM hmk
      go_wp2_with fail
      go_loopw [27] (fun vk wr => ∃ (k : Nat) (D : Nat → Nat → Int), k ≤ n ∧ vk = .int .i64 k ∧ MT w.heap.size w.heap.size n D wr ∧ Aside (Fl n f D (Bst n k 0 0)) ∧ Below w.heap.size w wr) (fun vk _ => n - (intOf vk).toNat)
      case atStart => exact ⟨0, f, Nat.zero_le _, rfl, HMT.out, HF.out, HBr.out⟩
      case round =>
        clear HMT HF HBr
        obtain ⟨k, D, hk, rfl, hM, hF, hbr⟩ := hrel
        have HM := Lib.hid hM
        have HF := Lib.hid hF.out
        have HBr := Lib.hid hbr
        clear hM hF hbr
        by_cases hklt : k < n
        · have hkI : (k : Int) < (n : Int) := by omega
          have hk0 : (0 : Int) ≤ (k : Int) := by omega
          go_wp2_with fail
          go_loopw [32] (fun vi wr => ∃ (i : Nat) (D : Nat → Nat → Int), i ≤ n ∧ vi = .int .i64 i ∧ MT w.heap.size w.heap.size n D wr ∧ Aside (Fl n f D (Bst n k i 0)) ∧ Below w.heap.size w wr) (fun vi _ => n - (intOf vi).toNat)
          case atStart => exact ⟨0, D, Nat.zero_le _, rfl, HM.out, HF.out, HBr.out⟩
          case round =>
            clear HM HF HBr
            obtain ⟨i, D, hi, rfl, hM, hF, hbr⟩ := hrel
            have HM := Lib.hid hM
            have HF := Lib.hid hF.out
            have HBr := Lib.hid hbr
            clear hM hF hbr
            by_cases hilt : i < n
            · have hiI : (i : Int) < (n : Int) := by omega
              have hi0 : (0 : Int) ≤ (i : Int) := by omega
              go_wp2_with fail
              go_loopw [37] (fun vj wr => ∃ (j : Nat) (D : Nat → Nat → Int), j ≤ n ∧ vj = .int .i64 j ∧ MT w.heap.size w.heap.size n D wr ∧ Aside (Fl n f D (Bst n k i j)) ∧ Below w.heap.size w wr) (fun vj _ => n - (intOf vj).toNat)
              case atStart => exact ⟨0, D, Nat.zero_le _, rfl, HM.out, HF.out, HBr.out⟩
              case round =>
                clear HM HF HBr
                obtain ⟨j, D, hj, rfl, hM, hF, hbr⟩ := hrel
                have HF := Lib.hid hF.out
                have HBr := Lib.hid hbr
                by_cases hjlt : j < n
                · have hjI : (j : Int) < (n : Int) := by omega
                  have hj0 : (0 : Int) ≤ (j : Int) := by omega
                  obtain ⟨bi, ci, q1, q2, e0, e1, hput⟩ := hM.at hilt
                  obtain ⟨bk, ck, q3, q4, g0, g1, _⟩ := hM.at hklt
                  obtain ⟨x0, x1⟩ := e1 j hjlt
                  have x2 := (e1 k hklt).1
                  have x3 := (g1 j hjlt).1
                  have b1 := Hbd.out D k i j HF.out i k hilt hklt
                  have b2 := Hbd.out D k i j HF.out k j hklt hjlt
                  have HF2 := Lib.hid (HF.out.step (fun a b ha hb => (Hf.out a b ha hb).1) hklt hilt hjlt)
                  have hp2 := hput (updD D i j (min (D i j) (D i k + D k j))) j hjlt (fun i' j' h1 h2 h3 => by unfold updD; rw [if_neg h3])
                  have hup : updD D i j (min (D i j) (D i k + D k j)) i j = min (D i j) (D i k + D k j) := by unfold updD; rw [if_pos ⟨rfl, rfl⟩]
                  rw [hup] at hp2
                  have HP2 := Lib.hid hp2
                  have HBn := Lib.hid (fun v => below_put (below_drewN HBr.out 1) q1 j v)
                  generalize updD D i j (min (D i j) (D i k + D k j)) = D2 at HF2 HP2
                  have hw1 : IntKind.i64.wrap (D i k + D k j) = D i k + D k j := IntWalk.i64_in _ (by omega)
                  generalize D i j = d1 at x0 HP2
                  generalize D i k = d2 at x2 HP2 hw1
                  generalize D k j = d3 at x3 HP2 hw1
                  clear hput hp2 hup e1 g1 hM hF hbr HF b1 b2
                  go_wp2_with fail
                  go_still_tail 28, (by kernel_rfl)
                  change wpList _ _ _ _ _ (wr.drewN 1)
                  go_wp2_with fail
                  go_roundw
                  case rel => exact ⟨j + 1, D2, by omega, by go_num, HP2.out, HF2.out, HBn.out _⟩
                  case measure => simp [intOf]; omega
                · obtain rfl : j = n := by omega
                  have HM := Lib.hid hM
                  have HF2 := Lib.hid HF.out.nextJ
                  clear hM hF hbr
                  go_wp2_with fail
                  go_roundw
                  case rel => exact ⟨i + 1, D, by omega, by go_num, HM.out, HF2.out, HBr.out⟩
                  case measure => simp [intOf]; omega
            · obtain rfl : i = n := by omega
              have HF2 := Lib.hid HF.out.nextK
              go_wp2_with fail
              go_roundw
              case rel => exact ⟨k + 1, D, by omega, by go_num, HM.out, HF2.out, HBr.out⟩
              case measure => simp [intOf]; omega
        · obtain rfl : k = n := by omega
          have HD := Lib.hid HF.out.done
          go_wp2_with fail
          go_ret
          exact ⟨_, D, rfl, HM.out, HD.out, HBr.out⟩
end Go.Proofs.Ytmodbpglopfghaa
