/- The smallest length of a tour. -/
import Derived.Test.YtmodbpglopfghaaVanD
import Derived.RegionTactic
import Derived.Deep.RegionWith
import Derived.Deep.LoopGhost
set_option linter.unusedSimpArgs false
namespace Go.Proofs.Ytmodbpglopfghaa
open Go.RowKit

theorem MpAt.only {w w' : World} {g g' cnt : Nat} {m : Nat → Nat → Option Int} (h : MpAt w g cnt m) (ho : Only g' w w') (hne : g ≠ g') : MpAt w' g cnt m := by
  obtain ⟨D, h1, h2⟩ := h
  exact ⟨D, h1.kept ho (fun e => hne (by injection e)), h2⟩
theorem WaAt.only {B g : Nat} {w w' : World} {b off n : Nat} {f : Nat → Nat → Int} (h : WaAt B w b off n f) (ho : Only g w w') (hB : B ≤ w.heap.size) (hg : B ≤ g) : WaAt B w' b off n f := by
  refine ⟨h.1, fun i hi => ?_⟩
  obtain ⟨b1, off1, c1, h1, h2, h3⟩ := h.2 i hi
  exact ⟨b1, off1, c1, h1, (ho.cell (p := ⟨b, off + i, none⟩) (Nat.lt_of_lt_of_le h.1 hB) (Nat.ne_of_lt (Nat.lt_of_lt_of_le h.1 hg))).trans h2, fun j hj => (ho.cell (p := ⟨b1, off1 + j, none⟩) (Nat.lt_of_lt_of_le h1 hB) (Nat.ne_of_lt (Nat.lt_of_lt_of_le h1 hg))).trans (h3 j hj)⟩
theorem pow_wrap7 {x : Nat} (h : x ≤ 7) : wrap64 ((2 : Int) ^ x) = ((2 ^ x : Nat) : Int) := by
  have : ∀ x : Nat, x < 8 → wrap64 ((2 : Int) ^ x) = ((2 ^ x : Nat) : Int) := by decide +kernel
  exact this x (by omega)

theorem bit_one {k j : Nat} (hk : k < 256) (hj : j < 8) : bits BinOp.and IntKind.i64 ((k : Int) / (2 : Int) ^ j) 1 = if k.testBit j then 1 else 0 := by
  have : ∀ j : Nat, j < 8 → ∀ k : Nat, k < 256 → bits BinOp.and IntKind.i64 ((k : Int) / (2 : Int) ^ j) 1 = if k.testBit j then 1 else 0 := by decide +kernel
  exact this j hj k hk
theorem or_one {k j : Nat} (hk : k < 256) (hj : j < 8) : bits BinOp.or IntKind.i64 (k : Int) ((2 ^ j : Nat) : Int) = ((k ||| 2 ^ j : Nat) : Int) := by
  have : ∀ j : Nat, j < 8 → ∀ k : Nat, k < 256 → bits BinOp.or IntKind.i64 (k : Int) ((2 ^ j : Nat) : Int) = ((k ||| 2 ^ j : Nat) : Int) := by decide +kernel
  exact this j hj k hk
section
variable {n : Nat} {f : Nat → Nat → Int} {m : Nat → Nat → Option Int}
/-- The stops up to j were gone on to. -/
def Dn (f : Nat → Nat → Int) (m : Nat → Nat → Option Int) (s l : Nat) (d : Int) (j : Nat) : Prop := ∀ t, 1 ≤ t → t ≤ j → s.testBit t = false → ∃ e, m (s ||| 2 ^ t) t = some e ∧ e ≤ d + f l t
theorem DP.done {s l : Nat} {d : Int} (h : DP n f m (Bef s l)) (hd : m s l = some d) (hn : Dn f m s l d (n - 1)) : DP n f m (Bef s (l + 1)) := by
  refine ⟨h.sound, h.init, fun s' l' d' hb hd' t h1 h2 h3 => ?_⟩
  by_cases e : s' = s ∧ l' = l
  · obtain ⟨rfl, rfl⟩ := e
    rw [hd] at hd'
    injection hd' with hd'
    subst hd'
    exact hn t h1 (by omega) h3
  · refine h.comp s' l' d' ?_ hd' t h1 h2 h3
    unfold Bef at hb ⊢
    omega
theorem DP.fin {s : Nat} (h : DP n f m (Bef s 1)) (hs : 2 ^ n - 2 < s) : DP n f m fun _ _ => True :=
  h.mono fun s' l' d hd _ => by
    obtain ⟨h1, h2, _, _⟩ := h.even hd
    have : 2 ^ n % 2 = 0 := by
      have := h.even hd
      obtain ⟨k, rfl⟩ : ∃ k, n = k + 1 := ⟨n - 1, by omega⟩
      rw [Nat.pow_succ]; omega
    unfold Bef
    omega
theorem DP.bd {B : Nat → Nat → Prop} {s l : Nat} {d : Int} (h : DP n f m B) (hf : ∀ i j, i < n → j < n → 0 ≤ f i j ∧ f i j ≤ 1000) (hn : n ≤ 7) (hd : m s l = some d) : 0 ≤ d ∧ d ≤ 6000 := by
  obtain ⟨r, hs, _, hp⟩ := h.sound _ _ _ hd
  have hb := pl_bd hf (l :: r) fun x hx => (hs.2 x hx).2
  have := (hs.2 l (by simp)).2
  have hl := stp_len hs (by omega)
  omega
/-- A stop that is in the set. -/
theorem Dn.skip {s l j : Nat} {d : Int} (h : Dn f m s l d j) (hb : s.testBit (j + 1) = true) : Dn f m s l d (j + 1) := fun t h1 h2 h3 => by
  by_cases e : t = j + 1
  · subst e; rw [hb] at h3; cases h3
  · exact h t h1 (by omega) h3
/-- A stop to which a shorter way is known. -/
theorem Dn.keep {s l j : Nat} {d e : Int} (h : Dn f m s l d j) (he : m (s ||| 2 ^ (j + 1)) (j + 1) = some e) (hle : e ≤ d + f l (j + 1)) : Dn f m s l d (j + 1) := fun t h1 h2 h3 => by
  by_cases et : t = j + 1
  · subst et; exact ⟨e, he, hle⟩
  · exact h t h1 (by omega) h3
theorem Dn.put {s l j : Nat} {d : Int} (h : Dn f m s l d j) : Dn f (upd m (s ||| 2 ^ (j + 1)) (j + 1) (d + f l (j + 1))) s l d (j + 1) := fun t h1 h2 h3 => by
  unfold upd
  by_cases et : t = j + 1
  · subst et; exact ⟨_, if_pos ⟨rfl, rfl⟩, Int.le_refl _⟩
  · obtain ⟨e, he, hle⟩ := h t h1 (by omega) h3
    exact ⟨e, by rw [if_neg (fun h => et h.2)]; exact he, hle⟩
theorem DP.put {s l j : Nat} {d : Int} (h : DP n f m (Bef s l)) (hd : m s l = some d) (hj : j + 1 < n) (hb : s.testBit (j + 1) = false) (hle : ∀ e, m (s ||| 2 ^ (j + 1)) (j + 1) = some e → d + f l (j + 1) ≤ e) :
    DP n f (Ytmodbpglopfghaa.upd m (s ||| 2 ^ (j + 1)) (j + 1) (d + f l (j + 1))) (Bef s l) ∧ Ytmodbpglopfghaa.upd m (s ||| 2 ^ (j + 1)) (j + 1) (d + f l (j + 1)) s l = some d := by
  have hg := or_gt hb
  refine ⟨h.upd (path_more (h.sound s l d hd) (by omega) hj hb) hle fun l' hbb => ?_, ?_⟩
  · unfold Bef at hbb; omega
  · unfold Ytmodbpglopfghaa.upd; rw [if_neg (fun h => by omega)]; exact hd
end

set_option maxRecDepth 100000 in
set_option maxHeartbeats 1000000 in
theorem shortest_any (b off n c B : Nat) (f : Nat → Nat → Int) (w : World) (hB : B ≤ w.heap.size) (h : WaAt B w b off n f) (hf : ∀ i j, i < n → j < n → 0 ≤ f i j ∧ f i j ≤ 1000) (h0 : f 0 0 = 0) (hn1 : 1 ≤ n) (hn7 : n ≤ 7) :
    Calls Try.prog 57 #[.slice (some ⟨b, off, none⟩) n c] w fun e w' => ∃ z, e = .returned (.int .i64 z) ∧ IsShort n f z ∧ 0 ≤ z ∧ z ≤ 8000 ∧ Below w.heap.size w w' := by
  by_cases h1 : n = 1
  · subst h1
    have HR := Lib.hid (show IsShort 1 f 0 from ⟨fun t ht => by
      have : t = [] := List.eq_nil_of_length_eq_zero ht.2
      subst this
      show 0 ≤ f 0 0
      omega, [], ⟨⟨List.nodup_nil, fun x hx => by simp at hx⟩, rfl⟩, h0⟩)
    clear h hf h0
    go_enter Try.func57, Try.ntmps57
    go_wp2_with fail
    go_ret
    exact ⟨0, rfl, HR.out, by omega, by omega, Below.refl _ _⟩
  · have hn2 : 2 ≤ n := by omega
    have hne1 : ((n : Int) == 1) = false := by simp; omega
    have hmm := @run_makeMap Try.prog
    have HW := Lib.hid (h.below (Below.refl _ _) hB)
    have Hf := Lib.hid hf
    have HM0 := Lib.hid (MpAt.made w)
    have hw0 : Below w.heap.size w (w.alloc (.map #[] 0)) := (Below.refl _ _).alloc (Nat.le_refl _) _
    have cs := Lib.hid (fun W => stops_any (some ⟨b, off, none⟩) n c W (by omega))
    have Hw0 := Lib.hid hw0
    clear h hf h0 hB hw0
    go_enter Try.func57, Try.ntmps57
    go_wp2_with (go_at_call 55; refine (cs.out _).mono ?_; rintro e w1 ⟨A1, c1, rfl, hown1, hd1⟩; have hI1 := IntsAt.of_own (zs := upto n) (by rw [upto_length]; exact hown1); have HI1 := Lib.hid hI1; have hM1 := HM0.out.below hd1 HM0.out.lt; have HA1 := Lib.hid (own_caps hown1).2.2; have HM1 := Lib.hid hM1; have hb1 := Hw0.out.trans (hd1.mono Hw0.out.size); have Hb1 := Lib.hid hb1; clear hown1 hI1 hM1 hd1 hb1)
    have HW1 := Lib.hid (HW.out.below Hb1.out (Nat.le_refl _))
    have hnn : (((n - 1 : Nat) : Int)) = (n : Int) - 1 := by omega
    go_loopw [26] (fun s26 wr => ∃ k : Nat, k ≤ n - 1 ∧ s26 = .int .i64 k ∧ MpAt wr w.heap.size k (mI f k) ∧ Only w.heap.size w1 wr) (fun s _ => n - 1 - (intOf s).toNat)
    case atStart => exact ⟨0, Nat.zero_le _, rfl, by rw [mI_zero]; exact HM1.out, Only.refl _ _⟩
    case round =>
      obtain ⟨k, hk, rfl, hM, hO⟩ := hrel
      by_cases hlt : k < n - 1
      · have hWr := HW1.out.only hO (by have := Hb1.out.size; omega) (Nat.le_refl _)
        obtain ⟨bs, os, rfl, hbs, q0⟩ := HI1.out.at (k := k) (by rw [upto_length]; exact hlt)
        have hgs : w.heap.size < bs := by
          have := (HA1.out _ rfl).1
          simp only [World.size_alloc] at this
          exact this
        rw [upto_get] at q0
        have q1 := (hO.cell (p := ⟨bs, os + k, none⟩) hbs (by show bs ≠ _; omega)).trans q0
        obtain ⟨b1, o1, c1', hb1', e1, f1⟩ := hWr.2 0 (by omega)
        have e2 := f1 (k + 1) (by omega)
        have hfb := Hf.out 0 (k + 1) (by omega) (by omega)
        have hmi := Lib.hid (mI_succ f k)
        obtain ⟨x, hx⟩ : ∃ x, x = k + 1 := ⟨_, rfl⟩
        rw [← hx] at q1 e2 hmi hfb
        have hx7 : x < 7 := by omega
        have hp := pow_wrap7 (x := x) (by omega)
        have hS : 2 ^ x < 256 := Nat.lt_of_lt_of_le (Nat.pow_lt_pow_right (by decide) hx7) (by decide)
        generalize 2 ^ x = S at hp hS hmi
        generalize f 0 x = d at e2 hmi hfb
        obtain ⟨w9, hrun, hM9, hg9⟩ := (show MpAt wr.drew w.heap.size k (mI f k) from hM.drewN 1).put (s := S) (l := x) (v := d) hS (by omega) (by omega) (by omega)
        rw [Nat.add_zero] at e1
        have hn0 : 0 < n := by omega
        have hx0 : (0 : Int) ≤ (x : Int) := by omega
        have hxn : (x : Int) < (n : Int) := by omega
        have hx64 : (x : Int) < 64 := by omega
        have Hx := Lib.hid hx
        clear hx
        go_wp2_with fail
        go_region
        all_goals
          go_wp2_with fail
          go_roundw
          case rel => exact ⟨k + 1, by omega, by go_num, by have h9 := hM9; rw [hmi.out, Hx.out] at h9; exact h9, hO.drew.trans hg9⟩
          case measure => simp [intOf]; omega
      · obtain rfl : k = n - 1 := by omega
        have HS := Lib.hid (DP.start n f)
        have hpn := pow_wrap7 (x := n) hn7
        have HN1 := Lib.hid (show 4 ≤ 2 ^ n ∧ 2 ^ n ≤ 128 from ⟨Nat.pow_le_pow_right (n := 2) (by decide) hn2, Nat.pow_le_pow_right (n := 2) (by decide) hn7⟩)
        obtain ⟨N, hN⟩ : ∃ N, N = 2 ^ n := ⟨_, rfl⟩
        rw [← hN] at hpn HN1
        have HN := Lib.hid hN
        clear hN
        obtain ⟨hN4, hN7⟩ := HN1.out
        obtain ⟨al, hal⟩ : ∃ al : Nat, al = N - 2 := ⟨_, rfl⟩
        have hal2 : (N : Int) - 2 = (al : Int) := by omega
        go_wp2_with fail
        rw [← hal, hnn, hpn]
        clear hpn
        have Hal := Lib.hid hal
        have hal128 : al ≤ 126 := by omega
        clear hal hal2
        have hM := Lib.hid hM
        have HO := Lib.hid hO
        clear hO
        have Hsz := Lib.hid Hb1.out.size
        go_loopw [7] (fun s7 wr => ∃ (q cnt : Nat) (m : Nat → Nat → Option Int), 1 ≤ q ∧ 2 * q ≤ al + 2 ∧ s7 = .int .i64 ((2 * q : Nat) : Int) ∧ MpAt wr w.heap.size cnt m ∧ cnt ≤ 10 + 200 * q ∧ Aside (DP n f m (Bef (2 * q) 1)) ∧ Only w.heap.size w1 wr) (fun s _ => al + 2 - (intOf s).toNat)
        case atStart => exact ⟨1, n - 1, _, Nat.le_refl _, by omega, rfl, hM.out, by omega, HS.out, HO.out⟩
        case round =>
          clear hM HO
          obtain ⟨q, cnt, m, hq1, hq2, rfl, hM, hcnt, hP, hO⟩ := hrel
          have HP := Lib.hid hP.out
          have HM := Lib.hid hM
          have HO := Lib.hid hO
          clear hP hM hO
          obtain ⟨set, hset⟩ : ∃ set, set = 2 * q := ⟨_, rfl⟩
          rw [← hset] at HP ⊢
          have Hset := Lib.hid hset
          by_cases hlt : set ≤ al
          · have hle : (set : Int) ≤ (al : Int) := by omega
            have hs256 : set < 256 := by omega
            clear hset
            go_wp2_with fail
            go_loopw [8] (fun s8 wr => ∃ (l cnt : Nat) (m : Nat → Nat → Option Int), 1 ≤ l ∧ l ≤ n ∧ s8 = .int .i64 l ∧ MpAt wr w.heap.size cnt m ∧ cnt ≤ 10 + 200 * q + 10 * l ∧ Aside (DP n f m (Bef set l)) ∧ Only w.heap.size w1 wr) (fun s _ => n - (intOf s).toNat)
            case atStart => exact ⟨1, cnt, m, Nat.le_refl _, hn1, rfl, HM.out, by omega, HP.out, HO.out⟩
            case round =>
              clear HM HO HP hcnt
              obtain ⟨l, cnt, m, hl1, hl2, rfl, hM, hcnt, hP, hO⟩ := hrel
              have HP := Lib.hid hP.out
              have HM := Lib.hid hM
              have HO := Lib.hid hO
              clear hP
              by_cases hln : l < n
              · have hlI : (l : Int) < (n : Int) := by omega
                have hlook := hM.look (s := set) (l := l) hs256 (by omega)
                cases hm : m set l with
                | none =>
                  rw [hm] at hlook
                  simp only [Option.getD_none, Option.isSome_none] at hlook
                  have HP2 := Lib.hid (HP.out.skip hm)
                  clear hM hm hO
                  go_wp2_with fail
                  go_roundw
                  case rel => exact ⟨l + 1, cnt, m, by omega, by omega, by go_num, HM.out, by omega, HP2.out, HO.out⟩
                  case measure => simp [intOf]; omega
                | some d =>
                  rw [hm] at hlook
                  simp only [Option.getD_some, Option.isSome_some] at hlook
                  have hdb := HP.out.bd Hf.out hn7 hm
                  have Hm := Lib.hid hm
                  have hb1r := Only.below hO (B := w.heap.size) (Nat.le_refl _) Hsz.out
                  have csr := Lib.hid (cs.out wr)
                  have Hsz1 := Lib.hid (Nat.lt_of_lt_of_le HM1.out.lt hO.size)
                  clear hM hm
                  go_wp2_with (go_at_call 55; refine csr.out.mono ?_; rintro e w2 ⟨A2, c2, rfl, hown2, hd2⟩; have HI2 := Lib.hid (IntsAt.of_own (zs := upto n) (by rw [upto_length]; exact hown2)); have HA2 := Lib.hid (show ∀ a, A2 = some a → w.heap.size < a.block from fun a ha => Nat.lt_of_lt_of_le Hsz1.out ((own_caps hown2).2.2 a ha).1); have HM2 := Lib.hid (HM.out.below hd2 HM.out.lt); have HO2 := Lib.hid (hO.trans (Only.of_below hd2 w.heap.size)); clear hown2 hd2)
                  clear hO hb1r
                  (try rw [hnn])
                  go_loopw [70] (fun s70 wr => ∃ (j cnt : Nat) (m : Nat → Nat → Option Int), j ≤ n - 1 ∧ s70 = .int .i64 j ∧ MpAt wr w.heap.size cnt m ∧ cnt ≤ 10 + 200 * q + 10 * l + j ∧ Aside (DP n f m (Bef set l)) ∧ Aside (m set l = some d) ∧ Aside (Dn f m set l d j) ∧ Only w.heap.size w2 wr) (fun s _ => n - 1 - (intOf s).toNat)
                  case atStart => exact ⟨0, cnt, m, Nat.zero_le _, rfl, HM2.out, by omega, HP.out, Hm.out, fun t h1 h2 => by omega, Only.refl _ _⟩
                  case round =>
                    clear HM2 HP Hm HM HO hcnt
                    obtain ⟨j, cnt, m, hj, rfl, hM, hcnt, hP0, hm0, hD0, hO⟩ := hrel
                    have HP := Lib.hid hP0.out
                    have Hm := Lib.hid hm0.out
                    have HD := Lib.hid hD0.out
                    have HM := Lib.hid hM
                    have HO3 := Lib.hid hO
                    clear hP0 hm0 hD0
                    have hO1 := HO2.out.trans hO
                    by_cases hjlt : j < n - 1
                    · have hWr := HW1.out.only hO1 Hsz.out (Nat.le_refl _)
                      obtain ⟨bs, os, rfl, hbs, q0⟩ := HI2.out.at (k := j) (by rw [upto_length]; exact hjlt)
                      have hgs : w.heap.size < bs := HA2.out _ rfl
                      rw [upto_get] at q0
                      have q1 := (hO.cell (p := ⟨bs, os + j, none⟩) hbs (by show bs ≠ _; omega)).trans q0
                      obtain ⟨b1, o1, c1', hb1', e1, f1⟩ := hWr.2 l hln
                      have e2 := f1 (j + 1) (by omega)
                      have hszr : w.heap.size < wr.heap.size := Nat.lt_of_lt_of_le HM1.out.lt hO1.size
                      have e1a := (bcell (balloc (Below.refl wr.heap.size wr) (.cells #[.int .i64 ((set ||| 2 ^ (j + 1) : Nat) : Int), .int .i64 ((j + 1 : Nat) : Int)] 109)) b (off + l) (Nat.lt_trans hWr.1 hszr)).trans e1
                      have e2a := (bcell (balloc (Below.refl wr.heap.size wr) (.cells #[.int .i64 ((set ||| 2 ^ (j + 1) : Nat) : Int), .int .i64 ((j + 1 : Nat) : Int)] 109)) b1 (o1 + (j + 1)) (Nat.lt_trans hb1' hszr)).trans e2
                      have hfb := Hf.out l (j + 1) hln (by omega)
                      have hbt := bit_one (k := set) (j := j + 1) hs256 (by omega)
                      have Hsk := Lib.hid (fun hb => HD.out.skip hb)
                      have Hke := Lib.hid (fun e (he : m (set ||| 2 ^ (j + 1)) (j + 1) = some e) hle => HD.out.keep he hle)
                      have Hpu := Lib.hid HD.out.put
                      have Hdp := Lib.hid (fun hb hle => HP.out.put Hm.out (j := j) (by omega) hb hle)
                      have hor := or_one (k := set) (j := j + 1) hs256 (by omega)
                      have hT : set ||| 2 ^ (j + 1) < 256 := Nat.or_lt_two_pow (n := 8) hs256 (show 2 ^ (j + 1) < 2 ^ 8 from Nat.pow_lt_pow_right (by decide) (by omega))
                      have hp := pow_wrap7 (x := j + 1) (by omega)
                      rw [← hp] at hor
                      clear hp f1 q0
                      generalize set ||| 2 ^ (j + 1) = T at hor hT Hke Hpu Hdp e1a e2a
                      generalize f l (j + 1) = d2 at e2 hfb Hke Hpu Hdp e2a
                      obtain ⟨x, hx⟩ : ∃ x, x = j + 1 := ⟨_, rfl⟩
                      rw [← hx] at q1 e2 hbt Hke Hpu Hdp Hsk hor e1a e2a
                      have hx7 : x < 7 := by omega
                      have hx0 : (0 : Int) ≤ (x : Int) := by omega
                      have hl0 : (0 : Int) ≤ (l : Int) := by omega
                      have hxn : (x : Int) < (n : Int) := by omega
                      have hx64 : (x : Int) < 64 := by omega
                      have Hx := Lib.hid hx
                      clear hx
                      cases hb : set.testBit x with
                      | true =>
                        rw [hb] at hbt
                        simp only [if_true] at hbt
                        have HD2 := Lib.hid (Hsk.out hb)
                        clear hb hM hO hO1
                        go_wp2_with fail
                        go_roundw
                        case rel => exact ⟨j + 1, cnt, m, by omega, by go_num, HM.out, by omega, HP.out, Hm.out, by rw [← Hx.out]; exact HD2.out, HO3.out⟩
                        case measure => simp [intOf]; omega
                      | false =>
                        rw [hb] at hbt
                        simp only [Bool.false_eq_true, if_false] at hbt
                        have hlook2 := (hM.alloc (.cells #[.int .i64 (T : Int), .int .i64 (x : Int)] 109)).look (s := T) (l := x) hT (by omega)
                        have Hdp2 := Lib.hid (Hdp.out hb)
                        have HMa := Lib.hid (show MpAt (wr.alloc (.cells #[.int .i64 (T : Int), .int .i64 (x : Int)] 109)).drew w.heap.size cnt m from (hM.alloc _).drewN 1)
                        have HMa0 := Lib.hid (hM.alloc (.cells #[.int .i64 (T : Int), .int .i64 (x : Int)] 109))
                        have HOa := Lib.hid (hO.alloc (.cells #[.int .i64 (T : Int), .int .i64 (x : Int)] 109))
                        have hkb := Blk.new wr 109 #[.int .i64 (T : Int), .int .i64 (x : Int)]
                        obtain ⟨y0, y1, _, _⟩ := blk2 hkb
                        clear hb hkb hM hO hO1
                        cases hm2 : m T x with
                        | none =>
                          rw [hm2] at hlook2
                          simp only [Option.getD_none, Option.isSome_none] at hlook2
                          have HD2 := Lib.hid (Hdp2.out (fun e he => by rw [hm2] at he; cases he))
                          clear hm2
                          have hwr : IntKind.i64.wrap (d + d2) = d + d2 := IntWalk.i64_in _ (by omega)
                          obtain ⟨w9, hrun, hM9, hg9⟩ := HMa.out.put (s := T) (l := x) (v := d + d2) hT (by omega) (by omega) (by omega)
                          go_wp2_with fail
                          go_region
                          all_goals
                            go_wp2_with fail
                            go_roundw
                            case rel => exact ⟨j + 1, cnt + 1, _, by omega, by go_num, hM9, by omega, HD2.out.1, HD2.out.2, by rw [← Hx.out]; exact Hpu.out, HOa.out.drew.trans hg9⟩
                            case measure => simp [intOf]; omega
                        | some e0 =>
                          rw [hm2] at hlook2
                          simp only [Option.getD_some, Option.isSome_some] at hlook2
                          have he0 := HP.out.bd Hf.out hn7 hm2
                          by_cases hlo : d + d2 < e0
                          · have hld : decide (d + d2 < e0) = true := by simpa using hlo
                            have HD2 := Lib.hid (Hdp2.out (fun e he => by rw [hm2] at he; injection he with he; omega))
                            clear hm2
                            have hwr : IntKind.i64.wrap (d + d2) = d + d2 := IntWalk.i64_in _ (by omega)
                            obtain ⟨w9, hrun, hM9, hg9⟩ := HMa.out.put (s := T) (l := x) (v := d + d2) hT (by omega) (by omega) (by omega)
                            go_wp2_with fail
                            go_region
                            all_goals
                              go_wp2_with fail
                              go_roundw
                              case rel => exact ⟨j + 1, cnt + 1, _, by omega, by go_num, hM9, by omega, HD2.out.1, HD2.out.2, by rw [← Hx.out]; exact Hpu.out, HOa.out.drew.trans hg9⟩
                              case measure => simp [intOf]; omega
                          · have hld : decide (d + d2 < e0) = false := by simpa using hlo
                            have HD2 := Lib.hid (Hke.out e0 hm2 (by omega))
                            clear hm2
                            go_wp2_with fail
                            go_roundw
                            case rel => exact ⟨j + 1, cnt, m, by omega, by go_num, HMa0.out, by omega, HP.out, Hm.out, by rw [← Hx.out]; exact HD2.out, HOa.out⟩
                            case measure => simp [intOf]; omega
                    · obtain rfl : j = n - 1 := by omega
                      have HPd := Lib.hid (HP.out.done Hm.out HD.out)
                      go_wp2_with fail
                      go_roundw
                      case rel => exact ⟨l + 1, cnt, m, by omega, by omega, by go_num, HM.out, by omega, HPd.out, hO1⟩
                      case measure => simp [intOf]; omega
              · obtain rfl : n = l := by omega
                have HPn := Lib.hid (HP.out.next (by rw [Hset.out]; omega))
                go_wp2_with fail
                have eq := Lib.hid (show 2 * (q + 1) = set + 2 by have := Hset.out; omega)
                have eqi := Lib.hid (show ((2 * (q + 1) : Nat) : Int) = (set : Int) + 2 by have := Hset.out; omega)
                have HPn2 := Lib.hid (show DP n f m (Bef (2 * (q + 1)) 1) by rw [eq.out]; exact HPn.out)
                have Hq2 := Lib.hid (show 2 * (q + 1) ≤ al + 2 by have := Hset.out; omega)
                go_roundw
                case rel => exact ⟨q + 1, cnt, m, by omega, Hq2.out, by rw [eqi.out], HM.out, by omega, HPn2.out, HO.out⟩
                case measure => simp [intOf]; omega
          · have HAl := Lib.hid (show al = 2 ^ n - 2 by rw [Hal.out, HN.out])
            have HPf := Lib.hid (HP.out.fin (by rw [← HAl.out]; omega))
            have Hsh := Lib.hid (fun z h1 h2 => HPf.out.short Hf.out hn2 (z := z) h1 h2)
            have Hlast := Lib.hid (fun l h1 h2 => show ∃ d, m al l = some d ∧ 0 ≤ d ∧ d ≤ 1000 * (n : Int) ∧ vl f m n l = d + f l 0 from by
              obtain ⟨d, hd, h3, h4⟩ := HPf.out.last Hf.out (l := l) h1 h2
              exact ⟨d, by rw [HAl.out]; exact hd, h3, h4, by rw [vl, hd]; rfl⟩)
            have HM2 := Lib.hid HM.out
            clear hset hcnt HP HPf HAl Hal HN
            go_wp2_with fail
            go_loopw [16, 17] (fun s16 s17 wr => ∃ (l : Nat) (z : Int), 1 ≤ l ∧ l ≤ n ∧ s17 = .int .i64 l ∧ s16 = .int .i64 z ∧ ((z = -1 ∧ l = 1) ∨ (0 ≤ z ∧ z ≤ 8000 ∧ 1 < l)) ∧ Aside (∀ l', 1 ≤ l' → l' < l → z ≤ vl f m n l') ∧ Aside (1 < l → ∃ l', 1 ≤ l' ∧ l' < l ∧ z = vl f m n l') ∧ MpAt wr w.heap.size cnt m ∧ Only w.heap.size w1 wr) (fun _ s _ => n - (intOf s).toNat)
            case atStart => exact ⟨1, -1, Nat.le_refl _, hn1, rfl, rfl, .inl ⟨rfl, rfl⟩, fun l' h1 h2 => by omega, fun h => by omega, HM2.out, HO.out⟩
            case round =>
              clear HM HM2 HO
              obtain ⟨l, z, hl1, hl2, rfl, rfl, hz, hA0, hE0, hM, hO⟩ := hrel
              have HA := Lib.hid hA0.out
              have HE := Lib.hid hE0.out
              have HM := Lib.hid hM
              have HO := Lib.hid hO
              clear hA0 hE0
              by_cases hln : l < n
              · have hWr := HW1.out.only hO Hsz.out (Nat.le_refl _)
                obtain ⟨b1, o1, c1', hb1', e1, f1⟩ := hWr.2 l hln
                have e2 := f1 0 (by omega)
                rw [Nat.add_zero] at e2
                have hfb := Hf.out l 0 hln (by omega)
                obtain ⟨d, hd, hd0, hd1, hv⟩ := Hlast.out l hl1 hln
                have hlook := (show MpAt wr.drew w.heap.size cnt m from hM.drewN 1).look0 (s := al) (l := l) (by omega) (by omega)
                rw [hd] at hlook
                simp only [Option.getD_some] at hlook
                have Hv := Lib.hid hv
                generalize f l 0 = d2 at e2 hfb Hv
                have hn0 : 0 < n := by omega
                have hl0 : (0 : Int) ≤ (l : Int) := by omega
                have hlI : (l : Int) < (n : Int) := by omega
                have hwr : IntKind.i64.wrap (d + d2) = d + d2 := IntWalk.i64_in _ (by omega)
                have HMd := Lib.hid (show MpAt wr.drew w.heap.size cnt m from hM.drewN 1)
                clear f1 hv hd hM hO
                have hz3 : (z < 0 ∧ l = 1) ∨ (0 ≤ z ∧ 1 < l ∧ d + d2 < z) ∨ (0 ≤ z ∧ 1 < l ∧ z ≤ d + d2) := by omega
                rcases hz3 with ⟨hz0, hl⟩ | ⟨hz0, hl, hlo⟩ | ⟨hz0, hl, hlo⟩
                · have hzd : decide (z < 0) = true := by simpa using hz0
                  have HA2 := Lib.hid (show ∀ l', 1 ≤ l' → l' < l + 1 → d + d2 ≤ vl f m n l' from fun l' h1 h2 => by
                    obtain rfl : l' = l := by omega
                    rw [Hv.out]; exact Int.le_refl _)
                  have HE2 := Lib.hid (show 1 < l + 1 → ∃ l', 1 ≤ l' ∧ l' < l + 1 ∧ d + d2 = vl f m n l' from fun _ => ⟨l, hl1, by omega, Hv.out.symm⟩)
                  have hb2 : d + d2 ≤ 8000 := by omega
                  clear hz hl
                  go_wp2_with fail
                  go_region
                  all_goals
                    go_wp2_with fail
                    go_roundw
                    case rel => exact ⟨l + 1, d + d2, by omega, by omega, by go_num, rfl, .inr ⟨by omega, hb2, by omega⟩, HA2.out, HE2.out, HMd.out, HO.out.drew⟩
                    case measure => simp [intOf]; omega
                · have hzd : decide (z < 0) = false := by simpa using hz0
                  have hld : decide (d + d2 < z) = true := by simpa using hlo
                  have HA2 := Lib.hid (show ∀ l', 1 ≤ l' → l' < l + 1 → d + d2 ≤ vl f m n l' from fun l' h1 h2 => by
                    by_cases e : l' = l
                    · subst e; rw [Hv.out]; exact Int.le_refl _
                    · have := HA.out l' h1 (by omega)
                      omega)
                  have HE2 := Lib.hid (show 1 < l + 1 → ∃ l', 1 ≤ l' ∧ l' < l + 1 ∧ d + d2 = vl f m n l' from fun _ => ⟨l, hl1, by omega, Hv.out.symm⟩)
                  have hb2 : d + d2 ≤ 8000 := by omega
                  clear hz hl
                  go_wp2_with fail
                  go_region
                  all_goals
                    go_wp2_with fail
                    go_roundw
                    case rel => exact ⟨l + 1, d + d2, by omega, by omega, by go_num, rfl, .inr ⟨by omega, hb2, by omega⟩, HA2.out, HE2.out, HMd.out, HO.out.drew⟩
                    case measure => simp [intOf]; omega
                · have hzd : decide (z < 0) = false := by simpa using hz0
                  have hld : decide (d + d2 < z) = false := by simpa using hlo
                  have HA2 := Lib.hid (show ∀ l', 1 ≤ l' → l' < l + 1 → z ≤ vl f m n l' from fun l' h1 h2 => by
                    by_cases e : l' = l
                    · subst e; rw [Hv.out]; exact hlo
                    · exact HA.out l' h1 (by omega))
                  have HE2 := Lib.hid (show 1 < l + 1 → ∃ l', 1 ≤ l' ∧ l' < l + 1 ∧ z = vl f m n l' from fun _ => by
                    obtain ⟨l', h1, h2, h3⟩ := HE.out hl
                    exact ⟨l', h1, by omega, h3⟩)
                  have hb2 : z ≤ 8000 := by omega
                  clear hz hl
                  go_wp2_with fail
                  go_region
                  all_goals
                    go_wp2_with fail
                    go_roundw
                    case rel => exact ⟨l + 1, z, by omega, by omega, by go_num, rfl, .inr ⟨by omega, hb2, by omega⟩, HA2.out, HE2.out, HMd.out, HO.out.drew⟩
                    case measure => simp [intOf]; omega
              · obtain rfl : n = l := by omega
                have Hz := Lib.hid (Hsh.out z HA.out (HE.out (by omega)))
                have hz0 : 0 ≤ z ∧ z ≤ 8000 := by omega
                have hbe := hO.below (B := w.heap.size) (Nat.le_refl _) Hsz.out
                have Hend := Lib.hid (Hb1.out.trans hbe)
                clear hz hbe hO hM
                go_wp2_with fail
                go_ret
                exact ⟨z, rfl, Hz.out, hz0.1, hz0.2, Hend.out⟩
end Go.Proofs.Ytmodbpglopfghaa
