/- Latest f50, f51: sort.Search f80 over the closure f81. -/
import Derived.Test.YtmodbpglopfghaaVanAs
import Derived.Deep.LoopGhost
import Derived.WalkArith
set_option linter.unusedSimpArgs false
set_option linter.unusedVariables false
namespace Go.Proofs.Ytmodbpglopfghaa
open Go.RowKit

theorem arr_mono {f g : Nat → Nat → Int} {x y : Int} (h : x ≤ y) (a s : Nat) : arr f g x a s ≤ arr f g y a s := by
  unfold arr; omega
theorem nowT_mono {f g : Nat → Nat → Int} {b b' : Int} (h : b ≤ b') (t : List Nat) : ∀ k, nowT f g b t k ≤ nowT f g b' t k
  | 0 => h
  | k + 1 => by
    have := arr_mono (f := f) (g := g) (nowT_mono (f := f) (g := g) h t k) (atT t k) (t[k]?.getD 0)
    simp only [nowT]; omega
theorem bkT_mono {f g : Nat → Nat → Int} {b b' : Int} (h : b ≤ b') (t : List Nat) : bkT f g b t ≤ bkT f g b' t := by
  have := nowT_mono (f := f) (g := g) h t t.length
  unfold bkT; omega
theorem ltB_mono {f g : Nat → Nat → Int} {b b' : Int} (h : b ≤ b') (t : List Nat) (k : Nat) (hl : ltB f g b t k = true) : ltB f g b' t k = true := by
  unfold ltB at hl ⊢
  have := arr_mono (f := f) (g := g) (nowT_mono (f := f) (g := g) h t k) (atT t k) (t[k]?.getD 0)
  have := of_decide_eq_true hl
  exact decide_eq_true (by omega)
/-- Whether a van that begins at i is too late somewhere. -/
def lateB (f g : Nat → Nat → Int) (t : List Nat) (i : Nat) : Bool := decide (0 ≤ ltR f g (i : Int) t)
theorem lateB_false {f g : Nat → Nat → Int} {t : List Nat} {i : Nat} : lateB f g t i = false ↔ ltR f g (i : Int) t = -1 := by
  unfold lateB
  rw [decide_eq_false_iff_not]
  rcases lt_cases f g (i : Int) t with ⟨h, _⟩ | ⟨k, _, h, _⟩ <;> rw [h] <;> omega
theorem lateB_mono {f g : Nat → Nat → Int} {t : List Nat} {i j : Nat} (hij : i ≤ j) (h : lateB f g t i = true) : lateB f g t j = true := by
  cases e : lateB f g t j with
  | true => rfl
  | false =>
    rw [lateB_false] at e
    rcases lt_cases f g (j : Int) t with ⟨_, hn⟩ | ⟨k, _, h', _⟩
    · have : lateB f g t i = false := lateB_false.2 (lt_none fun k hk => by
        cases e2 : ltB f g (i : Int) t k with
        | false => rfl
        | true =>
          have := ltB_mono (show (i : Int) ≤ (j : Int) by omega) t k e2
          rw [hn k hk] at this; cases this)
      rw [this] at h; cases h
    · omega
/-- r is the first beginning that is too late. -/
def LaIs (N : Nat) (P : Nat → Bool) (r : Nat) : Prop := r ≤ N ∧ (∀ i, i < r → P i = false) ∧ ∀ i, r ≤ i → i < N → P i = true
theorem LaIs.unique {N : Nat} {P : Nat → Bool} {r s : Nat} (h : LaIs N P r) (h' : LaIs N P s) : r = s := by
  rcases Nat.lt_trichotomy r s with hlt | e | hlt
  · have h1 := h.2.2 r (Nat.le_refl _) (by have := h'.1; omega)
    rw [h'.2.1 r hlt] at h1; cases h1
  · exact e
  · have h1 := h'.2.2 s (Nat.le_refl _) (by have := h.1; omega)
    rw [h.2.1 s hlt] at h1; cases h1

section
variable (b off n c c1 c2 B : Nat) (f g : Nat → Nat → Int) (A1 A2 : Option Addr) (t : List Nat) (w : World) (hB : B ≤ w.heap.size) (h : WaAt B w b off n f) (hf : ∀ i j, i < n → j < n → 0 ≤ f i j ∧ f i j ≤ 1000) (h1 : StAt B w A1 n g) (hg : VS n g)
    (h2 : IntsAt B w A2 (intL t)) (ht : ∀ x ∈ t, x < n) (hn : 1 ≤ n) (hn7 : n ≤ 1000) (hm : t.length ≤ 1000)
include hB h hf h1 hg h2 ht hn hn7 hm

set_option maxRecDepth 100000 in
set_option maxHeartbeats 1000000 in
theorem latest1_any (q3 q4 q5 : Nat) (i : Nat) (hi : i ≤ 10000) (k3 : w.cell? ⟨q3, 0, none⟩ = some (.slice (some ⟨b, off, none⟩) n c)) (k4 : w.cell? ⟨q4, 0, none⟩ = some (.slice A1 n c1)) (k5 : w.cell? ⟨q5, 0, none⟩ = some (.slice A2 t.length c2)) :
    Calls Try.prog 81 #[.int .i64 (i : Nat), .pointer (some ⟨q3, 0, none⟩), .pointer (some ⟨q4, 0, none⟩), .pointer (some ⟨q5, 0, none⟩)] w fun e w' => e = .returned (.bool (lateB f g t i)) ∧ Below w.heap.size w w' := by
  have cd := Lib.hid (drive_any b off n c c1 c2 B f g A1 A2 t (i : Int) w hB h hf h1 hg h2 ht hn hn7 hm (by omega))
  have HVo := Lib.hid (fun (A3 : Option Addr) (c3 : Nat) (W : World) (ho : W.ownsRow w.heap.size 55 3 (.slice A3 t.length c3) t.length ((viT f g (i : Int) t t.length).flatMap fun r => r.map (Value.int .i64))) => show VisAt W.heap.size W A3 f g (i : Int) t from RowsAt.of_own (viT_row _ _ _ _ _) (c := c3) (base := w.heap.size) (e := 55) (by rw [viT_length]; exact ho))
  have cl := Lib.hid (fun (A3 : Option Addr) (c3 : Nat) (W : World) (hW : Below w.heap.size w W) (hV : VisAt W.heap.size W A3 f g (i : Int) t) => late_any A1 A3 n c1 c3 W.heap.size f g (i : Int) t W (Nat.le_refl _) ((h1.below (Below.refl _ _) hB).below hW hW.size) ht hn7 hm hV)
  have Hk4 := Lib.hid k4
  have hq4 := cell_lt k4
  unfold lateB
  generalize ltR f g (i : Int) t = r at cl ⊢
  generalize bkT f g (i : Int) t = bk at cd
  clear h h1 h2 hf hg ht
  go_enter Try.func81, Try.ntmps81
  go_wp2_with (first
    | (go_at_call 72; refine cd.out.mono ?_; rintro e w1 ⟨A3, c3, rfl, ho, hb1⟩; have HV := Lib.hid (HVo.out _ _ _ ho); clear ho; have k4' := (hb1.cell (p := ⟨q4, 0, none⟩) hq4).trans Hk4.out)
    | (go_at_call 76; refine (cl.out _ _ _ hb1 HV.out).mono ?_; rintro e w2 ⟨rfl, hb2⟩))
  go_ret
  exact ⟨rfl, hb1.trans (hb2.mono hb1.size)⟩
end

set_option maxRecDepth 100000 in
set_option maxHeartbeats 1000000 in
theorem Search_any (N : Nat) (hN : N ≤ 100000) (cs : Array Value) (P : Nat → Bool) (hP : ∀ i j, i ≤ j → P i = true → P j = true) (w : World)
    (hc : ∀ (i : Nat) (W : World), i < N → Below w.heap.size w W → Calls Try.prog 81 (#[.int .i64 (i : Nat)] ++ cs) W fun e w' => e = .returned (.bool (P i)) ∧ Below W.heap.size W w') :
    Calls Try.prog 80 #[.int .i64 (N : Nat), .func (.func 81) #[] cs] w fun e w' => ∃ r : Nat, e = .returned (.int .i64 (r : Nat)) ∧ LaIs N P r ∧ Below w.heap.size w w' := by
  have HC := Lib.hid hc
  have HP := Lib.hid hP
  clear hc hP
  go_enter Try.func80, Try.ntmps80
  go_wp2_with fail
  go_loopg [5, 6] N (fun gh s5 s6 wr => ∃ lo hi : Nat, s5 = .int .i64 lo ∧ s6 = .int .i64 hi ∧ lo ≤ hi ∧ hi ≤ N ∧ hi - lo ≤ gh ∧ (∀ i, i < lo → P i = false) ∧ (∀ i, hi ≤ i → i < N → P i = true) ∧ Below w.heap.size w wr)
  case atStart => exact ⟨0, N, rfl, rfl, Nat.zero_le _, Nat.le_refl _, by omega, fun i hi => absurd hi (Nat.not_lt_zero _), fun i h1 h2 => by omega, Below.refl _ _⟩
  case round =>
    obtain ⟨lo, hi, rfl, rfl, hlh, hin, hg, h1, h2, hbr⟩ := hrel
    have I := Lib.hid (And.intro h1 h2)
    have HBr := Lib.hid hbr
    clear h1 h2 hbr
    by_cases hlt : lo < hi
    · have cc := Lib.hid (HC.out ((lo + hi) / 2) wr (by omega) HBr.out)
      have hlI : (lo : Int) < (hi : Int) := by omega
      obtain ⟨m, hm⟩ : ∃ m : Nat, (lo + hi) / 2 = m := ⟨_, rfl⟩
      rw [hm] at cc
      have Hm := Lib.hid (show ((lo : Int) + (hi : Int)) / 2 = (m : Int) by omega)
      have hml : lo ≤ m := by omega
      have hmh : m < hi := by omega
      clear hm
      cases hp : P m with
      | true =>
        rw [hp] at cc
        have Hp := Lib.hid (show ∀ i, m ≤ i → i < N → P i = true from fun i hi _ => HP.out m i hi hp)
        clear hp
        go_wp2_with (go_at_call 81; rw [Hm.out]; refine cc.out.mono ?_; rintro e w3 ⟨rfl, hb3⟩)
        go_roundg (m - lo)
        case measure => omega
        case rel => exact ⟨lo, m, rfl, rfl, hml, by omega, Nat.le_refl _, I.out.1, Hp.out, HBr.out.trans (hb3.mono HBr.out.size)⟩
      | false =>
        rw [hp] at cc
        have Hp := Lib.hid (show ∀ i, i < m + 1 → P i = false from fun i hi => by
          cases e : P i with
          | false => rfl
          | true => rw [HP.out i m (by omega) e] at hp; cases hp)
        clear hp
        have hw : IntKind.i64.wrap ((m : Int) + 1) = (m : Int) + 1 := IntWalk.i64_in _ (by omega)
        go_wp2_with (go_at_call 81; rw [Hm.out]; refine cc.out.mono ?_; rintro e w3 ⟨rfl, hb3⟩)
        go_roundg (hi - (m + 1))
        case measure => omega
        case rel => exact ⟨m + 1, hi, by push_cast; rfl, rfl, by omega, hin, Nat.le_refl _, Hp.out, I.out.2, HBr.out.trans (hb3.mono HBr.out.size)⟩
    · obtain rfl : lo = hi := by omega
      go_wp2_with fail
      go_ret
      exact ⟨lo, rfl, ⟨hin, I.out.1, I.out.2⟩, HBr.out⟩
end Go.Proofs.Ytmodbpglopfghaa
