/- A tour is driven: f72, f74. -/
import Derived.Test.YtmodbpglopfghaaVanAo
set_option linter.unusedSimpArgs false
set_option linter.unusedVariables false
namespace Go.Proofs.Ytmodbpglopfghaa
open Go.RowKit

/-- When stop s is reached by a van that leaves a at the minute now. -/
def arr (f g : Nat → Nat → Int) (now : Int) (a s : Nat) : Int := max (now + f a s) (g s 0)
/-- When it leaves the k-th stop. -/
def nowT (f g : Nat → Nat → Int) (b : Int) (t : List Nat) : Nat → Int
  | 0 => b
  | k + 1 => arr f g (nowT f g b t k) (atT t k) (t[k]?.getD 0) + g (t[k]?.getD 0) 2
theorem nowT_succ {f g : Nat → Nat → Int} {b : Int} {t : List Nat} {k : Nat} (h : k < t.length) : nowT f g b t (k + 1) = arr f g (nowT f g b t k) (atT t k) t[k] + g t[k] 2 := by
  simp [nowT, h]
/-- A visit. -/
def viR (f g : Nat → Nat → Int) (b : Int) (t : List Nat) (k : Nat) : List Int :=
  [((t[k]?.getD 0 : Nat) : Int), arr f g (nowT f g b t k) (atT t k) (t[k]?.getD 0), arr f g (nowT f g b t k) (atT t k) (t[k]?.getD 0) + g (t[k]?.getD 0) 2]
def viT (f g : Nat → Nat → Int) (b : Int) (t : List Nat) (k : Nat) : List (List Int) := (List.range k).map (viR f g b t)
theorem viT_length (f g : Nat → Nat → Int) (b : Int) (t : List Nat) (k : Nat) : (viT f g b t k).length = k := by simp [viT]
theorem viT_row (f g : Nat → Nat → Int) (b : Int) (t : List Nat) (k : Nat) : ∀ r ∈ viT f g b t k, r.length = 3 := fun r hr => by
  obtain ⟨i, _, rfl⟩ := List.mem_map.1 hr
  rfl
theorem viR_get {f g : Nat → Nat → Int} {b : Int} {t : List Nat} {k : Nat} (h : k < t.length) : viR f g b t k = [((t[k] : Nat) : Int), arr f g (nowT f g b t k) (atT t k) t[k], arr f g (nowT f g b t k) (atT t k) t[k] + g t[k] 2] := by
  simp [viR, h]
theorem viT_succ {f g : Nat → Nat → Int} {b : Int} {t : List Nat} {k : Nat} (h : k < t.length) : viT f g b t (k + 1) = viT f g b t k ++ [[((t[k] : Nat) : Int), arr f g (nowT f g b t k) (atT t k) t[k], arr f g (nowT f g b t k) (atT t k) t[k] + g t[k] 2]] := by
  rw [← viR_get h]
  simp [viT, List.range_succ]
theorem viT_get {f g : Nat → Nat → Int} {b : Int} {t : List Nat} {k : Nat} (h : k < t.length) : (viT f g b t t.length)[k]? = some [((t[k] : Nat) : Int), arr f g (nowT f g b t k) (atT t k) t[k], arr f g (nowT f g b t k) (atT t k) t[k] + g t[k] 2] := by
  rw [← viR_get h]
  simp [viT, h]
/-- When it is back. -/
def bkT (f g : Nat → Nat → Int) (b : Int) (t : List Nat) : Int := nowT f g b t t.length + f (atT t t.length) 0
def VisAt (B : Nat) (w : World) (A : Option Addr) (f g : Nat → Nat → Int) (b : Int) (t : List Nat) : Prop := RowsAt B w A 3 (viT f g b t t.length)
theorem VisAt.at {B : Nat} {w : World} {A : Option Addr} {f g : Nat → Nat → Int} {b : Int} {t : List Nat} (h : VisAt B w A f g b t) {k : Nat} (hk : k < t.length) :
    ∃ q off, A = some ⟨q, off, none⟩ ∧ q < B ∧ w.cell? ⟨q, off + k * 3, none⟩ = some (.int .i64 (t[k] : Nat)) ∧ w.cell? ⟨q, off + k * 3 + 1, none⟩ = some (.int .i64 (arr f g (nowT f g b t k) (atT t k) t[k])) ∧
      w.cell? ⟨q, off + k * 3 + 2, none⟩ = some (.int .i64 (arr f g (nowT f g b t k) (atT t k) t[k] + g t[k] 2)) := by
  obtain ⟨q, off, e, hb, hc⟩ := h k (by rw [viT_length]; exact hk)
  dsimp only at hc
  rw [viT_get hk] at hc
  exact ⟨q, off, e, hb, hc 0 (by omega), hc 1 (by omega), hc 2 (by omega)⟩
theorem VisAt.below {B B' : Nat} {w w' : World} {A : Option Addr} {f g : Nat → Nat → Int} {b : Int} {t : List Nat} (h : VisAt B w A f g b t) (hb : Below B w w') (hB : B ≤ B') : VisAt B' w' A f g b t := RowsAt.below h hb hB
theorem nowT_bd {n : Nat} {f g : Nat → Nat → Int} {b : Int} {t : List Nat} (hf : ∀ i j, i < n → j < n → 0 ≤ f i j ∧ f i j ≤ 1000) (hg : VS n g) (h : ∀ x ∈ t, x < n) (hn : 1 ≤ n) (hb : 0 ≤ b ∧ b ≤ 10000) :
    ∀ k, k ≤ t.length → 0 ≤ nowT f g b t k ∧ nowT f g b t k ≤ 10000 + 21000 * (k : Int)
  | 0, _ => by simp only [nowT]; omega
  | k + 1, hk => by
    have ih := nowT_bd hf hg h hn hb k (by omega)
    have hm := h t[k] (List.getElem_mem (by omega))
    have h1 := hf _ _ (atT_lt h hn k) hm
    have h2 := (hg _ hm).1 0 (by omega)
    have h3 := (hg _ hm).1 2 (by omega)
    rw [nowT_succ (by omega)]
    unfold arr
    omega

theorem info55 : (Try.prog.info? 55).map (fun i => (i.zero, i.size, i.bytes)) = some (some (.agg #[.int .i64 0, .int .i64 0, .int .i64 0]), 3, 24) := by kernel_rfl
theorem info56 : (Try.prog.info? 56).map (fun i => (i.zero, i.size, i.bytes)) = some (some (.agg #[.int .i64 0, .int .i64 0, .int .i64 0]), 3, 24) := by kernel_rfl

set_option maxRecDepth 100000 in
set_option maxHeartbeats 1000000 in
theorem drive_any (b off n c c1 c2 B : Nat) (f g : Nat → Nat → Int) (A1 A2 : Option Addr) (t : List Nat) (bg : Int) (w : World) (hB : B ≤ w.heap.size) (h : WaAt B w b off n f) (hf : ∀ i j, i < n → j < n → 0 ≤ f i j ∧ f i j ≤ 1000) (h1 : StAt B w A1 n g) (hg : VS n g)
    (h2 : IntsAt B w A2 (intL t)) (ht : ∀ x ∈ t, x < n) (hn : 1 ≤ n) (hn7 : n ≤ 1000) (hm : t.length ≤ 1000) (hbg : 0 ≤ bg ∧ bg ≤ 10000) :
    Calls Try.prog 72 #[.slice (some ⟨b, off, none⟩) n c, .slice A1 n c1, .slice A2 t.length c2, .int .i64 bg] w fun e w' => ∃ A3 c3, e = .returned (.tuple #[.slice A3 t.length c3, .int .i64 (bkT f g bg t)]) ∧
      w'.ownsRow w.heap.size 55 3 (.slice A3 t.length c3) t.length ((viT f g bg t t.length).flatMap fun r => r.map (Value.int .i64)) ∧ Below w.heap.size w w' := by
  have H := Lib.hid (h.below (Below.refl _ _) hB)
  have H1 := Lib.hid (show StAt w.heap.size w A1 n g from h1.below (Below.refl _ _) hB)
  have H2 := Lib.hid (show IntsAt w.heap.size w A2 (intL t) from h2.below (Below.refl _ _) hB)
  have Hat := Lib.hid (atT_lt ht hn)
  have Hbd := Lib.hid (nowT_bd hf hg ht hn hbg)
  have Hf := Lib.hid hf
  have Hg := Lib.hid hg
  have Ht := Lib.hid ht
  obtain ⟨i0, hi, hz0, hz1, hz2⟩ := info_parts info55
  clear h h1 h2 ht hf hg
  go_enter Try.func72, Try.ntmps72
  go_wp2_with fail
  go_loopw [10, 11, 12, 19] (fun out vs va vk wr => ∃ k : Nat, k ≤ t.length ∧ vk = .int .i64 k ∧ vs = .int .i64 (nowT f g bg t k) ∧ va = .int .i64 (atT t k : Nat) ∧ wr.ownsRow w.heap.size 55 3 out (viT f g bg t k).length ((viT f g bg t k).flatMap fun r => r.map (Value.int .i64)) ∧ Below w.heap.size w wr) (fun _ _ _ vk _ => t.length - (intOf vk).toNat)
  case atStart => exact ⟨0, Nat.zero_le _, rfl, rfl, by rw [atT_zero]; rfl, World.ownsRow_nil _ _ _ _, Below.refl _ _⟩
  case round =>
    obtain ⟨k, hk, rfl, rfl, rfl, hown, hbr⟩ := hrel
    have hat := Hat.out k
    have hbd := Hbd.out k hk
    have HBr := Lib.hid hbr
    have HO := Lib.hid hown
    have hlen := viT_length f g bg t k
    obtain ⟨b2, o2, c2, hb2, e1, f1⟩ := (H.out.below hbr (Nat.le_refl _)).2 _ hat
    have hai : ((atT t k : Nat) : Int) < (n : Int) := by omega
    have hbs := hbr.size
    clear hbr hown
    by_cases hlt : k < t.length
    · obtain ⟨b1, o1, rfl, hb1, y0⟩ := (H2.out.below HBr.out (Nat.le_refl _)).at (k := k) (by rw [intL_length]; exact hlt)
      rw [intL_get hlt] at y0
      have hs := Ht.out _ (List.getElem_mem hlt)
      have e2 := f1 _ hs
      have hfb := Hf.out _ _ hat hs
      obtain ⟨b3, o3, rfl, hb3, g0, _, g2, _⟩ := (H1.out.below HBr.out (Nat.le_refl _)).at hs
      have hg0 := (Hg.out _ hs).1 0 (by omega)
      have hg2 := (Hg.out _ hs).1 2 (by omega)
      have HL := Lib.hid (nowT_succ (f := f) (g := g) (b := bg) hlt)
      have HA := Lib.hid (atT_succ hlt)
      have HV := Lib.hid (viT_succ (f := f) (g := g) (b := bg) hlt)
      unfold arr at HL HV
      generalize atT t k = a at e1 hai hat HL HV e2 hfb f1 ⊢
      generalize nowT f g bg t k = s at hbd HL HV ⊢
      generalize t[k] = x at y0 hs e2 HL HA HV hfb g0 g2 hg0 hg2
      generalize f a x = d at e2 HL HV hfb
      generalize g x 0 = p at g0 hg0 HL HV
      generalize g x 2 = q at g2 hg2 HL HV
      have hxi : ((x : Nat) : Int) < (n : Int) := by omega
      have hki : ((k : Nat) : Int) < (t.length : Int) := by omega
      have hk0 : (0 : Int) ≤ (k : Int) := by omega
      have ha0 : (0 : Int) ≤ (a : Int) := by omega
      have hx0 : (0 : Int) ≤ (x : Int) := by omega
      have hw1 : IntKind.i64.wrap (s + d) = s + d := IntWalk.i64_in _ (by omega)
      have hw2 : IntKind.i64.wrap (max (s + d) p + q) = max (s + d) p + q := IntWalk.i64_in _ (by omega)
      clear f1 hfb
      go_wp2_with fail
      go_quiet (fail)
      obtain ⟨W1, hW1⟩ : ∃ W1, wr.drewN nq = W1 := ⟨_, rfl⟩
      rw [hW1]
      have q2 : W1.cell? ⟨b3, o3 + x * 4 + 2, none⟩ = some (.int .i64 q) := by rw [← hW1]; exact g2
      have HO1 : W1.ownsRow w.heap.size 55 3 u10 (viT f g bg t k).length ((viT f g bg t k).flatMap fun r => r.map (Value.int .i64)) := by rw [← hW1]; exact HO.out
      have hB1 : Below w.heap.size w W1 := by rw [← hW1]; exact below_drewN HBr.out _
      generalize hM : max (s + d) p = M at hw2 HL HV ⊢
      have hB1s := hB1.size
      have HB1 := Lib.hid hB1
      have HO2 := Lib.hid HO1
      have hbW : b3 < W1.heap.size := by omega
      clear hW1 hM g0 g2 e1 e2 y0 HO HO1 hB1
      go_wp2_with (at_builtin; refine wpList_append_own _ rfl _ _ 47 rfl w.heap.size 55 i0 _ 3 24 Try.underlying47 hi hz0 hz1 hz2 rfl (by decide) _ _ _ rfl ((HO2.out.alloc _).alloc _) ⟨W1.heap.size + 1, 0, none⟩ 1 1 _ rfl rfl (cells_new' _ _ (by simp) _ _) (by simp [Value.oneCell']) (by simp only [maxLen]; omega) (by omega) (by simp; omega) ?_; intro v' w4 hown4 hg4 _; have k4 := ((Blk.new W1 55 #[.int .i64 (x : Int), .int .i64 M, .int .i64 (M + q)]).alloc (.cells #[.int .i64 (x : Int), .int .i64 M, .int .i64 (M + q)] 55)).grown hg4 (fun e => by have := (HO2.out.lt _ e.symm).2; omega); obtain ⟨j0, j1, j2, _⟩ := blk3 k4)
      have b4 : Below w.heap.size w w4 := ((HB1.out.alloc HB1.out.size _).alloc (by simp; omega) _).grown hg4 (by simp; omega) (fun j hj => (HO2.out.lt j hj).1)
      go_roundw
      case rel =>
        refine ⟨k + 1, by omega, by go_num, by rw [HL.out], by rw [HA.out], ?_, b4⟩
        rw [HV.out]
        simpa using hown4
      case measure => simp [intOf]; omega
    · obtain rfl : k = t.length := by omega
      have e2 := f1 0 hn
      have HL := Lib.hid (show bkT f g bg t = nowT f g bg t t.length + f (atT t t.length) 0 from rfl)
      have hfb := Hf.out _ _ hat hn
      obtain ⟨A5, c5, hu⟩ := own_form HO.out
      have HO1 := HO.out
      rw [hu, hlen] at HO1
      have HO2 := Lib.hid HO1
      subst hu
      generalize atT t t.length = a at e1 hai hat HL e2 hfb f1 ⊢
      generalize nowT f g bg t t.length = s at hbd HL ⊢
      generalize f a 0 = d at e2 HL hfb
      rw [Nat.add_zero] at e2
      have hw1 : IntKind.i64.wrap (s + d) = s + d := IntWalk.i64_in _ (by omega)
      have hn0 : 0 < n := by omega
      have ha0 : (0 : Int) ≤ (a : Int) := by omega
      clear f1 hfb HO HO1
      have Hlen := Lib.hid hlen
      clear hlen
      go_wp2_with fail
      go_quiet (fail)
      go_wp2_with fail
      go_ret2
      exact ⟨_, _, by rw [HL.out, Hlen.out]; rfl, HO2.out, below_drewN HBr.out _⟩

set_option maxRecDepth 100000 in
set_option maxHeartbeats 1000000 in
theorem drive_ref (b off n c c1 c2 B : Nat) (f g : Nat → Nat → Int) (A1 A2 : Option Addr) (t : List Nat) (bg : Int) (w : World) (hB : B ≤ w.heap.size) (h : WaAt B w b off n f) (hf : ∀ i j, i < n → j < n → 0 ≤ f i j ∧ f i j ≤ 1000) (h1 : StAt B w A1 n g) (hg : VS n g)
    (h2 : IntsAt B w A2 (intL t)) (ht : ∀ x ∈ t, x < n) (hn : 1 ≤ n) (hn7 : n ≤ 1000) (hm : t.length ≤ 1000) (hbg : 0 ≤ bg ∧ bg ≤ 10000) :
    Calls Try.prog 74 #[.slice (some ⟨b, off, none⟩) n c, .slice A1 n c1, .slice A2 t.length c2, .int .i64 bg] w fun e w' => ∃ A3 c3, e = .returned (.tuple #[.slice A3 t.length c3, .int .i64 (bkT f g bg t)]) ∧
      w'.ownsRow w.heap.size 56 3 (.slice A3 t.length c3) t.length ((viT f g bg t t.length).flatMap fun r => r.map (Value.int .i64)) ∧ Below w.heap.size w w' := by
  have H := Lib.hid (h.below (Below.refl _ _) hB)
  have H1 := Lib.hid (show StAt w.heap.size w A1 n g from h1.below (Below.refl _ _) hB)
  have H2 := Lib.hid (show IntsAt w.heap.size w A2 (intL t) from h2.below (Below.refl _ _) hB)
  have Hat := Lib.hid (atT_lt ht hn)
  have Hbd := Lib.hid (nowT_bd hf hg ht hn hbg)
  have Hf := Lib.hid hf
  have Hg := Lib.hid hg
  have Ht := Lib.hid ht
  obtain ⟨i0, hi, hz0, hz1, hz2⟩ := info_parts info56
  have hbg0 : Value.int .i64 bg = .int .i64 (nowT f g bg t 0) := rfl
  clear h h1 h2 ht hf hg
  go_enter Try.func74, Try.ntmps74
  go_wp2_with fail
  go_loopw [10, 3, 11, 12] (fun out vs va vk wr => ∃ k : Nat, k ≤ t.length ∧ vk = .int .i64 k ∧ vs = .int .i64 (nowT f g bg t k) ∧ va = .int .i64 (atT t k : Nat) ∧ wr.ownsRow w.heap.size 56 3 out (viT f g bg t k).length ((viT f g bg t k).flatMap fun r => r.map (Value.int .i64)) ∧ Below w.heap.size w wr) (fun _ _ _ vk _ => t.length - (intOf vk).toNat)
  case atStart => exact ⟨0, Nat.zero_le _, rfl, rfl, by rw [atT_zero]; rfl, World.ownsRow_nil _ _ _ _, Below.refl _ _⟩
  case round =>
    obtain ⟨k, hk, rfl, rfl, rfl, hown, hbr⟩ := hrel
    have hat := Hat.out k
    have hbd := Hbd.out k hk
    have HBr := Lib.hid hbr
    have HO := Lib.hid hown
    have hlen := viT_length f g bg t k
    obtain ⟨b2, o2, c2, hb2, e1, f1⟩ := (H.out.below hbr (Nat.le_refl _)).2 _ hat
    have hb0 := H.out.1
    have hai : ((atT t k : Nat) : Int) < (n : Int) := by omega
    have hbs := hbr.size
    clear hbr hown
    by_cases hlt : k < t.length
    · obtain ⟨b1, o1, rfl, hb1, y0⟩ := (H2.out.below HBr.out (Nat.le_refl _)).at (k := k) (by rw [intL_length]; exact hlt)
      rw [intL_get hlt] at y0
      have HY := Lib.hid (show ∀ W, Below w.heap.size w W → W.cell? ⟨b1, o1 + k, none⟩ = some (.int .i64 (t[k] : Nat)) from fun W hW => by
        have := ((H2.out.below hW (Nat.le_refl _)).cells (k := k) (by rw [intL_length]; exact hlt)).2
        rw [intL_get hlt] at this
        exact this)
      have hs := Ht.out _ (List.getElem_mem hlt)
      have e2 := f1 _ hs
      have hfb := Hf.out _ _ hat hs
      obtain ⟨b3, o3, rfl, hb3, g0, g1, g2, g3⟩ := (H1.out.below HBr.out (Nat.le_refl _)).at hs
      have hg0 := (Hg.out _ hs).1 0 (by omega)
      have hg2 := (Hg.out _ hs).1 2 (by omega)
      have HL := Lib.hid (nowT_succ (f := f) (g := g) (b := bg) hlt)
      have HA := Lib.hid (atT_succ hlt)
      have HV := Lib.hid (viT_succ (f := f) (g := g) (b := bg) hlt)
      unfold arr at HL HV
      generalize atT t k = a at e1 hai hat HL HV e2 hfb f1 ⊢
      generalize nowT f g bg t k = s at hbd HL HV ⊢
      generalize t[k] = x at y0 HY hs e2 HL HA HV hfb g0 g1 g2 g3 hg0 hg2
      generalize f a x = d at e2 HL HV hfb
      generalize g x 0 = p at g0 hg0 HL HV
      generalize g x 1 = p1 at g1
      generalize g x 3 = p3 at g3
      generalize g x 2 = q at g2 hg2 HL HV
      have hxi : ((x : Nat) : Int) < (n : Int) := by omega
      have hki : ((k : Nat) : Int) < (t.length : Int) := by omega
      have hk0 : (0 : Int) ≤ (k : Int) := by omega
      have ha0 : (0 : Int) ≤ (a : Int) := by omega
      have hx0 : (0 : Int) ≤ (x : Int) := by omega
      have hw1 : IntKind.i64.wrap (s + d) = s + d := IntWalk.i64_in _ (by omega)
      have hw2 : IntKind.i64.wrap (max (s + d) p + q) = max (s + d) p + q := IntWalk.i64_in _ (by omega)
      clear f1 hfb
      go_wp2_with fail
      obtain ⟨W1, hW1⟩ : ∃ W1, wr.alloc (.cells #[.int .i64 p, .int .i64 p1, .int .i64 q, .int .i64 p3] 89) = W1 := ⟨_, rfl⟩
      rw [hW1]
      have hblk1 : Blk W1 wr.heap.size 89 #[.int .i64 p, .int .i64 p1, .int .i64 q, .int .i64 p3] := by rw [← hW1]; exact Blk.new _ _ _
      have hb01 : Below wr.heap.size wr W1 := by rw [← hW1]; exact (Below.refl _ _).alloc (Nat.le_refl _) _
      have q1 := (hb01.cell (p := ⟨b, off + a, none⟩) (by simp; omega)).trans e1
      have q2 := (hb01.cell (p := ⟨b2, o2 + x, none⟩) (by simp; omega)).trans e2
      have q3 := (hb01.cell (p := ⟨b1, o1 + k, none⟩) (by simp; omega)).trans y0
      have HO1 : W1.ownsRow w.heap.size 56 3 u10 (viT f g bg t k).length ((viT f g bg t k).flatMap fun r => r.map (Value.int .i64)) := by rw [← hW1]; exact HO.out.alloc _
      have hB1 : Below w.heap.size w W1 := HBr.out.trans (hb01.mono HBr.out.size)
      have hB1s := hB1.size
      have HB1 := Lib.hid hB1
      have HO2 := Lib.hid HO1
      have hbl := hblk1.lt
      have l1 : b < W1.heap.size := by omega
      have l2 : b2 < W1.heap.size := by omega
      have l3 : b1 < W1.heap.size := by omega
      have HK1 := Lib.hid hblk1
      obtain ⟨z0, _, z2, _⟩ := blk4 hblk1
      clear hW1 hb01 e1 e2 y0 g0 g1 g2 g3 HO HO1 hB1 hblk1
      go_region
      generalize hM : max (s + d) p = M at hw2 HL HV ⊢
      obtain ⟨W2, hW2⟩ : ∃ W2, (W1.alloc (.cells #[.int .i64 (x : Int), .int .i64 M, .int .i64 0] 56)).drew = W2 := ⟨_, rfl⟩
      rw [hW2]
      have hblk2 : Blk W2 W1.heap.size 56 #[.int .i64 (x : Int), .int .i64 M, .int .i64 0] := by rw [← hW2]; exact (Blk.new _ _ _).drew
      have hb12 : Below W1.heap.size W1 W2 := by rw [← hW2]; exact ((Below.refl _ _).alloc (Nat.le_refl _) _).drew
      have r2 := (hb12.cell (p := ⟨wr.heap.size, 2, none⟩) (by simp; omega)).trans z2
      have r3 := (hb12.cell (p := ⟨b1, o1 + k, none⟩) (by simp; omega)).trans q3
      have HO3 : W2.ownsRow w.heap.size 56 3 u10 (viT f g bg t k).length ((viT f g bg t k).flatMap fun r => r.map (Value.int .i64)) := by rw [← hW2]; exact (HO2.out.alloc _).drew
      have hB2 : Below w.heap.size w W2 := HB1.out.trans (hb12.mono HB1.out.size)
      have hne2 : some W1.heap.size ≠ u10.ownBlock := fun e => by have := (HO2.out.lt _ e.symm).2; omega
      have hne3 : W1.heap.size ≠ wr.heap.size := by omega
      have hne4 : W1.heap.size ≠ b1 := by omega
      have hs2 := hb12.size
      have hbl2 := hblk2.lt
      clear hW2 z0 z2 q1 q2 q3 hb12
      obtain ⟨f0, f1, f2, z0, z1, z2⟩ := blk3 hblk2
      have on3 : Only W1.heap.size W2 (W2.setCell ⟨W1.heap.size, 2, none⟩ (.int .i64 (M + q))) := (Only.refl _ _).put 2 _
      have Hblk3 := Lib.hid (show Blk (W2.setCell ⟨W1.heap.size, 2, none⟩ (.int .i64 (M + q))) W1.heap.size 56 #[.int .i64 (x : Int), .int .i64 M, .int .i64 (M + q)] from hblk2.put 2 (.int .i64 (M + q)))
      have Hown3 := Lib.hid (on3.own HO3 hne2)
      have Hb3 := Lib.hid (hB2.trans (on3.below (by omega) (by omega)))
      have sz3 := Lib.hid (show W2.heap.size = (W2.setCell ⟨W1.heap.size, 2, none⟩ (.int .i64 (M + q))).heap.size by simp [World.setCell])
      have Hne2 := Lib.hid hne2
      have R3 := Lib.hid ((on3.cell (p := ⟨b1, o1 + k, none⟩) (by simp; omega) (by simp; omega)).trans r3)
      have HbW := Lib.hid (show b1 < W2.heap.size by omega)
      have HnU := Lib.hid (show some b1 = u10.ownBlock → w.heap.size ≤ b1 from fun e => (HO3.lt _ e.symm).1)
      clear HO3 hB2 hne2 on3 hblk2 hM r3
      go_wp2_with (at_builtin; refine wpList_append_own _ rfl _ _ 50 rfl w.heap.size 56 i0 _ 3 24 Try.underlying50 hi hz0 hz1 hz2 rfl (by decide) _ _ _ rfl (Hown3.out.alloc _) ⟨W2.heap.size, 0, none⟩ 1 1 _ rfl rfl (cells_new' _ _ sz3.out _ _) (by simp [Value.oneCell']) (by simp only [maxLen]; omega) (by omega) (by simp; omega) ?_; intro v' w4 hown4 hg4 _; have k4 := (Hblk3.out.alloc _).grown hg4 Hne2.out; obtain ⟨_, j1, j2, _⟩ := blk3 k4; have b4 := Lib.hid (show Below w.heap.size w w4 from (Hb3.out.alloc (by rw [← sz3.out]; omega) _).grown hg4 (by simp; omega) (fun j hj => (Hown3.out.lt j hj).1)); have y4 := HY.out _ b4.out)
      go_roundw
      case rel =>
        refine ⟨k + 1, by omega, by go_num, by rw [HL.out], by rw [HA.out], ?_, b4.out⟩
        rw [HV.out]
        simpa using hown4
      case measure => simp [intOf]; omega
    · obtain rfl : k = t.length := by omega
      have e2 := f1 0 hn
      have HL := Lib.hid (show bkT f g bg t = nowT f g bg t t.length + f (atT t t.length) 0 from rfl)
      have hfb := Hf.out _ _ hat hn
      obtain ⟨A5, c5, hu⟩ := own_form HO.out
      have HO1 := HO.out
      rw [hu, hlen] at HO1
      have HO2 := Lib.hid HO1
      subst hu
      generalize atT t t.length = a at e1 hai hat HL e2 hfb f1 ⊢
      generalize nowT f g bg t t.length = s at hbd HL ⊢
      generalize f a 0 = d at e2 HL hfb
      rw [Nat.add_zero] at e2
      have hw1 : IntKind.i64.wrap (s + d) = s + d := IntWalk.i64_in _ (by omega)
      have hn0 : 0 < n := by omega
      have ha0 : (0 : Int) ≤ (a : Int) := by omega
      clear f1 hfb HO HO1
      have Hlen := Lib.hid hlen
      clear hlen
      go_wp2_with fail
      go_quiet (fail)
      go_wp2_with fail
      go_ret2
      exact ⟨_, _, by rw [HL.out, Hlen.out]; rfl, HO2.out, below_drewN HBr.out _⟩
end Go.Proofs.Ytmodbpglopfghaa
