/- TopTours returns true for every input, and its arguments read as they did: no condition. -/
import Derived.Test.YtmodbpglopfghaaVanBb
import Derived.Test.YtmodbpglopfghaaVanAs
import Derived.Test.YtmodbpglopfghaaVanBc
import Derived.Test.YtmodbpglopfghaaVanT
import Derived.Test.YtmodbpglopfghaaVanAd
import Derived.Test.YtmodbpglopfghaaVanAt
import Derived.Deep.DeepCutAuto
import Derived.Test.YtmodbpglopfghaaOpen
import Derived.Test.YtmodbpglopfghaaOpen3
import Derived.Test.YtmodbpglopfghaaVanAo
import Derived.Test.YtmodbpglopfghaaRows
import Derived.Test.YtmodbpglopfghaaOpen4
import Derived.Carry
import Derived.ShutString

set_option linter.unusedSimpArgs false
set_option linter.unusedVariables false
namespace Go.Proofs.Ytmodbpglopfghaa
open Go.RowKit

theorem uptN65_frm (n : Nat) : uptN65 n = frm 1 n := by
  unfold uptN65 frm
  rw [List.range'_eq_map_range]
  apply List.map_congr_left
  intro x _
  omega
theorem exts_tour {n : Nat} {s : List Nat} : s ∈ exts (n - 1) [] (frm 1 n) ↔ Tour n s := by
  rw [exts_mem _ _ _ (frm_length 1 n)]
  constructor
  · rintro ⟨p, hp, rfl⟩
    simpa using frm_tour hp
  · intro h
    exact ⟨s, h.perm, by simp⟩

/-- The earliest of some tours: -1 if none keeps its windows. -/
def ErIs (ok : List Nat → Bool) (bk : List Nat → Int) (P : List Nat → Prop) (z : Int) : Prop :=
  (z = -1 ∧ ∀ t, P t → ok t = false) ∨ (0 ≤ z ∧ (∃ t, P t ∧ ok t = true ∧ bk t = z) ∧ ∀ t, P t → ok t = true → z ≤ bk t)
section
variable {ok : List Nat → Bool} {bk : List Nat → Int} {P P' : List Nat → Prop} {z y : Int} {t : List Nat}
theorem ErIs.nil : ErIs ok bk (fun _ => False) (-1) := .inl ⟨rfl, fun _ h => h.elim⟩
theorem ErIs.congr (h : ErIs ok bk P z) (e : ∀ t, P t ↔ P' t) : ErIs ok bk P' z := by
  have : P = P' := by funext x; exact propext (e x)
  rw [← this]; exact h
theorem ErIs.skip (h : ErIs ok bk P z) (hs : ok t = false ∨ (0 ≤ z ∧ z ≤ bk t)) : ErIs ok bk (fun s => P s ∨ s = t) z := by
  rcases h with ⟨rfl, h1⟩ | ⟨h0, ⟨s, hs1, hs2, hs3⟩, h2⟩
  · refine .inl ⟨rfl, fun s hs' => ?_⟩
    rcases hs' with h | rfl
    · exact h1 s h
    · rcases hs with h | ⟨h, _⟩
      · exact h
      · exact absurd h (by decide)
  · refine .inr ⟨h0, ⟨s, .inl hs1, hs2, hs3⟩, fun s' hs' hok => ?_⟩
    rcases hs' with h | rfl
    · exact h2 s' h hok
    · rcases hs with h | ⟨_, h⟩
      · rw [h] at hok; cases hok
      · exact h
theorem ErIs.take (h : ErIs ok bk P z) (hok : ok t = true) (hz : z < 0 ∨ bk t < z) (h0 : 0 ≤ bk t) : ErIs ok bk (fun s => P s ∨ s = t) (bk t) := by
  refine .inr ⟨h0, ⟨t, .inr rfl, hok, rfl⟩, fun s hs hos => ?_⟩
  rcases hs with hs | rfl
  · rcases h with ⟨rfl, h1⟩ | ⟨h0', _, h2⟩
    · rw [h1 s hs] at hos; cases hos
    · have := h2 s hs hos
      omega
  · exact Int.le_refl _
theorem ErIs.unique (h : ErIs ok bk P z) (h' : ErIs ok bk P y) : z = y := by
  rcases h with ⟨rfl, h1⟩ | ⟨h0, ⟨t, ht1, ht2, ht3⟩, h2⟩
  · rcases h' with ⟨rfl, _⟩ | ⟨_, ⟨t, ht1, ht2, _⟩, _⟩
    · rfl
    · rw [h1 t ht1] at ht2; cases ht2
  · rcases h' with ⟨rfl, h1⟩ | ⟨_, ⟨s, hs1, hs2, hs3⟩, h3⟩
    · rw [h1 t ht1] at ht2; cases ht2
    · have a1 := h2 s hs1 hs2
      have a2 := h3 t ht1 ht2
      omega
end
/-- A tour of all stops keeps its windows; when it is back. -/
def okT (f g : Nat → Nat → Int) (bg : Int) (t : List Nat) : Bool := decide (ltR f g bg t = -1)
theorem bkT_nn {n : Nat} {f g : Nat → Nat → Int} {bg : Int} {t : List Nat} (hf : ∀ i j, i < n → j < n → 0 ≤ f i j ∧ f i j ≤ 1000) (hg : VS n g) (h : ∀ x ∈ t, x < n) (hn : 1 ≤ n) (hb : 0 ≤ bg ∧ bg ≤ 10000) : 0 ≤ bkT f g bg t ∧ bkT f g bg t ≤ 11000 + 21000 * (t.length : Int) := by
  have h1 := nowT_bd hf hg h hn hb t.length (Nat.le_refl _)
  have h2 := hf _ 0 (atT_lt h hn t.length) hn
  unfold bkT
  omega
/-- A drive takes no less than the ways. -/
theorem nowT_len {n : Nat} {f g : Nat → Nat → Int} {bg : Int} {t : List Nat} (hg : VS n g) (h : ∀ x ∈ t, x < n) : ∀ k, k ≤ t.length → bg + lnT f t k ≤ nowT f g bg t k
  | 0, _ => by rw [lnT_zero]; simp [nowT]
  | k + 1, hk => by
    have ih := nowT_len (f := f) (bg := bg) hg h k (by omega)
    have h3 := (hg _ (h t[k] (List.getElem_mem (by omega)))).1 2 (by omega)
    rw [nowT_succ (by omega), lnT_succ (by omega)]
    unfold arr
    omega
theorem bkT_len {n : Nat} {f g : Nat → Nat → Int} {bg : Int} {t : List Nat} (hg : VS n g) (h : ∀ x ∈ t, x < n) : bg + lenF f 0 t ≤ bkT f g bg t := by
  have := nowT_len (f := f) (bg := bg) hg h t.length (Nat.le_refl _)
  rw [lnT_all]
  unfold bkT
  omega
end Go.Proofs.Ytmodbpglopfghaa


set_option linter.unusedSimpArgs false
set_option linter.unusedVariables false
namespace Go.Proofs.Ytmodbpglopfghaa
open Go.RowKit

section
variable (b off n c : Nat) (f : Nat → Nat → Int) (z : Int) (q1 q5 N0 : Nat) (W0 : World)
set_option maxRecDepth 100000 in
set_option maxHeartbeats 1000000 in
theorem acc_tour (hw : WaAt W0.heap.size W0 b off n f) (hf : ∀ i j, i < n → j < n → 0 ≤ f i j ∧ f i j ≤ 1000) (hn : 1 ≤ n) (hn7 : n ≤ 7) (k1 : W0.cell? ⟨q1, 0, none⟩ = some (.slice (some ⟨b, off, none⟩) n c)) (k5 : W0.cell? ⟨q5, 0, none⟩ = some (.int .i64 z)) :
    Acc65 N0 #[.pointer (some ⟨q1, 0, none⟩), .pointer (some ⟨q5, 0, none⟩)] (fun _ => False) (fun t => lenF f 0 t == z) (Tour n) (fun _ W => Below W0.heap.size W0 W) := by
  intro t A c' W done hok hI hN hA hc hcm hAb
  have hlen := hok.2
  have cl := Lib.hid (fun W' (hW : Below W.heap.size W W') => length_any b off n c c' W'.heap.size f A t W' ((hw.below hI hI.size).below hW hW.size) hf (hA.below hW hW.size) (fun x hx => (hok.1.2 x hx).2) hn (by omega))
  have m1 := (hI.cell (p := ⟨q1, 0, none⟩) (cell_lt k1)).trans k1
  have m5 := (hI.cell (p := ⟨q5, 0, none⟩) (cell_lt k5)).trans k5
  have HI := Lib.hid hI
  have HB := Lib.hid (Below.refl W.heap.size W)
  clear hw hf k1 k5 hok hI hA hAb hlen
  dsimp only
  generalize lenF f 0 t = y at cl ⊢
  go_enter Try.func65, Try.ntmps65
  go_wp2_with fail
  go_quiet ((go_at_call 66; exact Calls.quiet_of_same ((cl.out _ (by first | exact HB.out | exact HB.out.drew | exact below_drewN HB.out _)).mono fun _ _ h => ⟨h.1, h.2.symm⟩)))
  go_wp2_with fail
  go_ret
  exact ⟨rfl, fun _ => below_drewN HI.out _, Fr.of_below (below_drewN HB.out _)⟩
end

section
variable (A : Option Addr) (c B : Nat) (rows : List (List Int)) (w : World) (hB : B ≤ w.heap.size) (h : TblAt B w A rows) (hl : ∀ r ∈ rows, r.length ≤ 30)
include hB h hl
set_option maxRecDepth 100000 in
set_option maxHeartbeats 1000000 in
theorem Tour_any (hv : VW rows) :
    Calls Try.prog 27 #[.slice A rows.length c] w fun e w' => ∃ A2 c2 t, e = .returned (.tuple #[.slice A2 (rows.length - 1) c2, .int .i64 0]) ∧ Tour rows.length t ∧ IsShort rows.length (wy rows) (lenF (wy rows) 0 t) ∧ IntsAt w'.heap.size w' A2 (intL t) ∧ rows.length - 1 ≤ c2 ∧ Below w.heap.size w w' := by
  have hB0 : Below w.heap.size w (w.alloc (.cells #[.slice A rows.length c] 22)) := (Below.refl _ _).alloc (Nat.le_refl _) _
  have hT := h.below (Below.refl _ _) hB
  have cv := Lib.hid (fun W (hW : Below w.heap.size w W) => Validate_any A c w.heap.size rows W (hT.below hW (Nat.le_refl _)) hl)
  rw [vw_ok hv] at cv
  obtain ⟨b, off, rfl, hwa⟩ := WaAt.of_tbl hT hv
  have hn0 := hv.n0
  have hn7 := hv.n1
  have cs := Lib.hid (fun W (hW : Below w.heap.size w W) => shortest_any b off rows.length c w.heap.size (wy rows) W hW.size (hwa.below hW (Nat.le_refl _)) hv.bd (hv.diag hn0) hn0 hn7)
  have HA := Lib.hid (fun (z : Int) (q1 q5 N0 : Nat) (W0 : World) (hW : Below w.heap.size w W0) => acc_tour b off rows.length c (wy rows) z q1 q5 N0 W0 (hwa.below hW hW.size) hv.bd hn0 hn7)
  clear h hl hv hT hwa
  generalize wy rows = f at cs HA ⊢
  generalize rows.length = n at cv cs HA hn0 hn7 hB0 ⊢
  have HB0 := Lib.hid hB0
  go_enter Try.func27, Try.ntmps27
  go_wp2_with fail
  generalize hW0 : w.alloc (.cells #[.slice (some ⟨b, off, none⟩) n c] 22) = W0
  rw [hW0] at HB0
  have HK0 := Lib.hid (show Blk W0 w.heap.size 22 #[.slice (some ⟨b, off, none⟩) n c] by rw [← hW0]; exact Blk.new _ _ _)
  have HC := Lib.hid (show ∀ W, Below W0.heap.size W0 W → Blk W w.heap.size 22 #[.slice (some ⟨b, off, none⟩) n c] from fun W hW => HK0.out.below hW HK0.out.lt)
  have k0 := (blk1 (HC.out _ (Below.refl _ _))).1
  clear hW0 hB0
  go_wp2_with (first
    | (go_at_call 30; refine (cv.out _ HB0.out).mono ?_; rintro e w1 ⟨rfl, hw1⟩; obtain rfl := hw1.symm; clear hw1)
    | (go_at_call 57; refine (cs.out _ HB0.out).mono ?_; rintro e w2 ⟨z, rfl, hz, hz0, hz1, hb2⟩; clear k0; have k0 := (blk1 (HC.out _ hb2)).1; have hsz2 : w.heap.size < w2.heap.size := (HC.out _ hb2).lt))
  generalize hW3 : w2.alloc (.cells #[.int .i64 z] 3) = W3
  have hb23 : Below w2.heap.size w2 W3 := by rw [← hW3]; exact (Below.refl _ _).alloc (Nat.le_refl _) _
  have hb3 : Below W0.heap.size W0 W3 := hb2.trans (hb23.mono hb2.size)
  have k1 := (blk1 (HC.out _ hb3)).1
  have k5 : W3.cell? ⟨w2.heap.size, 0, none⟩ = some (.int .i64 z) := by rw [← hW3]; exact (blk1 (Blk.new w2 3 #[.int .i64 z])).1
  have hbw : Below w.heap.size w W3 := HB0.out.trans (hb3.mono HB0.out.size)
  have hs := search65_any #[.pointer (some ⟨w.heap.size, 0, none⟩), .pointer (some ⟨w2.heap.size, 0, none⟩)] (fun _ => False) (fun t => lenF f 0 t == z) (Tour n) (fun _ W => Below W3.heap.size W3 W) (some ⟨b, off, none⟩) n c W3 (by omega) (fun i h => h.elim) (fun _ W W' h h' => h.trans (h'.mono h.size)) (HA.out z _ _ _ W3 hbw k1 k5)
    (fun _ W h hs => h.trans (below_put (Below.refl _ _) (by omega) 0 _)) (fun s hs => by rw [uptN65_frm] at hs; exact exts_tour.1 hs) (Below.refl _ _)
  refine hs.mono ?_
  rintro e w4 ⟨A2, m, c2, rfl, hf, h4⟩
  have H4 := Lib.hid h4
  have HF := Lib.hid (hf.below (B := W3.heap.size) (Nat.le_refl _) (fun _ _ h => h))
  have HZ := Lib.hid hz
  have HW := Lib.hid hbw
  clear h4 hf hz hs k1 k5 hbw hb3 hb23 hW3 hb2 k0
  go_wp2_with fail
  go_ret2
  rcases H4.out with ⟨_, _, _, hrej, _⟩ | ⟨s, h1, h2, h3, h5, h6, h7⟩
  · obtain ⟨t, ht, e⟩ := HZ.out.2
    have := hrej t (by rw [uptN65_frm]; exact exts_tour.2 ht)
    rw [e] at this
    simp at this
  · rw [uptN65_frm] at h1
    have ht := exts_tour.1 h1
    have h8 : lenF f 0 s = z := by simpa using h2
    have h9 : m = n - 1 := by rw [h3, ht.2]
    subst h9
    refine ⟨A2, c2, s, rfl, ht, by rw [h8]; exact HZ.out, h5, by omega, HW.out.trans (HF.out.mono HW.out.size)⟩
set_option maxRecDepth 100000 in
set_option maxHeartbeats 1000000 in
theorem Tour_bad (hv : ¬ VW rows) :
    Calls Try.prog 27 #[.slice A rows.length c] w fun e w' => e = .returned (.tuple #[.slice none 0 0, .int .i64 (vwR rows)]) ∧ Below w.heap.size w w' := by
  have hT := h.below (Below.refl _ _) hB
  have cv := Lib.hid (fun W (hW : Below w.heap.size w W) => Validate_any A c w.heap.size rows W (hT.below hW (Nat.le_refl _)) hl)
  have HB0 := Lib.hid ((Below.refl w.heap.size w).alloc (Nat.le_refl _) (.cells #[.slice A rows.length c] 22))
  have hne : (vwR rows != 0) = true := by simpa using vw_ne hv
  generalize vwR rows = e0 at cv hne ⊢
  clear h hl hv hT
  go_enter Try.func27, Try.ntmps27
  go_wp2_with (go_at_call 30; refine (cv.out _ HB0.out).mono ?_; rintro e w1 ⟨rfl, hw1⟩; obtain rfl := hw1.symm; clear hw1)
  go_ret2
  exact ⟨rfl, HB0.out⟩
end
end Go.Proofs.Ytmodbpglopfghaa


set_option linter.unusedSimpArgs false
set_option linter.unusedVariables false
namespace Go.Proofs.Ytmodbpglopfghaa
open Go.RowKit

/-- What is found behind some tours. -/
structure ErSt (W0 : World) (q3 q4 N0 : Nat) (ok : List Nat → Bool) (bk : List Nat → Int) (done : List (List Nat)) (W : World) : Prop where
  fr : Fr (fun i => i = q3 ∨ i = q4) W0 W
  st : ∃ (z : Int) (Ab : Option Addr) (m cb : Nat), Blk W q4 3 #[.int .i64 z] ∧ Blk W q3 28 #[.slice Ab m cb] ∧ ErIs ok bk (fun t => t ∈ done) z ∧
    (0 ≤ z → ∃ t, t ∈ done ∧ ok t = true ∧ bk t = z ∧ m = t.length ∧ IntsAt W.heap.size W Ab (intL t) ∧ m ≤ cb ∧ cb ≤ maxLen ∧ ∀ q, Ab = some q → N0 ≤ q.block)
section
variable {W0 W W' : World} {q3 q4 N0 : Nat} {ok : List Nat → Bool} {bk : List Nat → Int} {done : List (List Nat)}
theorem ErSt.below (h : ErSt W0 q3 q4 N0 ok bk done W) (hb : Below W.heap.size W W') : ErSt W0 q3 q4 N0 ok bk done W' := by
  obtain ⟨fr, z, Ab, m, cb, kz, kb, hE, hs⟩ := h
  refine ⟨fr.trans (Fr.of_below hb), z, Ab, m, cb, kz.below hb kz.lt, kb.below hb kb.lt, hE, fun hz => ?_⟩
  obtain ⟨t, h1, h2, h3, h4, h5, h6⟩ := hs hz
  exact ⟨t, h1, h2, h3, h4, h5.below hb hb.size, h6⟩
theorem ErSt.put {g : Nat} (h : ErSt W0 q3 q4 N0 ok bk done W) (hg : W0.heap.size ≤ g) (hgN : g < N0) (h3 : q3 < W0.heap.size) (h4 : q4 < W0.heap.size) (v : Value) : ErSt W0 q3 q4 N0 ok bk done (W.setCell ⟨g, 0, none⟩ v) := by
  obtain ⟨fr, z, Ab, m, cb, kz, kb, hE, hs⟩ := h
  refine ⟨putNew65 fr hg 0 v, z, Ab, m, cb, kz.far (p := ⟨g, 0, none⟩) (by simp; omega) v, kb.far (p := ⟨g, 0, none⟩) (by simp; omega) v, hE, fun hz => ?_⟩
  obtain ⟨t, h1, h2, h3, h4, h5, h6, h7, h8⟩ := hs hz
  have hf : Fr (fun i => i = g) W (W.setCell ⟨g, 0, none⟩ v) := Fr.put (X := fun i => i = g) (Fr.refl _ W) rfl v
  exact ⟨t, h1, h2, h3, h4, hf.ints (fun q hq e => by have := h8 q hq; omega) h5, h6, h7, h8⟩
end

section
variable (b off n c c1 : Nat) (f g : Nat → Nat → Int) (A1 : Option Addr) (bg : Int) (q0 q1 q2 q3 q4 N0 : Nat) (W0 : World)
set_option maxRecDepth 100000 in
set_option maxHeartbeats 2000000 in
theorem acc_earliest (hw : WaAt q3 W0 b off n f) (hf : ∀ i j, i < n → j < n → 0 ≤ f i j ∧ f i j ≤ 1000) (hS : StAt q3 W0 A1 n g) (hg : VS n g) (hn : 1 ≤ n) (hn7 : n ≤ 7) (hbg : 0 ≤ bg ∧ bg ≤ 10000)
    (k0 : W0.cell? ⟨q0, 0, none⟩ = some (.slice (some ⟨b, off, none⟩) n c)) (k1 : W0.cell? ⟨q1, 0, none⟩ = some (.slice A1 n c1)) (k2 : W0.cell? ⟨q2, 0, none⟩ = some (.int .i64 bg))
    (h03 : q0 < q3) (h13 : q1 < q3) (h23 : q2 < q3) (h34 : q3 < q4) (h4 : q4 < W0.heap.size) (hN0 : W0.heap.size ≤ N0) :
    Acc75 N0 #[.pointer (some ⟨q0, 0, none⟩), .pointer (some ⟨q1, 0, none⟩), .pointer (some ⟨q2, 0, none⟩), .pointer (some ⟨q4, 0, none⟩), .pointer (some ⟨q3, 0, none⟩)] (fun i => i = q3 ∨ i = q4) (fun _ => false) (Tour n) (ErSt W0 q3 q4 N0 (okT f g bg) (bkT f g bg)) := by
  intro t A c' W done hok hI hN hA hc hcm hAb
  obtain ⟨fr, z, Ab, m, cb, kz, kb, hE, hbest⟩ := hI
  have hlen := hok.2
  have hb : Below q3 W0 W := fr.below (by omega) (fun i hi h => by omega)
  have hq3 : q3 ≤ W.heap.size := by have := fr.size; omega
  have cd := Lib.hid (drive_any b off n c c1 c' W.heap.size f g A1 A t bg W (Nat.le_refl _) (hw.below hb hq3) hf (hS.below hb hq3) hg hA (fun x hx => (hok.1.2 x hx).2) hn (by omega) (by omega) hbg)
  have HVo := Lib.hid (fun (A3 : Option Addr) (c3 : Nat) (W1 : World) (ho : W1.ownsRow W.heap.size 55 3 (.slice A3 t.length c3) t.length ((viT f g bg t t.length).flatMap fun r => r.map (Value.int .i64))) => show VisAt W1.heap.size W1 A3 f g bg t from RowsAt.of_own (viT_row _ _ _ _ _) (c := c3) (base := W.heap.size) (e := 55) (by rw [viT_length]; exact ho))
  have cl := Lib.hid (fun (A3 : Option Addr) (c3 : Nat) (W1 : World) (hW : Below W.heap.size W W1) (hV : VisAt W1.heap.size W1 A3 f g bg t) => late_any A1 A3 n c1 c3 W1.heap.size f g bg t W1 (Nat.le_refl _) ((hS.below hb hq3).below hW hW.size) (fun x hx => (hok.1.2 x hx).2) (by omega) (by omega) hV)
  have m0 := (hb.cell (p := ⟨q0, 0, none⟩) h03).trans k0
  have m1 := (hb.cell (p := ⟨q1, 0, none⟩) h13).trans k1
  have m2 := (hb.cell (p := ⟨q2, 0, none⟩) h23).trans k2
  have Hm1 := Lib.hid m1
  have Hkz := Lib.hid kz
  have Hkb := Lib.hid kb
  have Hst := Lib.hid (show ∀ W2, Below W.heap.size W W2 → (ltR f g bg t = -1 ∧ (z < 0 ∨ bkT f g bg t < z) → ErSt W0 q3 q4 N0 (okT f g bg) (bkT f g bg) (done ++ [t]) ((W2.setCell ⟨q3, 0, none⟩ (.slice A t.length c')).setCell ⟨q4, 0, none⟩ (.int .i64 (bkT f g bg t)))) ∧
      (ltR f g bg t ≠ -1 ∨ (0 ≤ z ∧ z ≤ bkT f g bg t) → ErSt W0 q3 q4 N0 (okT f g bg) (bkT f g bg) (done ++ [t]) W2) from fun W2 hW => by
    refine ⟨fun ⟨h1, h2⟩ => ?_, fun h1 => ?_⟩
    · have hbt := (bkT_nn hf hg (fun x hx => (hok.1.2 x hx).2) hn hbg (t := t)).1
      have e1 := (kb.below hW kb.lt).put 0 (.slice A t.length c')
      have e2 : Blk (W2.setCell ⟨q3, 0, none⟩ (.slice A t.length c')) q4 3 #[.int .i64 z] := (kz.below hW kz.lt).far (p := ⟨q3, 0, none⟩) (by simp; omega) _
      have hf2 : Fr (fun i => i = q3 ∨ i = q4) W ((W2.setCell ⟨q3, 0, none⟩ (.slice A t.length c')).setCell ⟨q4, 0, none⟩ (.int .i64 (bkT f g bg t))) := ((Fr.of_below hW).put (.inl rfl) _).put (.inr rfl) _
      refine ⟨fr.trans hf2, bkT f g bg t, A, t.length, c', e2.put 0 _, e1.far (p := ⟨q4, 0, none⟩) (by simp; omega) _, (hE.take (decide_eq_true h1) h2 hbt).congr (fun s => by simp), fun _ => ⟨t, by simp, decide_eq_true h1, rfl, rfl, hf2.ints (fun q hq e => by have := hAb q hq; omega) hA, hc, hcm, hAb⟩⟩
    · refine ⟨fr.trans (Fr.of_below hW), z, Ab, m, cb, kz.below hW kz.lt, kb.below hW kb.lt, (hE.skip (t := t) (by
        rcases h1 with h | h
        · exact .inl (decide_eq_false h)
        · exact .inr h)).congr (fun s => by simp), fun hz => ?_⟩
      obtain ⟨s, s1, s2, s3, s4, s5, s6⟩ := hbest hz
      exact ⟨s, by simp [s1], s2, s3, s4, s5.below hW hW.size, s6⟩)
  have hr := lt_cases f g bg t
  have hr2 : ltR f g bg t = -1 ∨ 0 ≤ ltR f g bg t := by rcases hr with h | ⟨k, _, h, _⟩ <;> omega
  have Hfr := Lib.hid (show ∀ W2, Below W.heap.size W W2 → Fr (fun i => i = q3 ∨ i = q4) W W2 from fun W2 hW => Fr.of_below hW)
  have HX := Lib.hid (show ∀ W2 u v, Below W.heap.size W W2 → Fr (fun i => i = q3 ∨ i = q4) W ((W2.setCell ⟨q3, 0, none⟩ u).setCell ⟨q4, 0, none⟩ v) from fun W2 u v hW => ((Fr.of_below hW).put (.inl rfl) _).put (.inr rfl) _)
  have hq3l := kb.lt
  have hq4l := kz.lt
  have hq1l : q1 < W.heap.size := by omega
  clear hw hf hS hg k0 k1 k2 hok fr kz kb hE hbest hA hAb hb hr
  generalize ltR f g bg t = r at cl Hst hr2
  generalize bkT f g bg t = bk at cd Hst
  have hne34 : q3 ≠ q4 := by omega
  clear h03 h13 h23 h34 h4 hN0 hN hq3 hlen
  rcases hr2 with h1 | h1
  · subst h1
    have d1 : decide ((-1 : Int) < 0) = true := rfl
    by_cases hz : z < 0
    · have d2 : decide (z < 0) = true := decide_eq_true hz
      have HS := Lib.hid (fun W2 hW => (Hst.out W2 hW).1 ⟨rfl, .inl hz⟩)
      clear Hst hz
      go_enter Try.func75, Try.ntmps75
      go_wp2_with (first
        | (go_at_call 72; refine cd.out.mono ?_; rintro e w1 ⟨A3, c3, rfl, ho, hb1⟩; have HV := Lib.hid (HVo.out _ _ _ ho); clear ho; have m1' := (hb1.cell (p := ⟨q1, 0, none⟩) hq1l).trans Hm1.out)
        | (go_at_call 76; refine (cl.out _ _ _ hb1 HV.out).mono ?_; rintro e w2 ⟨rfl, hb2⟩; have hB2 := hb1.trans (hb2.mono hb1.size); obtain ⟨j4, z4⟩ := blk1 (Hkz.out.below hB2 hq4l); obtain ⟨j3, z3⟩ := blk1 (Hkb.out.below hB2 hq3l)))
      go_ret
      exact ⟨rfl, fun _ => HS.out _ hB2, HX.out _ _ _ hB2⟩
    · have d2 : decide (z < 0) = false := decide_eq_false hz
      by_cases hk : bk < z
      · have d3 : decide (bk < z) = true := decide_eq_true hk
        have HS := Lib.hid (fun W2 hW => (Hst.out W2 hW).1 ⟨rfl, .inr hk⟩)
        clear Hst hz hk
        go_enter Try.func75, Try.ntmps75
        go_wp2_with (first
          | (go_at_call 72; refine cd.out.mono ?_; rintro e w1 ⟨A3, c3, rfl, ho, hb1⟩; have HV := Lib.hid (HVo.out _ _ _ ho); clear ho; have m1' := (hb1.cell (p := ⟨q1, 0, none⟩) hq1l).trans Hm1.out)
          | (go_at_call 76; refine (cl.out _ _ _ hb1 HV.out).mono ?_; rintro e w2 ⟨rfl, hb2⟩; have hB2 := hb1.trans (hb2.mono hb1.size); obtain ⟨j4, z4⟩ := blk1 (Hkz.out.below hB2 hq4l); obtain ⟨j3, z3⟩ := blk1 (Hkb.out.below hB2 hq3l)))
        go_ret
        exact ⟨rfl, fun _ => HS.out _ hB2, HX.out _ _ _ hB2⟩
      · have d3 : decide (bk < z) = false := decide_eq_false hk
        have HS := Lib.hid (fun W2 hW => (Hst.out W2 hW).2 (.inr ⟨by omega, by omega⟩))
        clear Hst hz hk
        go_enter Try.func75, Try.ntmps75
        go_wp2_with (first
          | (go_at_call 72; refine cd.out.mono ?_; rintro e w1 ⟨A3, c3, rfl, ho, hb1⟩; have HV := Lib.hid (HVo.out _ _ _ ho); clear ho; have m1' := (hb1.cell (p := ⟨q1, 0, none⟩) hq1l).trans Hm1.out)
          | (go_at_call 76; refine (cl.out _ _ _ hb1 HV.out).mono ?_; rintro e w2 ⟨rfl, hb2⟩; have hB2 := hb1.trans (hb2.mono hb1.size); obtain ⟨j4, z4⟩ := blk1 (Hkz.out.below hB2 hq4l); obtain ⟨j3, z3⟩ := blk1 (Hkb.out.below hB2 hq3l)))
        go_ret
        exact ⟨rfl, fun _ => HS.out _ hB2, Hfr.out _ hB2⟩
  · have d1 : decide (r < 0) = false := decide_eq_false (by omega)
    have HS := Lib.hid (fun W2 hW => (Hst.out W2 hW).2 (.inl (by omega)))
    clear Hst h1
    go_enter Try.func75, Try.ntmps75
    go_wp2_with (first
      | (go_at_call 72; refine cd.out.mono ?_; rintro e w1 ⟨A3, c3, rfl, ho, hb1⟩; have HV := Lib.hid (HVo.out _ _ _ ho); clear ho; have m1' := (hb1.cell (p := ⟨q1, 0, none⟩) hq1l).trans Hm1.out)
      | (go_at_call 76; refine (cl.out _ _ _ hb1 HV.out).mono ?_; rintro e w2 ⟨rfl, hb2⟩; have hB2 := hb1.trans (hb2.mono hb1.size); obtain ⟨j4, z4⟩ := blk1 (Hkz.out.below hB2 hq4l); obtain ⟨j3, z3⟩ := blk1 (Hkb.out.below hB2 hq3l)))
    go_ret
    exact ⟨rfl, fun _ => HS.out _ hB2, Hfr.out _ hB2⟩
end
end Go.Proofs.Ytmodbpglopfghaa


set_option linter.unusedSimpArgs false
set_option linter.unusedVariables false
namespace Go.Proofs.Ytmodbpglopfghaa
open Go.RowKit

/-- The error of ways, stops and a beginning. -/
noncomputable def erR (rows : List (List Int)) (n : Nat) (g : Nat → Nat → Int) (bg : Int) : Int := if vsR rows n g ≠ 0 then vsR rows n g else if 0 ≤ bg ∧ bg ≤ 10000 then 0 else 1
section
variable {rows : List (List Int)} {n : Nat} {g : Nat → Nat → Int} {bg : Int}
theorem er_vs (h : vsR rows n g ≠ 0) : erR rows n g bg = vsR rows n g := if_pos h
theorem er_out (h : vsR rows n g = 0) (h' : ¬ (0 ≤ bg ∧ bg ≤ 10000)) : erR rows n g bg = 1 := by
  unfold erR
  rw [if_neg (by simpa using h), if_neg h']
theorem er_zero (h : erR rows n g bg = 0) : vsR rows n g = 0 ∧ 0 ≤ bg ∧ bg ≤ 10000 := by
  by_cases h1 : vsR rows n g = 0
  · by_cases h2 : 0 ≤ bg ∧ bg ≤ 10000
    · exact ⟨h1, h2⟩
    · rw [er_out h1 h2] at h; cases h
  · rw [er_vs h1] at h; exact absurd h h1
end

theorem results_tmp4 {fn : Func} {t u v x : Tmp} (h : fn.results = #[.tmp t, .tmp u, .tmp v, .tmp x]) (tmps : Array Value) (P : Program) (w : World) :
    (results fn tmps).run P w = .ok (.tuple #[tmps.getD t undef, tmps.getD u undef, tmps.getD v undef, tmps.getD x undef]) w := by
  simp [results, h]
section
variable (A A1 : Option Addr) (c c1 B : Nat) (rows : List (List Int)) (n : Nat) (g : Nat → Nat → Int) (bg : Int) (w : World) (hB : B ≤ w.heap.size) (h : TblAt B w A rows) (hl : rows.length ≤ 30 ∧ ∀ r ∈ rows, r.length ≤ 30) (h1 : StAt B w A1 n g) (hn : n ≤ 1000)
include hB h hl h1 hn

set_option maxRecDepth 100000 in
set_option maxHeartbeats 2000000 in
theorem Earliest_any (he : erR rows n g bg = 0) :
    Calls Try.prog 41 #[.slice A rows.length c, .slice A1 n c1, .int .i64 bg] w fun e w' => ∃ z A2 m c2, e = .returned (.tuple #[.slice A2 m c2, .int .i64 (max z 0), .bool (decide (0 ≤ z)), .int .i64 0]) ∧ ErIs (okT (wy rows) g bg) (bkT (wy rows) g bg) (Tour rows.length) z ∧
      (z < 0 → m = 0) ∧ (0 ≤ z → ∃ t, Tour rows.length t ∧ okT (wy rows) g bg t = true ∧ bkT (wy rows) g bg t = z ∧ m = t.length ∧ IntsAt w'.heap.size w' A2 (intL t) ∧ m ≤ c2) ∧ Below w.heap.size w w' := by
  obtain ⟨hvs, hb0, hb1⟩ := er_zero he
  obtain ⟨hv, hnr, hs⟩ := vs_zero hvs
  have hT := h.below (Below.refl _ _) hB
  have hS := h1.below (Below.refl _ _) hB
  have cv := Lib.hid (fun W (hW : Below w.heap.size w W) => ValidateStops_any A A1 c c1 w.heap.size rows n g W hW.size (hT.below hW (Nat.le_refl _)) hl.2 (hS.below hW (Nat.le_refl _)) hn)
  rw [hvs] at cv
  obtain ⟨b, off, rfl, hwa⟩ := WaAt.of_tbl hT hv
  have hn0 := hv.n0
  have hn7 := hv.n1
  have HAc := Lib.hid (fun (q0 q1 q2 q3 q4 N0 : Nat) (W0 : World) (hW : Below w.heap.size w W0) (hq : w.heap.size ≤ q3) => acc_earliest b off rows.length c c1 (wy rows) g A1 bg q0 q1 q2 q3 q4 N0 W0 (hwa.below hW hq) hv.bd (by rw [← hnr]; exact hS.below hW hq) (by rw [← hnr]; exact hs) hn0 hn7 ⟨hb0, hb1⟩)
  have d1 : decide (bg < 0) = false := decide_eq_false (by omega)
  have d2 : decide (10000 < bg) = false := decide_eq_false (by omega)
  clear h hl h1 hT hS hwa hs hv hvs he hb0 hb1
  generalize okT (wy rows) g bg = ok at HAc ⊢
  generalize bkT (wy rows) g bg = bk at HAc ⊢
  rw [← hnr] at cv HAc hn0 hn7 ⊢
  clear hnr
  go_enter Try.func41, Try.ntmps41
  go_wp2_with fail
  generalize hW0 : ((w.alloc (.cells #[.slice (some ⟨b, off, none⟩) n c] 22)).alloc (.cells #[.slice A1 n c1] 43)).alloc (.cells #[.int .i64 bg] 3) = W0
  have HK0 := Lib.hid (show Blk W0 w.heap.size 22 #[.slice (some ⟨b, off, none⟩) n c] by rw [← hW0]; exact ((Blk.new _ _ _).alloc _).alloc _)
  have HK1 := Lib.hid (show Blk W0 (w.heap.size + 1) 43 #[.slice A1 n c1] by rw [← hW0]; exact (blk_new' (by simp)).alloc _)
  have HK2 := Lib.hid (show Blk W0 (w.heap.size + 1 + 1) 3 #[.int .i64 bg] by rw [← hW0]; exact blk_new' (by simp))
  have hB0 : Below w.heap.size w W0 := by rw [← hW0]; exact (((Below.refl _ _).alloc (Nat.le_refl _) _).alloc (by simp) _).alloc (by simp; omega) _
  have HB0 := Lib.hid hB0
  have HCs := Lib.hid (show ∀ W, Below W0.heap.size W0 W → W.cell? ⟨w.heap.size, 0, none⟩ = some (.slice (some ⟨b, off, none⟩) n c) ∧ W.cell? ⟨w.heap.size + 1, 0, none⟩ = some (.slice A1 n c1) ∧ W.cell? ⟨w.heap.size + 1 + 1, 0, none⟩ = some (.int .i64 bg) from fun W hW =>
    ⟨(blk1 (HK0.out.below hW HK0.out.lt)).1, (blk1 (HK1.out.below hW HK1.out.lt)).1, (blk1 (HK2.out.below hW HK2.out.lt)).1⟩)
  have HS0 := Lib.hid HK2.out.lt
  obtain ⟨k3, k4, k5⟩ := HCs.out _ (Below.refl _ _)
  clear hW0 hB0
  go_wp2_with (go_at_call 39; refine (cv.out _ HB0.out).mono ?_; rintro e w1 ⟨rfl, hb1⟩; clear k3 k4 k5; obtain ⟨k3, k4, k5⟩ := HCs.out _ hb1; have hsz1 : w.heap.size < w1.heap.size := by have := HS0.out; have := hb1.size; omega)
  generalize hW2 : (w1.alloc (.cells #[.slice none 0 0] 28)).alloc (.cells #[.int .i64 (-1)] 3) = W2
  have hb12 : Below w1.heap.size w1 W2 := by rw [← hW2]; exact ((Below.refl _ _).alloc (Nat.le_refl _) _).alloc (by simp) _
  have hb2 : Below W0.heap.size W0 W2 := hb1.trans (hb12.mono hb1.size)
  have hbw : Below w.heap.size w W2 := HB0.out.trans (hb2.mono HB0.out.size)
  have hk3 : Blk W2 w1.heap.size 28 #[.slice none 0 0] := by rw [← hW2]; exact (Blk.new _ _ _).alloc _
  have hk4 : Blk W2 (w1.heap.size + 1) 3 #[.int .i64 (-1)] := by rw [← hW2]; exact blk_new' (by simp)
  obtain ⟨m0, m1, m2⟩ := HCs.out _ hb2
  have hs0 := HS0.out
  have hs1 := hb1.size
  have hacc := HAc.out w.heap.size (w.heap.size + 1) (w.heap.size + 1 + 1) w1.heap.size (w1.heap.size + 1) (W2.heap.size + 3) W2 hbw (by omega) m0 m1 m2 (by omega) (by omega) (by omega) (by omega) hk4.lt (by omega)
  have hs := search75_any #[.pointer (some ⟨w.heap.size, 0, none⟩), .pointer (some ⟨w.heap.size + 1, 0, none⟩), .pointer (some ⟨w.heap.size + 1 + 1, 0, none⟩), .pointer (some ⟨w1.heap.size + 1, 0, none⟩), .pointer (some ⟨w1.heap.size, 0, none⟩)] (fun i => i = w1.heap.size ∨ i = w1.heap.size + 1) (fun _ => false) (Tour n) (ErSt W2 w1.heap.size (w1.heap.size + 1) (W2.heap.size + 3) ok bk) (some ⟨b, off, none⟩) n c W2 (by omega) (fun i h => by have := hk3.lt; have := hk4.lt; omega)
    (fun _ W W' h h' => h.below h') hacc (fun _ W h hs => h.put (by omega) (by omega) hk3.lt hk4.lt _) (fun s hs => by rw [show uptN75 n = frm 1 n from uptN65_frm n] at hs; exact exts_tour.1 hs)
    ⟨Fr.refl _ _, -1, none, 0, 0, hk4, hk3, .inl ⟨rfl, fun t ht => by simp at ht⟩, fun h => absurd h (by decide)⟩
  refine hs.mono ?_
  rintro e w4 ⟨A2, mm2, c2, rfl, hf, h4⟩
  rw [show uptN75 n = frm 1 n from uptN65_frm n] at h4
  have h5 : ErSt W2 w1.heap.size (w1.heap.size + 1) (W2.heap.size + 3) ok bk (exts (n - 1) [] (frm 1 n)) w4 := by
    rcases h4 with ⟨_, _, _, _, h⟩ | ⟨s, _, h, _⟩
    · exact h
    · cases h
  obtain ⟨_, z, Ab, m, cb, kz, kb, hE, hbst⟩ := h5
  have HE := Lib.hid (hE.congr (P' := Tour n) fun t => exts_tour)
  have HBt := Lib.hid (show 0 ≤ z → ∃ t, Tour n t ∧ ok t = true ∧ bk t = z ∧ m = t.length ∧ IntsAt w4.heap.size w4 Ab (intL t) ∧ m ≤ cb from fun hz => by
    obtain ⟨t, h1, h2, h3, h6, h7, h8, _⟩ := hbst hz
    exact ⟨t, exts_tour.1 h1, h2, h3, h6, h7, h8⟩)
  have HF := Lib.hid (hbw.trans (hf.below (B := w.heap.size) (by have := hbw.size; omega) (fun i hi h => by omega)))
  have Hkz := Lib.hid kz
  have Hkb := Lib.hid kb
  obtain ⟨j4, _⟩ := blk1 kz
  obtain ⟨j3, _⟩ := blk1 kb
  have hq3 := kb.lt
  have hq4 := kz.lt
  clear h4 hf hE hbst hs hacc hb12 hb2 hbw hW2 hk3 hk4 m0 m1 m2 kz kb k3 k4 k5 hb1 hs0 hs1 hsz1
  by_cases hz : z < 0
  · have d3 : decide (z < 0) = true := decide_eq_true hz
    have HZ := Lib.hid hz
    clear hz
    go_wp2_with fail
    (try simp only [Exit.inBlock, Exit.then])
    refine bodyPost_ret (results_tmp4 rfl _ _ _) rfl ?_
    exact ⟨z, none, 0, 0, by rw [Int.max_eq_right (by have := HZ.out; omega), decide_eq_false (by have := HZ.out; omega)]; rfl, HE.out, fun _ => rfl, fun h => absurd h (by have := HZ.out; omega), HF.out⟩
  · have d3 : decide (z < 0) = false := decide_eq_false hz
    have HZ := Lib.hid (show 0 ≤ z by omega)
    obtain ⟨t, h1, h2, h3, h6, h7, h8⟩ := HBt.out HZ.out
    have hml : m ≤ 1000 := by rw [h6, h1.2]; omega
    have ccl := Lib.hid (fun W (hW : Below w4.heap.size w4 W) => clone_any Ab cb W.heap.size (intL t) W (by rw [intL_length, ← h6]; omega) (h7.below hW hW.size))
    rw [intL_length, ← h6] at ccl
    have HT := Lib.hid (And.intro h1 (And.intro h2 (And.intro h3 h6)))
    have Keep := Lib.hid (fun W (hW : Below w4.heap.size w4 W) => show W.cell? ⟨w1.heap.size, 0, none⟩ = some (.slice Ab m cb) ∧ W.cell? ⟨w1.heap.size + 1, 0, none⟩ = some (.int .i64 z) ∧ Below w4.heap.size w4 W from ⟨(blk1 (Hkb.out.below hW hq3)).1, (blk1 (Hkz.out.below hW hq4)).1, hW⟩)
    clear hz h1 h2 h3 h6 h7 h8 HBt
    go_wp2_with fail
    go_region_held3 (fun W => W.cell? ⟨w1.heap.size, 0, none⟩ = some (.slice Ab m cb) ∧ W.cell? ⟨w1.heap.size + 1, 0, none⟩ = some (.int .i64 z) ∧ Below w4.heap.size w4 W)
      ((refine Keep.out _ ?_; repeat (first | exact Below.refl _ _ | assumption | refine Below.drew ?_)))
      (first
        | (go_at_call 61; refine (ccl.out _ (by repeat (first | exact Below.refl _ _ | assumption | refine Below.drew ?_))).mono ?_; rintro e w5 ⟨v, rfl, ho, hd5⟩; obtain ⟨A5, c5, rfl⟩ := own_form ho; have HO5 := Lib.hid ho; clear ho; have hb5 : Below w4.heap.size w4 w5 := Below.trans (by repeat (first | exact Below.refl _ _ | assumption | refine Below.drew ?_)) (hd5.mono (Below.size (w := w4) (B := w4.heap.size) (by repeat (first | exact Below.refl _ _ | assumption | refine Below.drew ?_)))); clear hd5))
    all_goals
      have HB5 := Lib.hid hb5
      clear hb5
      go_wp2_with fail
      (try simp only [Exit.inBlock, Exit.then])
      refine bodyPost_ret (results_tmp4 rfl _ _ _) rfl ?_
      obtain ⟨h1, h2, h3, h6⟩ := HT.out
      refine ⟨z, A5, m, c5, by rw [Int.max_eq_left HZ.out, decide_eq_true HZ.out]; rfl, HE.out, fun h => absurd h (by have := HZ.out; omega), fun _ => ⟨t, h1, h2, h3, h6, ?_, (own_caps HO5.out).1⟩, HF.out.trans (HB5.out.mono HF.out.size)⟩
      exact IntsAt.of_own (zs := intL t) (by rw [intL_length, ← h6]; exact HO5.out)

set_option maxRecDepth 100000 in
set_option maxHeartbeats 1000000 in
theorem Earliest_bad (he : erR rows n g bg ≠ 0) :
    Calls Try.prog 41 #[.slice A rows.length c, .slice A1 n c1, .int .i64 bg] w fun e w' => e = .returned (.tuple #[.slice none 0 0, .int .i64 0, .bool false, .int .i64 (erR rows n g bg)]) ∧ Below w.heap.size w w' := by
  have hT := h.below (Below.refl _ _) hB
  have hS := h1.below (Below.refl _ _) hB
  have cv := Lib.hid (fun W (hW : Below w.heap.size w W) => ValidateStops_any A A1 c c1 w.heap.size rows n g W hW.size (hT.below hW (Nat.le_refl _)) hl.2 (hS.below hW (Nat.le_refl _)) hn)
  by_cases hvs : vsR rows n g = 0
  · by_cases hb : 0 ≤ bg ∧ bg ≤ 10000
    · exact absurd (by unfold erR; rw [if_neg (by simpa using hvs), if_pos hb]) he
    · rw [er_out hvs hb]
      rw [hvs] at cv
      have hd : decide (bg < 0) = true ∨ (decide (bg < 0) = false ∧ decide (10000 < bg) = true) := by
        by_cases h0 : bg < 0
        · exact .inl (decide_eq_true h0)
        · exact .inr ⟨decide_eq_false h0, decide_eq_true (by omega)⟩
      clear h hl h1 hT hS he hvs hb
      rcases hd with d1 | ⟨d1, d2⟩
      all_goals
        go_enter Try.func41, Try.ntmps41
        go_wp2_with fail
        generalize hW0 : ((w.alloc (.cells #[.slice A rows.length c] 22)).alloc (.cells #[.slice A1 n c1] 43)).alloc (.cells #[.int .i64 bg] 3) = W0
        have HK2 := Lib.hid (show Blk W0 (w.heap.size + 1 + 1) 3 #[.int .i64 bg] by rw [← hW0]; exact blk_new' (by simp))
        have HB0 := Lib.hid (show Below w.heap.size w W0 by rw [← hW0]; exact (((Below.refl _ _).alloc (Nat.le_refl _) _).alloc (by simp) _).alloc (by simp; omega) _)
        have k3 : W0.cell? ⟨w.heap.size, 0, none⟩ = some (.slice A rows.length c) := by rw [← hW0]; exact (blk1 (((Blk.new w 22 #[.slice A rows.length c]).alloc _).alloc _)).1
        have k4 : W0.cell? ⟨w.heap.size + 1, 0, none⟩ = some (.slice A1 n c1) := by rw [← hW0]; exact (blk1 ((blk_new' (by simp)).alloc _)).1
        clear hW0
        go_wp2_with (go_at_call 39; refine (cv.out _ HB0.out).mono ?_; rintro e w1 ⟨rfl, hb1⟩; have k5 := (blk1 (HK2.out.below hb1 HK2.out.lt)).1)
        (try simp only [Exit.inBlock, Exit.then])
        refine bodyPost_ret (results_tmp4 rfl _ _ _) rfl ?_
        exact ⟨rfl, HB0.out.trans (hb1.mono HB0.out.size)⟩
  · rw [er_vs hvs]
    have hne : (vsR rows n g != 0) = true := by simpa using hvs
    generalize vsR rows n g = e0 at cv hne ⊢
    clear h hl h1 hT hS he hvs
    go_enter Try.func41, Try.ntmps41
    go_wp2_with fail
    generalize hW0 : ((w.alloc (.cells #[.slice A rows.length c] 22)).alloc (.cells #[.slice A1 n c1] 43)).alloc (.cells #[.int .i64 bg] 3) = W0
    have HB0 := Lib.hid (show Below w.heap.size w W0 by rw [← hW0]; exact (((Below.refl _ _).alloc (Nat.le_refl _) _).alloc (by simp) _).alloc (by simp; omega) _)
    have k3 : W0.cell? ⟨w.heap.size, 0, none⟩ = some (.slice A rows.length c) := by rw [← hW0]; exact (blk1 (((Blk.new w 22 #[.slice A rows.length c]).alloc _).alloc _)).1
    have k4 : W0.cell? ⟨w.heap.size + 1, 0, none⟩ = some (.slice A1 n c1) := by rw [← hW0]; exact (blk1 ((blk_new' (by simp)).alloc _)).1
    clear hW0
    go_wp2_with (go_at_call 39; refine (cv.out _ HB0.out).mono ?_; rintro e w1 ⟨rfl, hb1⟩)
    (try simp only [Exit.inBlock, Exit.then])
    refine bodyPost_ret (results_tmp4 rfl _ _ _) rfl ?_
    exact ⟨rfl, HB0.out.trans (hb1.mono HB0.out.size)⟩
end
end Go.Proofs.Ytmodbpglopfghaa


set_option linter.unusedSimpArgs false
set_option linter.unusedVariables false
namespace Go.Proofs.Ytmodbpglopfghaa
open Go.RowKit

def rowsJ : List (List Int) := [[0, 4], [4, 0]]
theorem vwJ : VW rowsJ := ⟨by decide, by decide, by decide, by
  have : ∀ i, i < 2 → ∀ j, j < 2 → okP rowsJ i j := by decide
  exact fun i j hi hj => this i hi j hj⟩
theorem shortJ {z : Int} (h : ShortR rowsJ z) : z = 8 := by
  refine (h.1 vwJ).1.unique ⟨fun t ht => ?_, [1], ⟨⟨by decide, by decide⟩, rfl⟩, by decide⟩
  obtain ⟨⟨hn, hr⟩, hl⟩ := ht
  match t, hl with
  | [a], _ =>
    have h1 := hr a (by simp)
    have : rowsJ.length = 2 := rfl
    obtain rfl : a = 1 := by omega
    decide
def wJ (w : World) : World := ((w.alloc (.cells #[.int .i64 0, .int .i64 4] 3)).alloc (.cells #[.int .i64 4, .int .i64 0] 3)).alloc (.cells #[.slice (some ⟨w.heap.size, 0, none⟩) 2 2, .slice (some ⟨w.heap.size + 1, 0, none⟩) 2 2] 28)
theorem wJ_below (w : World) : Below w.heap.size w (wJ w) := by
  unfold wJ
  exact balloc (balloc (balloc (Below.refl _ _) _) _) _
theorem tblJ (w : World) : TblAt (wJ w).heap.size (wJ w) (some ⟨w.heap.size + 2, 0, none⟩) rowsJ := by
  have i0 := ints_new w [0, 4]
  have i1 := ints_new (w.alloc (.cells #[.int .i64 0, .int .i64 4] 3)) [4, 0]
  have b3 : Blk (wJ w) (w.heap.size + 2) 28 #[.slice (some ⟨w.heap.size, 0, none⟩) 2 2, .slice (some ⟨w.heap.size + 1, 0, none⟩) 2 2] := blk_new' (by simp)
  have hb0 : Below (w.alloc (.cells #[.int .i64 0, .int .i64 4] 3)).heap.size (w.alloc (.cells #[.int .i64 0, .int .i64 4] 3)) (wJ w) := balloc (balloc (Below.refl _ _) _) _
  have hb1 : Below ((w.alloc (.cells #[.int .i64 0, .int .i64 4] 3)).alloc (.cells #[.int .i64 4, .int .i64 0] 3)).heap.size ((w.alloc (.cells #[.int .i64 0, .int .i64 4] 3)).alloc (.cells #[.int .i64 4, .int .i64 0] 3)) (wJ w) := balloc (Below.refl _ _) _
  intro k hk
  have hk3 : k = 0 ∨ k = 1 := by
    have : rowsJ.length = 2 := rfl
    omega
  rcases hk3 with rfl | rfl
  · exact ⟨_, 0, _, 2, rfl, b3.lt, b3.cell 0, IntsAt.below i0 hb0 hb0.size⟩
  · refine ⟨_, 0, some ⟨w.heap.size + 1, 0, none⟩, 2, rfl, b3.lt, b3.cell 1, ?_⟩
    have := IntsAt.below i1 hb1 hb1.size
    simp only [World.size_alloc] at this
    exact this
theorem exJ (w : World) : Calls Try.prog 21 #[.slice (some ⟨w.heap.size + 2, 0, none⟩) 2 2] (wJ w) fun e w' => e = .returned (.tuple #[.int .i64 8, .int .i64 0]) ∧ Below w.heap.size w w' := by
  have := Shortest_any (some ⟨w.heap.size + 2, 0, none⟩) 2 (wJ w).heap.size rowsJ (wJ w) (Nat.le_refl _) (tblJ w) (by decide)
  rw [vw_ok vwJ] at this
  exact this.mono fun e w' ⟨z, h1, h2, h3⟩ => ⟨by rw [h1, shortJ h2], (wJ_below w).trans (h3.mono (wJ_below w).size)⟩

theorem exJ2 (w : World) (o : Obj) : Calls Try.prog 21 #[.slice (some ⟨w.heap.size + 1 + 1 + 1, 0, none⟩) 2 2] ((((w.alloc o).alloc (.cells #[.int .i64 0, .int .i64 4] 3)).alloc (.cells #[.int .i64 4, .int .i64 0] 3)).alloc (.cells #[.slice (some ⟨w.heap.size + 1, 0, none⟩) 2 2, .slice (some ⟨w.heap.size + 1 + 1, 0, none⟩) 2 2] 28)) fun e w' => e = .returned (.tuple #[.int .i64 8, .int .i64 0]) ∧ Below (w.alloc o).heap.size (w.alloc o) w' := by
  have := exJ (w.alloc o)
  simpa only [World.size_alloc, wJ] using this
/-- The cells of a round. -/
theorem rndC {w w1 : World} {v0 v1 v2 v3 : Value} (h : Below (w.alloc (.cells #[v0, v1, v2, v3] 72)).heap.size (w.alloc (.cells #[v0, v1, v2, v3] 72)) w1) :
    w1.cell? ⟨w.heap.size, 0, none⟩ = some v0 ∧ w1.cell? ⟨w.heap.size, 1, none⟩ = some v1 ∧ w1.cell? ⟨w.heap.size, 2, none⟩ = some v2 ∧ w1.cell? ⟨w.heap.size, 3, none⟩ = some v3 := by
  obtain ⟨q0, q1, q2, q3, _⟩ := blk4 ((Blk.new w 72 #[v0, v1, v2, v3]).below h (Blk.new w 72 #[v0, v1, v2, v3]).lt)
  exact ⟨q0, q1, q2, q3⟩

end Go.Proofs.Ytmodbpglopfghaa


set_option linter.unusedSimpArgs false
set_option linter.unusedVariables false
namespace Go.Proofs.Ytmodbpglopfghaa
open Go.RowKit

section
variable (A A1 AP AT AO : Option Addr) (c c1 cP cT cO : Nat) (rows : List (List Int)) (n : Nat) (g : Nat → Nat → Int) (p t o : List Int) (bg : Int) (w : World)
set_option maxRecDepth 100000 in
set_option maxHeartbeats 4000000 in
theorem tours_bad (h : TblAt w.heap.size w A rows) (hlg : lgW rows = false) (d2 : decide (60 < n) = false) (d3 : decide (60 < p.length) = false) (d4 : decide (60 < t.length) = false) (d5 : decide (60 < o.length) = false) (hv : ¬ VW rows) :
    Calls Try.prog 16 #[.slice A rows.length c, .slice A1 n c1, .agg #[.slice AP p.length cP, .slice AT t.length cT, .slice AO o.length cO, .int .i64 bg]] w fun e w' => e = .returned (.bool true) ∧ Below w.heap.size w w' := by
  have hl := lgW_small hlg
  have cl := Lib.hid (fun W (hW : Below w.heap.size w W) => Large_any A c w.heap.size rows W (h.below hW (Nat.le_refl _)))
  have cs := Lib.hid (fun W (hW : Below w.heap.size w W) => Shortest_any A c w.heap.size rows W hW.size (h.below hW (Nat.le_refl _)) hl.2)
  have cv := Lib.hid (fun W (hW : Below w.heap.size w W) => Validate_any A c w.heap.size rows W (h.below hW (Nat.le_refl _)) hl.2)
  rw [hlg] at cl
  have hne : (vwR rows != 0) = true := by simpa using vw_ne hv
  generalize vwR rows = e0 at cs cv hne
  clear h hlg hl hv
  generalize rows.length = m at *
  generalize p.length = lp at *
  generalize t.length = lt at *
  generalize o.length = lo at *
  have l2 : n ≤ 60 := by simpa using d2
  have l3 : lp ≤ 60 := by simpa using d3
  have l4 : lt ≤ 60 := by simpa using d4
  have l5 : lo ≤ 60 := by simpa using d5
  clear d2 d3 d4 d5
  go_enter Try.func16, Try.ntmps16
  go_upto_region 4 with (go_at_call 21; refine (exJ2 w _).mono ?_; rintro e w1 ⟨rfl, hb1⟩; obtain ⟨k0, k1, k2, k3⟩ := rndC hb1; have hb1' : Below w.heap.size w w1 := ((Below.refl w.heap.size w).alloc (Nat.le_refl _) _).trans (hb1.mono (by simp)))
  go_upto_region 6 with (go_at_call 17; refine (cl.out _ hb1').mono ?_; rintro e w2 ⟨rfl, hw2⟩; obtain rfl := hw2.symm; clear hw2)
  go_wp2_with (first
    | (go_at_call 21; refine (cs.out _ hb1').mono ?_; rintro e w3 ⟨z, rfl, _, hb3⟩; have hb3' := hb1'.trans (hb3.mono hb1'.size))
    | (go_at_call 30; refine (cv.out _ hb3').mono ?_; rintro e w4 ⟨rfl, hw4⟩; obtain rfl := hw4.symm; clear hw4))
  go_ret
  exact ⟨rfl, hb3'⟩
end
end Go.Proofs.Ytmodbpglopfghaa


set_option linter.unusedSimpArgs false
set_option linter.unusedVariables false
namespace Go.Proofs.Ytmodbpglopfghaa
open Go.RowKit

section
variable (A A1 AP AT AO : Option Addr) (c c1 cP cT cO : Nat) (rows : List (List Int)) (n : Nat) (g : Nat → Nat → Int) (p t o : List Int) (bg : Int) (w : World)
set_option maxRecDepth 100000 in
set_option maxHeartbeats 4000000 in
/-- Some list is long. -/
theorem tours_long (h : TblAt w.heap.size w A rows) (hl : lgW rows = true ∨ lgW rows = false ∧ (60 < n ∨ n ≤ 60 ∧ (60 < p.length ∨ p.length ≤ 60 ∧ (60 < t.length ∨ t.length ≤ 60 ∧ 60 < o.length)))) :
    Calls Try.prog 16 #[.slice A rows.length c, .slice A1 n c1, .agg #[.slice AP p.length cP, .slice AT t.length cT, .slice AO o.length cO, .int .i64 bg]] w fun e w' => e = .returned (.bool true) ∧ Below w.heap.size w w' := by
  have cl := Lib.hid (fun W (hW : Below w.heap.size w W) => Large_any A c w.heap.size rows W (h.below hW (Nat.le_refl _)))
  clear h
  generalize rows.length = m at *
  generalize p.length = lp at *
  generalize t.length = lt at *
  generalize o.length = lo at *
  generalize lgW rows = lg at *
  rcases hl with d1 | ⟨d1, d2 | ⟨d2, d3 | ⟨d3, d4 | ⟨d4, d5⟩⟩⟩⟩
  all_goals
    subst d1
    go_enter Try.func16, Try.ntmps16
    go_upto_region 4 with (go_at_call 21; refine (exJ2 w _).mono ?_; rintro e w1 ⟨rfl, hb1⟩; obtain ⟨k0, k1, k2, k3⟩ := rndC hb1; have hb1' : Below w.heap.size w w1 := ((Below.refl w.heap.size w).alloc (Nat.le_refl _) _).trans (hb1.mono (by simp)))
    go_wp2_with (go_at_call 17; refine (cl.out _ hb1').mono ?_; rintro e w2 ⟨rfl, hw2⟩; obtain rfl := hw2.symm; clear hw2)
    go_ret
    exact ⟨rfl, hb1'⟩
end
end Go.Proofs.Ytmodbpglopfghaa


set_option linter.unusedSimpArgs false
set_option linter.unusedVariables false
namespace Go.Proofs.Ytmodbpglopfghaa
open Go.RowKit

section
variable (A A1 AP AT AO : Option Addr) (c c1 cP cT cO : Nat) (rows : List (List Int)) (n : Nat) (g : Nat → Nat → Int) (p t o : List Int) (bg : Int) (w : World)
set_option maxRecDepth 100000 in
set_option maxHeartbeats 16000000 in
theorem tours_good (h : TblAt w.heap.size w A rows) (h1 : StAt w.heap.size w A1 n g) (hp : IntsAt w.heap.size w AP p) (ht : IntsAt w.heap.size w AT t) (ho : IntsAt w.heap.size w AO o) (hcT : t.length ≤ cT) (hcO : o.length ≤ cO) (hlg : lgW rows = false) (l2 : n ≤ 60) (l3 : p.length ≤ 60) (l4 : t.length ≤ 60) (l5 : o.length ≤ 60) (hv : VW rows) :
    Calls Try.prog 16 #[.slice A rows.length c, .slice A1 n c1, .agg #[.slice AP p.length cP, .slice AT t.length cT, .slice AO o.length cO, .int .i64 bg]] w fun e w' => e = .returned (.bool true) ∧ Below w.heap.size w w' := by
  have hl := lgW_small hlg
  have cl := Lib.hid (fun W (hW : Below w.heap.size w W) => Large_any A c w.heap.size rows W (h.below hW (Nat.le_refl _)))
  rw [hlg] at cl
  have cs := Lib.hid (fun W (hW : Below w.heap.size w W) => Shortest_any A c w.heap.size rows W hW.size (h.below hW (Nat.le_refl _)) hl.2)
  have ct := Lib.hid (fun W (hW : Below w.heap.size w W) => Tour_any A c w.heap.size rows W hW.size (h.below hW (Nat.le_refl _)) hl.2 hv)
  have ce := Lib.hid (fun W (hW : Below w.heap.size w W) => Tree_any A c w.heap.size rows W hW.size (h.below hW (Nat.le_refl _)) hl.2)
  rw [vw_ok hv] at cs ce
  have hn0 := hv.n0
  have hn7 := hv.n1
  -- the length of a tour of all stops
  have cL := Lib.hid (fun (A2 : Option Addr) (c2 : Nat) (s : List Nat) (hs : Tour rows.length s) (hc : rows.length - 1 ≤ c2) W (hW : Below w.heap.size w W) (hI : IntsAt W.heap.size W A2 (intL s)) => show Calls Try.prog 29 #[.slice A rows.length c, .slice A2 (rows.length - 1) c2] W fun e w' => e = .returned (.tuple #[.int .i64 (lenF (wy rows) 0 s), .int .i64 0]) ∧ W = w' from by
    have hll : (intL s).length = rows.length - 1 := by rw [intL_length, hs.2]
    have htd : tdR rows (intL s) = 0 := by rw [td_vw _ hv, stp_tu hs.1]
    have := Length_any A A2 c c2 W.heap.size rows (intL s) W (h.below hW hW.size) hl.2 hI (by rw [hll]; omega) (by rw [hll]; exact hc)
    rw [hll, htd, show lnR rows (intL s) = lenF (wy rows) 0 s by rw [lnR, if_pos htd, intL_toN]] at this
    exact this)
  have cX := Lib.hid (fun W (hW : Below w.heap.size w W) => Length_any A AT c cT w.heap.size rows t W (h.below hW (Nat.le_refl _)) hl.2 (ht.below hW (Nat.le_refl _)) (by omega) hcT)
  have HX := Lib.hid (show ∀ z, IsShort rows.length (wy rows) z → tdR rows t = 0 → t.length = rows.length - 1 → z ≤ lnR rows t from fun z hz h0 hlen => by
    obtain ⟨_, hu⟩ := td_zero h0
    obtain ⟨hi, hs⟩ := tu_stp hu
    rw [lnR, if_pos h0]
    exact hz.1 _ ⟨hs, by rw [toN_length]; exact hlen⟩)
  have HTree := Lib.hid (show ∀ y z, TreeR rows y → IsShort rows.length (wy rows) z → y ≤ z from fun y z h1 h2 => short_tree (h1.1 hv).1 h2 hv.sym hv.bd hv.n0)
  -- bounds
  have cB := Lib.hid (fun W (hW : Below w.heap.size w W) => Bound_any A AP c cP w.heap.size rows p W hW.size (h.below hW (Nat.le_refl _)) (hp.below hW (Nat.le_refl _)) hl.2 (by omega))
  have HBd := Lib.hid (show ∀ q b z, WG rows q → BdIs rows.length (wy rows) q b → IsShort rows.length (wy rows) z → b ≤ z from fun q b z hq h1 h2 => short_bound h1 h2 hv.sym (fun i k hi hk => cg_bd hv.bd hq.ok hq.len hi hk) hq.n3 hq.len)
  have cI := Lib.hid (fun W (hW : Below w.heap.size w W) (hw : WG rows p) => Improve_any A AP c cP w.heap.size rows p W hW.size (h.below hW (Nat.le_refl _)) (hp.below hW (Nat.le_refl _)) hl.2 (by omega) hw)
  have cQ := Lib.hid (fun (A2 : Option Addr) (c2 : Nat) (q : List Int) (hq : WG rows q) W (hW : Below w.heap.size w W) (hI : IntsAt W.heap.size W A2 q) => show Calls Try.prog 23 #[.slice A rows.length c, .slice A2 rows.length c2] W fun e w' => ∃ z, e = .returned (.tuple #[.int .i64 z, .int .i64 0]) ∧ BdIs rows.length (wy rows) q z ∧ Below W.heap.size W w' from by
    have := Bound_any A A2 c c2 W.heap.size rows q W (Nat.le_refl _) (h.below hW hW.size) hI hl.2 (by rw [hq.len]; omega)
    rw [wg_ok hq, hq.len] at this
    exact this.mono fun e w' ⟨z, h1, h2, h3⟩ => ⟨z, h1, (h2.1 hq).1, h3⟩)
  have HQ := Lib.hid (show ∀ q b b', Bt rows p q → WG rows p → BdIs rows.length (wy rows) p b → BdIs rows.length (wy rows) q b' → b ≤ b' from fun q b b' h1 h2 h3 h4 => by
    have := h1.2.1
    rw [bV_eq h2 h3, bV_eq h1.1 h4] at this
    exact this)
  -- windows
  have cE1 := Lib.hid (fun W (hW : Below w.heap.size w W) he => Earliest_any A A1 c c1 w.heap.size rows n g bg W hW.size (h.below hW (Nat.le_refl _)) hl (h1.below hW (Nat.le_refl _)) (by omega) he)
  have cE2 := Lib.hid (fun W (hW : Below w.heap.size w W) he => Earliest_bad A A1 c c1 w.heap.size rows n g bg W hW.size (h.below hW (Nat.le_refl _)) hl (h1.below hW (Nat.le_refl _)) (by omega) he)
  have cC := Lib.hid (fun W (hW : Below w.heap.size w W) => Check_any A A1 AO c c1 cO w.heap.size rows n g o bg W hW.size (h.below hW (Nat.le_refl _)) hl (h1.below hW (Nat.le_refl _)) (by omega) (ho.below hW (Nat.le_refl _)) (by omega) hcO)
  have HC1 := Lib.hid (show erR rows n g bg ≠ 0 → ckE rows n g o bg ≠ 0 from fun he => by
    have hd : drR rows n g o bg ≠ 0 := fun hd => by
      obtain ⟨h1, h2⟩ := dr_zero hd
      have h3 := (ts_zero h1).1
      exact he (by unfold erR; rw [vs_ok (vw_ok h3.1) h3.2.1 h3.2.2, if_neg (by simp), if_pos h2])
    rw [(ck_bad hd).2]
    exact hd)
  have HC2 := Lib.hid (show ∀ z, ErIs (okT (wy rows) g bg) (bkT (wy rows) g bg) (Tour rows.length) z → ckE rows n g o bg = 0 → o.length = rows.length - 1 → 0 ≤ z ∧ z ≤ ckV rows n g o bg from fun z hz hc hlen => by
    have hd : drR rows n g o bg = 0 := by
      rcases Classical.em (drR rows n g o bg = 0) with h | h
      · exact h
      · rw [(ck_bad h).2] at hc; exact absurd hc h
    have hlt : ltR (wy rows) g bg (toN o) = -1 := by
      rcases Classical.em (ltR (wy rows) g bg (toN o) = -1) with h | h
      · exact h
      · rw [(ck_late hd h).2] at hc; cases hc
    obtain ⟨hi, hs⟩ := tu_stp (ts_zero (dr_zero hd).1).2
    have hT : Tour rows.length (toN o) := ⟨hs, by rw [toN_length]; exact hlen⟩
    rw [(ck_ok hd hlt).1]
    rcases hz with ⟨rfl, h1⟩ | ⟨h0, _, h1⟩
    · have := h1 _ hT
      rw [okT, decide_eq_true hlt] at this; cases this
    · exact ⟨h0, h1 _ hT (decide_eq_true hlt)⟩)
  have HC3 := Lib.hid (show ∀ z y, erR rows n g bg = 0 → ErIs (okT (wy rows) g bg) (bkT (wy rows) g bg) (Tour rows.length) z → 0 ≤ z → IsShort rows.length (wy rows) y → bg + y ≤ z from fun z y he hz h0 hy => by
    rcases hz with ⟨rfl, _⟩ | ⟨_, ⟨s, hs, _, rfl⟩, _⟩
    · exact absurd h0 (by decide)
    · have h3 := (vs_zero (er_zero he).1)
      have := bkT_len (f := wy rows) (bg := bg) (t := s) (by rw [← h3.2.1]; exact h3.2.2) (fun x hx => (hs.1.2 x hx).2)
      have := hy.1 s hs
      omega)
  have HS := Lib.hid (show ∀ z, ShortR rows z → IsShort rows.length (wy rows) z ∧ 0 ≤ z ∧ z ≤ 8000 from fun z hz => hz.1 hv)
  have Hwg := Lib.hid (fun (h : wgR rows p = 0) => wg_zero h)
  have HBR := Lib.hid (fun z (h : BoundR rows p z) hw => (h.1 hw).1)
  have Heb := Lib.hid (fun (h : erR rows n g bg = 0) => (er_zero h).2)
  clear h h1 hp ht ho hcT hcO hlg hl hv
  generalize ckV rows n g o bg = cv at *
  generalize ckE rows n g o bg = ce0 at *
  generalize tdR rows t = tde at *
  generalize lnR rows t = tlen at *
  generalize wgR rows p = wge at *
  generalize erR rows n g bg = ere at *
  generalize rows.length = m at *
  have hw1 : IntKind.i64.wrap ((m : Int) - 1) = ((m - 1 : Nat) : Int) := by rw [IntWalk.i64_in _ (by omega)]; omega
  go_enter Try.func16, Try.ntmps16
  go_upto_region 4 with (go_at_call 21; refine (exJ2 w _).mono ?_; rintro e w1 ⟨rfl, hb1⟩; obtain ⟨k0, k1, k2, k3⟩ := rndC hb1; have hb1' : Below w.heap.size w w1 := ((Below.refl w.heap.size w).alloc (Nat.le_refl _) _).trans (hb1.mono (by simp)))
  go_upto_region 6 with (go_at_call 17; refine (cl.out _ hb1').mono ?_; rintro e w2 ⟨rfl, hw2⟩; obtain rfl := hw2.symm; clear hw2)
  have tok := Lib.hid (Nat.le_refl 0)
  go_upto_region 15 with (first
    | (go_at_call 21; refine (cs.out _ hb1').mono ?_; rintro e w3 ⟨S, rfl, hS, hb3⟩; have hb3' := hb1.trans (hb3.mono hb1.size); have hw3 := hb1'.trans (hb3.mono hb1'.size); have HSh := Lib.hid (HS.out _ hS); clear hS)
    | (go_at_call 27; refine (ct.out _ hw3).mono ?_; rintro e w4 ⟨A3, c3, s, rfl, hs, hsh, hI4, hc4, hb4⟩; have hb4' := hb3'.trans (hb4.mono hb3'.size); have hw4 := hw3.trans (hb4.mono hw3.size); have HI4 := Lib.hid (And.intro hs (And.intro hc4 hI4)); have HE4 := Lib.hid (hsh.unique HSh.out.1); clear hs hsh hI4 hc4)
    | (go_at_call 29; have tk := tok; clear tok; refine (cL.out A3 c3 s HI4.out.1 HI4.out.2.1 _ hw4 HI4.out.2.2).mono ?_; rw [HE4.out]; rintro e w5 ⟨rfl, hw5⟩; obtain rfl := hw5; have tok2 := tk)
    | (go_at_call 19; refine (ce.out _ hw4).mono ?_; rintro e w6 ⟨T, rfl, hT, hb6⟩; have hb6' := hb4'.trans (hb6.mono hb4'.size); have hw6 := hw4.trans (hb6.mono hw4.size); have dT := HTree.out _ _ hT HSh.out.1; clear hT; obtain ⟨k0, k1, k2, k3⟩ := rndC hb6')
    | (go_at_call 29; have tk := tok2; clear tok2; refine (cX.out _ hw6).mono ?_; rintro e w7 ⟨rfl, hw7⟩; obtain rfl := hw7))
  have Hk := Lib.hid hb6'
  clear hb6' hb4' hb3' hb6 hb4 hb3 hb1 hw4 hw3 hb1' cs ct ce cl
  go_cut [143] (fun s3 wx => s3 = .bool false ∧ wx = w6)
  case first =>
   as_aux_lemma =>
    by_cases htd : tde = 0
    · by_cases hlen : t.length = m - 1
      · have d1 : decide (tlen < S) = false := decide_eq_false (by have := HX.out S HSh.out.1 htd hlen; omega)
        subst htd
        have d2 : (((t.length : Nat) : Int) == ((m - 1 : Nat) : Int)) = true := by rw [hlen]; simp
        clear hlen
        go_wp2_with fail
        go_meet
        exact ⟨rfl, rfl⟩
      · have d1 : (((t.length : Nat) : Int) == ((m - 1 : Nat) : Int)) = false := by simp; omega
        subst htd
        clear hlen
        go_wp2_with fail
        go_meet
        exact ⟨rfl, rfl⟩
    · have d1 : (tde == 0) = false := by simpa using htd
      clear htd
      go_wp2_with fail
      go_meet
      exact ⟨rfl, rfl⟩
  case rest =>
   as_aux_lemma =>
    obtain ⟨rfl, rfl⟩ := hcut
    obtain ⟨k0, k1, k2, k3⟩ := rndC Hk.out
    have hw6 := hw6
    go_upto_if 152 with (go_at_call 23; refine (cB.out _ hw6).mono ?_; rintro e w8 ⟨b, rfl, hb, hb8⟩; have HB := Lib.hid hb; have Hk8 := Lib.hid (Hk.out.trans (hb8.mono Hk.out.size)); have hw8 := hw6.trans (hb8.mono hw6.size); clear hb)
    clear k0 k1 k2 k3
    have k0 := (rndC Hk8.out).1
    have HW6 := Lib.hid hw6
    have HW8 := Lib.hid hw8
    clear hb8 hw6 hw8
    go_cut [] (fun wx => Below w8.heap.size w8 wx)
    case first =>
     as_aux_lemma =>
      by_cases hwz : wge = 0
      · have hq := Hwg.out hwz
        have HP := Lib.hid (HBR.out b HB.out hq)
        have ci := Lib.hid (cI.out w8 HW8.out hq)
        have HWp := Lib.hid hq
        have hbS := HBd.out p b S hq HP.out HSh.out.1
        have d1 : decide (S < b) = false := decide_eq_false (by omega)
        subst hwz
        clear hq hbS
        go_wp2_with (first
          | (go_at_call 25; refine ci.out.mono ?_; rintro e w9 ⟨A5, c5, q, rfl, hI9, hBt, hb9⟩; have HI9 := Lib.hid (And.intro hBt hI9); clear hBt hI9; have HW9 := Lib.hid (HW8.out.trans (hb9.mono HW8.out.size)))
          | (go_at_call 23; refine (cQ.out A5 c5 q HI9.out.1.1 _ HW9.out HI9.out.2).mono ?_; rintro e w10 ⟨b2, rfl, hb2, hb10⟩; have f1 := HBd.out q b2 S HI9.out.1.1 hb2 HSh.out.1; have f2 := HQ.out q b b2 HI9.out.1 HWp.out HP.out hb2; have d2 : decide (S < b2) = false := decide_eq_false (by omega); have d3 : decide (b2 < b) = false := decide_eq_false (by omega); clear hb2 f1 f2))
        go_meet
        exact hb9.trans (hb10.mono hb9.size)
      · have d1 : (wge == 0) = false := by simpa using hwz
        clear hwz
        go_wp2_with fail
        go_meet
        exact Below.refl _ _
    case rest =>
     as_aux_lemma =>
      have hk9 := Hk8.out.trans (hcut.mono Hk8.out.size)
      obtain ⟨k0, k1, k2, k3⟩ := rndC hk9
      have hw9 := HW8.out.trans (hcut.mono HW8.out.size)
      clear hcut
      by_cases he : ere = 0
      · have hbe := Heb.out he
        have cE := Lib.hid (cE1.out wc hw9 he)
        have hS := HSh.out.2
        have HC3' := Lib.hid (fun z (hz : ErIs (okT (wy rows) g bg) (bkT (wy rows) g bg) (Tour m) z) (h0 : 0 ≤ z) => HC3.out z S he hz h0 HSh.out.1)
        subst he
        go_upto_region 24 with (go_at_call 41; refine cE.out.mono ?_; rintro e w11 ⟨z, A6, m6, c6, rfl, hE, hn6, hp6, hb11⟩; have HE := Lib.hid hE; have hk11 := hk9.trans (hb11.mono hk9.size); have hw11 := hw9.trans (hb11.mono hw9.size); clear hE hn6 hp6)
        clear k0 k1 k2 k3
        obtain ⟨k0, k1, k2, k3⟩ := rndC hk11
        by_cases hz : 0 ≤ z
        · as_aux_lemma =>
          have hsum := HC3'.out z HE.out hz
          have hdz : decide (0 ≤ z) = true := decide_eq_true hz
          have hmz : max z 0 = z := Int.max_eq_left hz
          rw [hdz, hmz]
          clear hdz hmz
          go_upto_region 25 with (go_at_call 44; refine (cC.out _ hw11).mono ?_; rintro e w12 ⟨rfl, hb12⟩; have hk12 := hk11.trans (hb12.mono hk11.size); have hw12 := hw11.trans (hb12.mono hw11.size); clear k0 k1 k2 k3; obtain ⟨k0, k1, k2, k3⟩ := rndC hk12)
          go_cut [229] (fun s3 wx => s3 = .bool false ∧ wx = w12)
          case first =>
            by_cases hc : ce0 = 0
            · by_cases hlen : o.length = m - 1
              · have h2 := HC2.out z HE.out hc hlen
                have d1 : decide (cv < z) = false := decide_eq_false (by omega)
                have d2 : (((o.length : Nat) : Int) == ((m - 1 : Nat) : Int)) = true := by rw [hlen]; simp
                subst hc
                clear hlen h2
                go_wp2_with fail
                go_meet
                exact ⟨rfl, rfl⟩
              · have d1 : (((o.length : Nat) : Int) == ((m - 1 : Nat) : Int)) = false := by simp; omega
                subst hc
                clear hlen
                go_wp2_with fail
                go_meet
                exact ⟨rfl, rfl⟩
            · have d1 : (ce0 == 0) = false := by simpa using hc
              clear hc
              go_wp2_with fail
              go_meet
              exact ⟨rfl, rfl⟩
          case rest =>
            obtain ⟨rfl, rfl⟩ := hcut
            have hw2 : IntKind.i64.wrap (bg + S) = bg + S := IntWalk.i64_in _ (by omega)
            have d1 : decide (bg + S ≤ z) = true := decide_eq_true hsum
            clear hsum
            go_wp2_with fail
            go_ret
            exact ⟨rfl, hw12⟩
        · as_aux_lemma =>
          have hdz : decide (0 ≤ z) = false := decide_eq_false hz
          have hmz : max z 0 = 0 := Int.max_eq_right (by omega)
          rw [hdz, hmz]
          clear hdz hmz
          go_upto_region 25 with (go_at_call 44; refine (cC.out _ hw11).mono ?_; rintro e w12 ⟨rfl, hb12⟩; have hk12 := hk11.trans (hb12.mono hk11.size); have hw12 := hw11.trans (hb12.mono hw11.size); clear k0 k1 k2 k3; obtain ⟨k0, k1, k2, k3⟩ := rndC hk12)
          go_cut [229] (fun s3 wx => s3 = .bool false ∧ wx = w12)
          case first =>
            by_cases hc : ce0 = 0
            · by_cases hlen : o.length = m - 1
              · have h2 := HC2.out z HE.out hc hlen
                exact absurd h2.1 (by omega)
              · have d1 : (((o.length : Nat) : Int) == ((m - 1 : Nat) : Int)) = false := by simp; omega
                subst hc
                clear hlen
                go_wp2_with fail
                go_meet
                exact ⟨rfl, rfl⟩
            · have d1 : (ce0 == 0) = false := by simpa using hc
              clear hc
              go_wp2_with fail
              go_meet
              exact ⟨rfl, rfl⟩
          case rest =>
            obtain ⟨rfl, rfl⟩ := hcut
            go_wp2_with fail
            go_ret
            exact ⟨rfl, hw12⟩
      · as_aux_lemma =>
        have cE := Lib.hid (cE2.out wc hw9 he)
        have hce := HC1.out he
        have hne : (ere != 0) = true := by simpa using he
        have hnc : (ce0 == 0) = false := by simpa using hce
        clear he hce
        go_upto_region 24 with (go_at_call 41; refine cE.out.mono ?_; rintro e w11 ⟨rfl, hb11⟩; have hk11 := hk9.trans (hb11.mono hk9.size); have hw11 := hw9.trans (hb11.mono hw9.size))
        clear k0 k1 k2 k3
        obtain ⟨k0, k1, k2, k3⟩ := rndC hk11
        go_wp2_with (go_at_call 44; refine (cC.out _ hw11).mono ?_; rintro e w12 ⟨rfl, hb12⟩; have hk12 := hk11.trans (hb12.mono hk11.size); have hw12 := hw11.trans (hb12.mono hw11.size); clear k0 k1 k2 k3; obtain ⟨k0, k1, k2, k3⟩ := rndC hk12)
        go_ret
        exact ⟨rfl, hw12⟩
end

/-- The law. -/
theorem tours_law (A A1 AP AT AO : Option Addr) (c c1 cP cT cO : Nat) (rows : List (List Int)) (n : Nat) (g : Nat → Nat → Int) (p t o : List Int) (bg : Int) (w : World)
    (h : TblAt w.heap.size w A rows) (h1 : StAt w.heap.size w A1 n g) (hp : IntsAt w.heap.size w AP p) (ht : IntsAt w.heap.size w AT t) (ho : IntsAt w.heap.size w AO o) (hcT : t.length ≤ cT) (hcO : o.length ≤ cO) :
    Calls Try.prog 16 #[.slice A rows.length c, .slice A1 n c1, .agg #[.slice AP p.length cP, .slice AT t.length cT, .slice AO o.length cO, .int .i64 bg]] w fun e w' => e = .returned (.bool true) ∧ Below w.heap.size w w' := by
  by_cases hlg : lgW rows = true
  · exact tours_long A A1 AP AT AO c c1 cP cT cO rows n p t o bg w h (.inl hlg)
  have hlg' : lgW rows = false := by simpa using hlg
  by_cases h2 : 60 < n
  · exact tours_long A A1 AP AT AO c c1 cP cT cO rows n p t o bg w h (.inr ⟨hlg', .inl h2⟩)
  by_cases h3 : 60 < p.length
  · exact tours_long A A1 AP AT AO c c1 cP cT cO rows n p t o bg w h (.inr ⟨hlg', .inr ⟨by omega, .inl h3⟩⟩)
  by_cases h4 : 60 < t.length
  · exact tours_long A A1 AP AT AO c c1 cP cT cO rows n p t o bg w h (.inr ⟨hlg', .inr ⟨by omega, .inr ⟨by omega, .inl h4⟩⟩⟩)
  by_cases h5 : 60 < o.length
  · exact tours_long A A1 AP AT AO c c1 cP cT cO rows n p t o bg w h (.inr ⟨hlg', .inr ⟨by omega, .inr ⟨by omega, .inr ⟨by omega, h5⟩⟩⟩⟩)
  by_cases hv : VW rows
  · exact tours_good A A1 AP AT AO c c1 cP cT cO rows n g p t o bg w h h1 hp ht ho hcT hcO hlg' (by omega) (by omega) (by omega) (by omega) hv
  · exact tours_bad A A1 AP AT AO c c1 cP cT cO rows n p t o bg w h hlg' (by simpa using h2) (by simpa using h3) (by simpa using h4) (by simpa using h5) hv
end Go.Proofs.Ytmodbpglopfghaa


namespace Go.Proofs.Ytmodbpglopfghaa
open Go.RowKit Go.ChangeShapes Go.WideShapes Go.ChangeAt Go.Deep

section
variable {H : Type} {enc : TypeId × Value → H} {P : Program} {W : World} {base : Nat} {sp : Nat → Bool} {held : Bool} {t e : TypeId} {cs : List Value} {x : DataW H × List MemPlace}

/-- The cells of a struct of one-cell fields. -/
theorem struct_fields {fs : Array Field} {n : Nat} {cs' : List Value} {y : DataW H × List MemPlace} (hs : P.underlying e = some (.struct fs)) (hone : oneCellFields P fs = true) (hC : P.cellsOf e = fs.size)
    (h : DataW.trod enc P W base sp held n e cs' = some y) :
    cs'.length = fs.size ∧ ∀ j (hj : j < fs.size), ∃ n' y' v, cs'[j]? = some v ∧ DataW.trod enc P W base sp held n' fs[j].type [v] = some y' := by
  obtain ⟨ys, n', _, _, hlen, _, hf⟩ := DataW.trod_struct hs h
  rw [hC] at hlen
  refine ⟨hlen, fun j hj => ?_⟩
  have hfj : fs[j]? = some fs[j] := Array.getElem?_eq_getElem hj
  obtain ⟨ho, hk⟩ := hone_of hone j fs[j] hfj
  have h1 := hf j fs[j] hfj
  rw [ho, hk] at h1
  have hv : cs'[j]? = some (cs'[j]'(by omega)) := List.getElem?_eq_getElem (by omega)
  have hone' : (cs'.drop j).take 1 = [cs'[j]'(by omega)] := by
    rw [List.drop_eq_getElem_cons (by omega)]; rfl
  rw [hone'] at h1
  cases hy : DataW.trod enc P W base sp held n' fs[j].type [cs'[j]'(by omega)] with
  | none =>
    rw [hy] at h1
    have := ‹ys.length = fs.size›
    rw [List.getElem?_eq_getElem (by omega)] at h1; cases h1
  | some y' => exact ⟨n', y', _, hv, hy⟩
end

theorem arr3 {cs : Array Value} {v0 v1 v2 : Value} (hl : cs.toList.length = 3) (h0 : cs.toList[0]? = some v0) (h1 : cs.toList[1]? = some v1) (h2 : cs.toList[2]? = some v2) : cs = #[v0, v1, v2] := by
  obtain ⟨l⟩ := cs
  match l, hl with
  | [a, b, c], _ =>
    simp only [List.getElem?_cons_zero, List.getElem?_cons_succ, Option.some.injEq] at h0 h1 h2
    subst h0 h1 h2; rfl
section
variable {H : Type} {enc : TypeId × Value → H} {W : World} {base b0 : Nat} {sp : Nat → Bool} {held : Bool} {cs : List Value} {x : DataW H × List MemPlace}
set_option maxRecDepth 100000 in
/-- A trip by value. -/
theorem open_trip {r : Reach} {v : Value} {d : DataW H} {p : List MemPlace} (hv : Value.okWide Try.prog W r b0 45 v) (h : DataW.Trod enc Try.prog W base sp held 45 v d p) :
    ∃ AS cS n, ∃ g : Nat → Nat → Int, ∃ AT cT, ∃ t : List Int, ∃ bg, v = .agg #[.slice AS n cS, .slice AT t.length cT, .int .i64 bg] ∧ StAt W.heap.size W AS n g ∧ IntsAt W.heap.size W AT t ∧ t.length ≤ cT ∧ cT ≤ maxLen := by
  obtain ⟨cs, rfl, hsz⟩ := okWide_struct Try.underlying45 hv
  obtain ⟨fuel, hf⟩ := h
  simp only [Value.cells] at hf
  obtain ⟨hlen, hz⟩ := struct_fields Try.underlying45 (by kernel_rfl) (by kernel_rfl) hf
  obtain ⟨n0, y0, v0, c0, t0⟩ := hz 0 (by decide)
  obtain ⟨n1, y1, v1, c1, t1⟩ := hz 1 (by decide)
  obtain ⟨n2, y2, v2, c2, t2⟩ := hz 2 (by decide)
  obtain rfl := arr3 hlen c0 c1 c2
  obtain ⟨q, rfl, _⟩ := trod_int_inv Try.underlying3 t2
  obtain ⟨AS, cS, n, g, e0, i0, _, _⟩ := open_rowsAt Try.underlying43 Try.underlying89 (by kernel_rfl) (by kernel_rfl) (by decide) (by intro f hf; simp only [List.mem_cons, List.not_mem_nil, or_false] at hf; rcases hf with rfl | rfl | rfl | rfl <;> exact Try.underlying3) t0
  obtain ⟨AT, cT, z, e1, i1, _, _, m1, m2⟩ := open_intsCap Try.underlying28 Try.underlying3 (by kernel_rfl) t1
  obtain rfl := List.singleton_inj.1 e0
  obtain rfl := List.singleton_inj.1 e1
  exact ⟨AS, cS, n, g, AT, cT, z, q, rfl, i0, i1, m1, m2⟩
end
end Go.Proofs.Ytmodbpglopfghaa


namespace Go.Proofs.Ytmodbpglopfghaa
open Go.RowKit Go.ChangeShapes Go.WideShapes Go.ChangeAt Go.Deep

theorem arr4 {cs : Array Value} {v0 v1 v2 v3 : Value} (hl : cs.toList.length = 4) (h0 : cs.toList[0]? = some v0) (h1 : cs.toList[1]? = some v1) (h2 : cs.toList[2]? = some v2) (h3 : cs.toList[3]? = some v3) : cs = #[v0, v1, v2, v3] := by
  obtain ⟨l⟩ := cs
  match l, hl with
  | [a, b, c, d], _ =>
    simp only [List.getElem?_cons_zero, List.getElem?_cons_succ, Option.some.injEq] at h0 h1 h2 h3
    subst h0 h1 h2 h3; rfl
section
variable {H : Type} {enc : TypeId × Value → H} {W : World} {base b0 : Nat} {sp : Nat → Bool} {held : Bool} {cs : List Value} {x : DataW H × List MemPlace}
set_option maxRecDepth 100000 in
/-- A round by value. -/
theorem open_round {r : Reach} {v : Value} {d : DataW H} {p : List MemPlace} (hv : Value.okWide Try.prog W r b0 72 v) (h : DataW.Trod enc Try.prog W base sp held 72 v d p) :
    ∃ AP cP, ∃ p : List Int, ∃ AT cT, ∃ t : List Int, ∃ AO cO, ∃ o : List Int, ∃ bg, v = .agg #[.slice AP p.length cP, .slice AT t.length cT, .slice AO o.length cO, .int .i64 bg] ∧ IntsAt W.heap.size W AP p ∧ IntsAt W.heap.size W AT t ∧ IntsAt W.heap.size W AO o ∧ t.length ≤ cT ∧ o.length ≤ cO := by
  obtain ⟨cs, rfl, hsz⟩ := okWide_struct Try.underlying72 hv
  obtain ⟨fuel, hf⟩ := h
  simp only [Value.cells] at hf
  obtain ⟨hlen, hz⟩ := struct_fields Try.underlying72 (by kernel_rfl) (by kernel_rfl) hf
  obtain ⟨n0, y0, v0, c0, t0⟩ := hz 0 (by decide)
  obtain ⟨n1, y1, v1, c1, t1⟩ := hz 1 (by decide)
  obtain ⟨n2, y2, v2, c2, t2⟩ := hz 2 (by decide)
  obtain ⟨n3, y3, v3, c3, t3⟩ := hz 3 (by decide)
  obtain rfl := arr4 hlen c0 c1 c2 c3
  obtain ⟨q, rfl, _⟩ := trod_int_inv Try.underlying3 t3
  obtain ⟨AP, cP, z0, e0, i0, _, _, _, _⟩ := open_intsCap Try.underlying28 Try.underlying3 (by kernel_rfl) t0
  obtain ⟨AT, cT, z1, e1, i1, _, _, m1, _⟩ := open_intsCap Try.underlying28 Try.underlying3 (by kernel_rfl) t1
  obtain ⟨AO, cO, z2, e2, i2, _, _, m2, _⟩ := open_intsCap Try.underlying28 Try.underlying3 (by kernel_rfl) t2
  obtain rfl := List.singleton_inj.1 e0
  obtain rfl := List.singleton_inj.1 e1
  obtain rfl := List.singleton_inj.1 e2
  exact ⟨AP, cP, z0, AT, cT, z1, AO, cO, z2, q, rfl, i0, i1, i2, m1, m2⟩
end
end Go.Proofs.Ytmodbpglopfghaa


namespace Go.Proofs.Ytmodbpglopfghaa.lawTopTours
open Go.ChangeShapes Go.WideShapes Go.ChangeAt Go.RowKit Go.Deep
set_option linter.unusedVariables false

theorem own : ownKnob Try.prog.godebug = none := by kernel_rfl
theorem laidOut : laidOutB Try.prog = true := by kernel_rfl

set_option maxRecDepth 100000 in
theorem lifted (os : Os) (started : os.Started) (H : Type) (enc : TypeId × Value → H) :
    ReturnsInHanded {} Try.checked os 16 .any (Rows.topToursSpec.pre6 enc Try.prog Try.f16 Rows.topToursRow.domain false) (Rows.topToursSpec.post enc Try.prog Try.f16 false true false false) := by
  refine returnsInHanded_of_change (C := Try.checked) own started (by kernel_rfl) Try.func16
    (ChangeSpec.witness6 (enc := enc) (C := Try.checked) false ⟨#[], #[.slice none 0 0, .slice none 0 0, .agg #[.slice none 0 0, .slice none 0 0, .slice none 0 0, .int .i64 0]], []⟩ 8 (by kernel_rfl) (by kernel_rfl) (by kernel_rfl) (by kernel_rfl)) ?_
  intro W base args ds gs before hval0 hW hcnd _
  have hval : ∀ (j : Nat) t v, Try.f16.params[j]? = some t → args[j]? = some v → Value.okWide Try.prog W .any base t v := hval0
  have hW' := hW
  obtain ⟨p, q, hA0, hV, rfl, hfz, hnd⟩ := hW
  have hA : DataW.TrodAll enc Try.prog W 0 (fun _ => true) true Try.f16.params.toList args.toList ds p := hA0
  rw [Try.params16] at hA hval
  obtain ⟨v0, vs0, d0, ds0, p0, q0, hargs, rfl, rfl, h0, r0⟩ := trodAll_cons hA
  obtain ⟨v1, vs1, d1, ds1, p1, q1, rfl, rfl, rfl, h1, r1⟩ := trodAll_cons r0
  obtain ⟨v2, vs2, d2, ds2, p2, q2, rfl, rfl, rfl, h2, r2⟩ := trodAll_cons r1
  obtain ⟨rfl, rfl, rfl⟩ := trodAll_nil r2
  obtain rfl : args = #[v0, v1, v2] := by cases args; simp_all
  obtain ⟨rfl, rfl⟩ := trodVars_none hV
  have k0 := h0
  have lt0 : ∀ x ∈ p0, x.block < W.heap.size := by obtain ⟨m, hm⟩ := k0; exact DataW.trod_lt m _ _ _ hm
  obtain ⟨fu0, hf0⟩ := h0
  obtain ⟨A0, c0, l0, e0, t0, m0⟩ := open_tblAt Try.underlying22 Try.underlying28 Try.underlying3 (by kernel_rfl) (by kernel_rfl) hf0
  obtain ⟨A0', n0', c0', rfl⟩ := okWide_slice Try.underlying22 (hval 0 22 v0 rfl rfl)
  obtain ⟨rfl, rfl, rfl⟩ : A0' = A0 ∧ n0' = l0.length ∧ c0' = c0 := by simpa [Value.cells] using e0
  have k1 := h1
  have lt1 : ∀ x ∈ p1, x.block < W.heap.size := by obtain ⟨m, hm⟩ := k1; exact DataW.trod_lt m _ _ _ hm
  obtain ⟨fu1, hf1⟩ := h1
  obtain ⟨A1, c1, n1, f1, e1, i1, b1, m1⟩ := open_rowsAt Try.underlying43 Try.underlying89 (by kernel_rfl) (by kernel_rfl) (by decide) (by intro f hf; simp only [List.mem_cons, List.not_mem_nil, or_false] at hf; rcases hf with rfl | rfl | rfl | rfl <;> exact Try.underlying3) hf1
  obtain ⟨A1', n1', c1', rfl⟩ := okWide_slice Try.underlying43 (hval 1 43 v1 rfl rfl)
  obtain ⟨rfl, rfl, rfl⟩ : A1' = A1 ∧ n1' = n1 ∧ c1' = c1 := by simpa [Value.cells] using e1
  have k2 := h2
  have lt2 : ∀ x ∈ p2, x.block < W.heap.size := by obtain ⟨m, hm⟩ := k2; exact DataW.trod_lt m _ _ _ hm
  obtain ⟨P2, p2c, p2l, T2, t2c, t2l, O2, o2c, o2l, b2, rfl, i2, u2, x2, iq2, ir2⟩ := open_round (hval 2 72 v2 rfl rfl) h2
  clear hA0 hval0
  refine (tours_law _ _ _ _ _ _ _ _ _ _ l0 _ f1 p2l t2l o2l b2 W t0 i1 i2 u2 x2 iq2 ir2).mono fun e W' ⟨he, bel⟩ => ?_
  subst he
  exact ⟨_, rfl, _, _, _, [], _, [], hW', trodAll_mk1 (shut_bool Try.underlying4 _), (trodAll_cons_mk (Below.trod laidOut (by kernel_rfl) (of_decide_eq_true (by kernel_rfl)) k0 bel lt0) (trodAll_cons_mk (Below.trod laidOut (by kernel_rfl) (of_decide_eq_true (by kernel_rfl)) k1 bel lt1) (trodAll_cons_mk (Below.trod laidOut (by kernel_rfl) (of_decide_eq_true (by kernel_rfl)) k2 bel lt2) trodAll_mk0))), rfl, bel.frame _, fun h => by cases h⟩

theorem over : Rows.topToursRow.holds Try.pinned (OpenSpec.ofChange Rows.topToursSpec) :=
  OpenClaim.holds_of_wide 16 Try.f16 rfl rfl rfl rfl rfl rfl rfl ⟨rfl, rfl, rfl, rfl, rfl⟩ rfl rfl rfl rfl rfl (by kernel_rfl) Try.func16 (by kernel_rfl)
    (of_decide_eq_true (by kernel_rfl)) (by unfold Func.isWrapper; first | (rw [if_pos (by decide +kernel)]; kernel_rfl) | (rw [if_neg (by decide +kernel)]; exact ⟨rfl, rfl⟩))
    (fun os started H enc _ => lifted os started H enc)

/-- The statement. -/
theorem proved : Rows.TopToursSaid := over
end Go.Proofs.Ytmodbpglopfghaa.lawTopTours
