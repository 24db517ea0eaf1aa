/- The search f64 with accept f65. Written by mkBb.py. -/
import Derived.Test.YtmodbpglopfghaaVanAz
import Derived.Laws.EntriesVeiled
set_option linter.unusedSimpArgs false
set_option linter.unusedVariables false
namespace Go.Proofs.Ytmodbpglopfghaa
open Go.RowKit

def uptN65 (n : Nat) : List Nat := (List.range (n - 1)).map (· + 1)
theorem uptN65_int (n : Nat) : intL (uptN65 n) = upto n := by simp [uptN65, intL, upto]
theorem uptN65_length (n : Nat) : (uptN65 n).length = n - 1 := by simp [uptN65]

theorem putNew65 {X : Nat → Prop} {a w : World} (h : Fr X a w) {g : Nat} (hg : a.heap.size ≤ g) (i : Nat) (v : Value) : Fr X a (w.setCell ⟨g, i, none⟩ v) := by
  have ho : Only g w (w.setCell ⟨g, i, none⟩ v) := (Only.refl _ _).put i v
  exact ⟨ho.os.trans h.os, ho.tape.trans h.tape, ho.output.trans h.output, Nat.le_trans h.size ho.size, fun j hj hxj => (ho.block j (Nat.lt_of_lt_of_le hj h.size) (fun e => by injection e; omega)).trans (h.block j hj hxj)⟩
section
variable (caps : Array Value) (X : Nat → Prop) (dec : List Nat → Bool) (Ok : List Nat → Prop) (Inv : List (List Nat) → World → Prop)
set_option maxRecDepth 100000 in
set_option maxHeartbeats 4000000 in
theorem search65_any (A : Option Addr) (n c : Nat) (w : World) (hn : n ≤ 30) (hX : ∀ i, X i → i < w.heap.size) (hInv : ∀ done W W', Inv done W → Below W.heap.size W W' → Inv done W') (hacc : Acc65 (w.heap.size + 3) caps X dec Ok Inv)
    (hInv2 : ∀ done W, Inv done W → w.heap.size + 3 ≤ W.heap.size → Inv done (W.setCell ⟨w.heap.size + 1, 0, none⟩ (.slice none 0 0)))
    (hok : ∀ s ∈ exts (n - 1) [] (uptN65 n), Ok s) (hI : Inv [] w) :
    Calls Try.prog 64 #[.slice A n c, .func (.func 65) #[] caps] w fun e W' => ∃ A2 m c2, e = .returned (.slice A2 m c2) ∧ Fr X w W' ∧
      ((A2 = none ∧ m = 0 ∧ c2 = 0 ∧ (∀ s ∈ exts (n - 1) [] (uptN65 n), dec s = false) ∧ Inv (exts (n - 1) [] (uptN65 n)) W') ∨
        ∃ s, s ∈ exts (n - 1) [] (uptN65 n) ∧ dec s = true ∧ m = s.length ∧ IntsAt W'.heap.size W' A2 (intL s) ∧ s.length ≤ c2 ∧ c2 ≤ maxLen) := by
  have cst := Lib.hid (fun W => stops_any A n c W hn)
  have cx := Lib.hid (ext65_any w.heap.size (w.heap.size + 2) (w.heap.size + 3) caps X dec Ok Inv (fun i h => by have := hX i h; omega) (fun h => by have := hX _ h; omega) (fun h => by have := hX _ h; omega) hInv hacc (n - 1))
  have HOk := Lib.hid hok
  have HI := Lib.hid hI
  have HInv := Lib.hid hInv
  have HX := Lib.hid hX
  have HInv2 := Lib.hid hInv2
  clear hok hI hInv hX hacc hInv2
  go_enter_defers Try.func64, Try.ntmps64
  go_wp2_with fail
  generalize hW0 : ((w.alloc (.cells #[.func (.func 65) #[] caps] 29)).alloc (.cells #[.slice none 0 0] 28)).alloc (.cells #[.func (.func 92) #[] #[.pointer (some ⟨w.heap.size, 0, none⟩), .pointer (some ⟨w.heap.size + 1 + 1, 0, none⟩)]] 119) = W0
  have HKA := Lib.hid (show Blk W0 w.heap.size 29 #[.func (.func 65) #[] caps] by rw [← hW0]; exact ((Blk.new _ _ _).alloc _).alloc _)
  have HKL := Lib.hid (show Blk W0 (w.heap.size + 1) 28 #[.slice none 0 0] by rw [← hW0]; exact (blk_new' (by simp)).alloc _)
  have HKE := Lib.hid (show Blk W0 (w.heap.size + 1 + 1) 119 #[.func (.func 92) #[] #[.pointer (some ⟨w.heap.size, 0, none⟩), .pointer (some ⟨w.heap.size + 1 + 1, 0, none⟩)]] by rw [← hW0]; exact blk_new' (by simp))
  have HB0 := Lib.hid (show Below w.heap.size w W0 by rw [← hW0]; exact (((Below.refl _ _).alloc (Nat.le_refl _) _).alloc (by simp) _).alloc (by simp; omega) _)
  have HS0 := Lib.hid HKE.out.lt
  clear hW0
  have Keep := Lib.hid (show ∀ W, Below W0.heap.size W0 W → W.cell? ⟨w.heap.size + 1 + 1, 0, none⟩ = some (.func (.func 92) #[] #[.pointer (some ⟨w.heap.size, 0, none⟩), .pointer (some ⟨w.heap.size + 1 + 1, 0, none⟩)]) from fun W hW => (blk1 (HKE.out.below hW HKE.out.lt)).1)
  have HBc := Lib.hid (Below.refl W0.heap.size W0).drew
  have HX2 := Lib.hid (show ∀ i, w.heap.size ≤ i → ¬ X i from fun i hi h => absurd (HX.out i h) (by omega))
  have CX := Lib.hid (fun (A5 : Option Addr) (c5 : Nat) (W : World) (hW : Below W0.heap.size W0 W) (ho : W.ownsRow W0.heap.size 3 1 (.slice A5 (n - 1) c5) (n - 1) ((upto n).map (Value.int .i64))) => show Calls Try.prog 92 #[.slice none 0 0, .slice A5 (n - 1) c5, .pointer (some ⟨w.heap.size, 0, none⟩), .pointer (some ⟨w.heap.size + 1 + 1, 0, none⟩)] W fun e W' => Fr X W0 W' ∧
    ((e = .returned (.tuple #[]) ∧ (∀ s ∈ exts (n - 1) [] (uptN65 n), dec s = false) ∧ Inv (exts (n - 1) [] (uptN65 n)) W') ∨
      ∃ s A2 c2, s ∈ exts (n - 1) [] (uptN65 n) ∧ dec s = true ∧ e = .panicked [{ v := .iface 117 (.agg #[.slice A2 s.length c2]), recovered := false }] ∧ IntsAt W'.heap.size W' A2 (intL s) ∧ s.length ≤ c2 ∧ c2 ≤ maxLen ∧ ∀ q, A2 = some q → w.heap.size + 3 ≤ q.block) from by
    obtain ⟨q1, q2, q3⟩ := own_caps ho
    have hlen := uptN65_length n
    have hsz := hW.size
    have hs0 := HS0.out
    have := cx.out [] (uptN65 n) none A5 0 c5 W [] hlen HOk.out (by simp; omega) (HInv.out _ _ _ HI.out (HB0.out.trans (hW.mono HB0.out.size))) (HKA.out.below hW HKA.out.lt) (HKE.out.below hW HKE.out.lt) (by omega) (IntsAt.nil _ _ _) (Nat.zero_le _) (Nat.zero_le _) (fun q hq => by cases hq)
      (by rw [uptN65_int]; exact IntsAt.of_own (zs := upto n) (by rw [upto_length]; exact ho)) (by rw [hlen]; exact q1) q2 (fun q hq => by have := (q3 q hq).1; omega)
    rw [hlen] at this
    exact this.mono fun e W' h => ⟨(Fr.of_below hW).trans h.1, h.2⟩)
  have Kl := Lib.hid (show ∀ W, Fr X W0 W → Blk W (w.heap.size + 1) 28 #[.slice none 0 0] from fun W hW => hW.blk HKL.out (HX2.out _ (by omega)))
  have Kee2 := Lib.hid (show ∀ W, Fr X W0 W → W.cell? ⟨w.heap.size + 1 + 1, 0, none⟩ = some (.func (.func 92) #[] #[.pointer (some ⟨w.heap.size, 0, none⟩), .pointer (some ⟨w.heap.size + 1 + 1, 0, none⟩)]) from fun W hW => (blk1 (hW.blk HKE.out (HX2.out _ (by omega)))).1)
  refine wp_region_E (S := fun W => W.cell? ⟨w.heap.size + 1 + 1, 0, none⟩ = some (.func (.func 92) #[] #[.pointer (some ⟨w.heap.size, 0, none⟩), .pointer (some ⟨w.heap.size + 1 + 1, 0, none⟩)])) (E := fun _ => false) (by kernel_rfl) ?_
  generalize W0.drew = W1 at HBc ⊢
  have hS := Keep.out _ HBc.out
  clear hS
  refine anyE_two (i := 0) (j := 1) (oi := ?oi1) (oj := ?oj1) (by kernel_rfl) ?hi1 ?hj1 (fun K hK => ?step1) (fun K hK => ?step2)
  case hi1 => simp only [List.getElem?_toArray, List.getElem?_cons_zero, List.getElem?_cons_succ]; rfl
  case hj1 => simp only [List.getElem?_toArray, List.getElem?_cons_zero, List.getElem?_cons_succ]; rfl
  case step1 =>
    have hS := Keep.out _ HBc.out
    go_simp
    go_wp2_with fail
    clear hS
    refine hK.out _ _ (fun _ => Keep.out _ HBc.out) ?_
    clear hK K
    try simp only [Act.put, List.setIfInBounds_toArray, List.set_cons_zero, List.set_cons_succ]
    refine anyE_one (i := 1) (o := ?oi3) (by kernel_rfl) ?hi3 (fun K hK => ?step3)
    case hi3 => simp only [List.getElem?_toArray, List.getElem?_cons_zero, List.getElem?_cons_succ]; rfl
    have hS := Keep.out _ HBc.out
    go_simp
    go_wp2_with fail
    clear hS
    refine hK.out _ _ (fun _ => Keep.out _ HBc.out) ?_
    clear hK K
    try simp only [Act.put, List.setIfInBounds_toArray, List.set_cons_zero, List.set_cons_succ]
    refine anyE_one (i := 2) (o := ?oi4) (by kernel_rfl) ?hi4 (fun K hK => ?step4)
    case hi4 => simp only [List.getElem?_toArray, List.getElem?_cons_zero, List.getElem?_cons_succ]; rfl
    go_simp
    refine (cst.out W1).mono ?_
    rintro e W2 ⟨A5, c5, rfl, ho, hd⟩
    have HO := Lib.hid (own_base ho HBc.out.size)
    have HBc := Lib.hid (HBc.out.trans (hd.mono HBc.out.size))
    clear ho hd
    go_wp2_with fail
    refine hK.out _ _ (fun _ => Keep.out _ HBc.out) ?_
    clear hK K
    try simp only [Act.put, List.setIfInBounds_toArray, List.set_cons_zero, List.set_cons_succ]
    refine anyE_one (i := 3) (o := ?oi5) (by kernel_rfl) ?hi5 (fun K hK => ?step5)
    case hi5 => simp only [List.getElem?_toArray, List.getElem?_cons_zero, List.getElem?_cons_succ]; rfl
    go_simp
    refine (CX.out A5 c5 W2 HBc.out HO.out).mono ?_
    rintro e W3 ⟨hf, (⟨rfl, hrj, hiv⟩ | ⟨s, A2, c2, hs, hd, rfl, hI2, hc2, hm2, hA2⟩)⟩
    · have HF := Lib.hid hf
      have HE := Lib.hid (And.intro hrj hiv)
      clear hf hrj hiv
      go_wp2_with fail
      refine hK.out _ _ (fun _ => Kee2.out _ HF.out) ?_
      clear hK K
      try simp only [Act.put, List.setIfInBounds_toArray, List.set_cons_zero, List.set_cons_succ]
      refine anyE_done (by kernel_rfl) ?_ _
      obtain ⟨k1, z1⟩ := blk1 (Kl.out _ HF.out)
      have HZ := Lib.hid (blk1 ((Kl.out _ HF.out).put 0 (.slice none 0 0))).1
      go_wp2_with fail
      refine leaves_cons (f := 91) (args := #[.pointer (some ⟨w.heap.size + 1, 0, none⟩)]) (by simp) (by simp [go_sem]) ?_
      refine (catch_idle _ _).mono ?_
      rintro e u' w'' ⟨rfl, rfl, rfl⟩
      simp [Leaves, settle, results, Try.results64, go_sem]
      have hz : (W3.setCell ⟨w.heap.size + 1, 0, none⟩ (.slice none 0 0)).cell? ⟨w.heap.size + 1, 0, none⟩ = some (.slice none 0 0) := HZ.out
      rw [hz]
      exact ⟨_, rfl, none, 0, 0, rfl, putNew65 (Fr.trans (Fr.of_below HB0.out) HF.out) (by omega) _ _, .inl ⟨rfl, rfl, rfl, HE.out.1, HInv2.out _ _ HE.out.2 (by have := HF.out.size; have := HS0.out; omega)⟩⟩
    · have HF := Lib.hid hf
      have HE := Lib.hid (And.intro hs (And.intro hd (And.intro hI2 (And.intro hc2 (And.intro hm2 hA2)))))
      clear hf hs hd hI2 hc2 hm2 hA2
      go_wp2_with fail
      obtain ⟨k1, z1⟩ := blk1 (Kl.out _ HF.out)
      refine leaves_cons (f := 91) (args := #[.pointer (some ⟨w.heap.size + 1, 0, none⟩)]) (by simp) (by simp [go_sem]) ?_
      refine (catch_enough (w.heap.size + 1) _ A2 s.length c2 [] _ k1 z1).mono ?_
      rintro e u' w'' ⟨rfl, rfl, rfl⟩
      have hz := (blk1 (((Kl.out _ HF.out).put 0 (.slice A2 s.length c2)).alloc (.cells #[.slice A2 s.length c2] 117))).1
      have hf4 : Fr (fun i => i = w.heap.size + 1) W3 ((W3.setCell ⟨w.heap.size + 1, 0, none⟩ (.slice A2 s.length c2)).alloc (.cells #[.slice A2 s.length c2] 117)) := (Fr.put (X := fun i => i = w.heap.size + 1) (Fr.refl _ W3) (g := w.heap.size + 1) (i := 0) rfl (.slice A2 s.length c2)).trans (Fr.of_below ((Below.refl _ _).alloc (Nat.le_refl _) _))
      have hI4 := hf4.ints (fun q hq e => by have := HE.out.2.2.2.2.2 q hq; omega) HE.out.2.2.1
      have hF4 := putNew65 (Fr.trans (Fr.of_below HB0.out) HF.out) (g := w.heap.size + 1) (by omega) 0 (.slice A2 s.length c2)
      have hF5 := hF4.trans (Fr.of_below ((Below.refl _ _).alloc (Nat.le_refl _) (.cells #[.slice A2 s.length c2] 117)))
      generalize (W3.setCell ⟨w.heap.size + 1, 0, none⟩ (.slice A2 s.length c2)).alloc (.cells #[.slice A2 s.length c2] 117) = W4 at hz hI4 hF5 ⊢
      have hz2 : W4.cell? ⟨w.heap.size + 1, 0, none⟩ = some (.slice A2 s.length c2) := hz
      simp [Leaves, settle, results, Try.results64, go_sem, hz2]
      exact ⟨_, _, _, ⟨rfl, rfl, rfl⟩, hF5, .inr ⟨s, HE.out.1, HE.out.2.1, rfl, hI4, HE.out.2.2.2.1, HE.out.2.2.2.2.1⟩⟩
  case step2 =>
    have hS := Keep.out _ HBc.out
    go_simp
    go_wp2_with fail
    clear hS
    refine hK.out _ _ (fun _ => Keep.out _ HBc.out) ?_
    clear hK K
    try simp only [Act.put, List.setIfInBounds_toArray, List.set_cons_zero, List.set_cons_succ]
    refine anyE_two (i := 0) (j := 2) (oi := ?oi6) (oj := ?oj6) (by kernel_rfl) ?hi6 ?hj6 (fun K hK => ?step6) (fun K hK => ?step7)
    case hi6 => simp only [List.getElem?_toArray, List.getElem?_cons_zero, List.getElem?_cons_succ]; rfl
    case hj6 => simp only [List.getElem?_toArray, List.getElem?_cons_zero, List.getElem?_cons_succ]; rfl
    case step6 =>
      have hS := Keep.out _ HBc.out
      go_simp
      go_wp2_with fail
      clear hS
      refine hK.out _ _ (fun _ => Keep.out _ HBc.out) ?_
      clear hK K
      try simp only [Act.put, List.setIfInBounds_toArray, List.set_cons_zero, List.set_cons_succ]
      refine anyE_one (i := 2) (o := ?oi8) (by kernel_rfl) ?hi8 (fun K hK => ?step8)
      case hi8 => simp only [List.getElem?_toArray, List.getElem?_cons_zero, List.getElem?_cons_succ]; rfl
      go_simp
      refine (cst.out W1).mono ?_
      rintro e W2 ⟨A5, c5, rfl, ho, hd⟩
      have HO := Lib.hid (own_base ho HBc.out.size)
      have HBc := Lib.hid (HBc.out.trans (hd.mono HBc.out.size))
      clear ho hd
      go_wp2_with fail
      refine hK.out _ _ (fun _ => Keep.out _ HBc.out) ?_
      clear hK K
      try simp only [Act.put, List.setIfInBounds_toArray, List.set_cons_zero, List.set_cons_succ]
      refine anyE_one (i := 3) (o := ?oi9) (by kernel_rfl) ?hi9 (fun K hK => ?step9)
      case hi9 => simp only [List.getElem?_toArray, List.getElem?_cons_zero, List.getElem?_cons_succ]; rfl
      go_simp
      refine (CX.out A5 c5 W2 HBc.out HO.out).mono ?_
      rintro e W3 ⟨hf, (⟨rfl, hrj, hiv⟩ | ⟨s, A2, c2, hs, hd, rfl, hI2, hc2, hm2, hA2⟩)⟩
      · have HF := Lib.hid hf
        have HE := Lib.hid (And.intro hrj hiv)
        clear hf hrj hiv
        go_wp2_with fail
        refine hK.out _ _ (fun _ => Kee2.out _ HF.out) ?_
        clear hK K
        try simp only [Act.put, List.setIfInBounds_toArray, List.set_cons_zero, List.set_cons_succ]
        refine anyE_done (by kernel_rfl) ?_ _
        obtain ⟨k1, z1⟩ := blk1 (Kl.out _ HF.out)
        have HZ := Lib.hid (blk1 ((Kl.out _ HF.out).put 0 (.slice none 0 0))).1
        go_wp2_with fail
        refine leaves_cons (f := 91) (args := #[.pointer (some ⟨w.heap.size + 1, 0, none⟩)]) (by simp) (by simp [go_sem]) ?_
        refine (catch_idle _ _).mono ?_
        rintro e u' w'' ⟨rfl, rfl, rfl⟩
        simp [Leaves, settle, results, Try.results64, go_sem]
        have hz : (W3.setCell ⟨w.heap.size + 1, 0, none⟩ (.slice none 0 0)).cell? ⟨w.heap.size + 1, 0, none⟩ = some (.slice none 0 0) := HZ.out
        rw [hz]
        exact ⟨_, rfl, none, 0, 0, rfl, putNew65 (Fr.trans (Fr.of_below HB0.out) HF.out) (by omega) _ _, .inl ⟨rfl, rfl, rfl, HE.out.1, HInv2.out _ _ HE.out.2 (by have := HF.out.size; have := HS0.out; omega)⟩⟩
      · have HF := Lib.hid hf
        have HE := Lib.hid (And.intro hs (And.intro hd (And.intro hI2 (And.intro hc2 (And.intro hm2 hA2)))))
        clear hf hs hd hI2 hc2 hm2 hA2
        go_wp2_with fail
        obtain ⟨k1, z1⟩ := blk1 (Kl.out _ HF.out)
        refine leaves_cons (f := 91) (args := #[.pointer (some ⟨w.heap.size + 1, 0, none⟩)]) (by simp) (by simp [go_sem]) ?_
        refine (catch_enough (w.heap.size + 1) _ A2 s.length c2 [] _ k1 z1).mono ?_
        rintro e u' w'' ⟨rfl, rfl, rfl⟩
        have hz := (blk1 (((Kl.out _ HF.out).put 0 (.slice A2 s.length c2)).alloc (.cells #[.slice A2 s.length c2] 117))).1
        have hf4 : Fr (fun i => i = w.heap.size + 1) W3 ((W3.setCell ⟨w.heap.size + 1, 0, none⟩ (.slice A2 s.length c2)).alloc (.cells #[.slice A2 s.length c2] 117)) := (Fr.put (X := fun i => i = w.heap.size + 1) (Fr.refl _ W3) (g := w.heap.size + 1) (i := 0) rfl (.slice A2 s.length c2)).trans (Fr.of_below ((Below.refl _ _).alloc (Nat.le_refl _) _))
        have hI4 := hf4.ints (fun q hq e => by have := HE.out.2.2.2.2.2 q hq; omega) HE.out.2.2.1
        have hF4 := putNew65 (Fr.trans (Fr.of_below HB0.out) HF.out) (g := w.heap.size + 1) (by omega) 0 (.slice A2 s.length c2)
        have hF5 := hF4.trans (Fr.of_below ((Below.refl _ _).alloc (Nat.le_refl _) (.cells #[.slice A2 s.length c2] 117)))
        generalize (W3.setCell ⟨w.heap.size + 1, 0, none⟩ (.slice A2 s.length c2)).alloc (.cells #[.slice A2 s.length c2] 117) = W4 at hz hI4 hF5 ⊢
        have hz2 : W4.cell? ⟨w.heap.size + 1, 0, none⟩ = some (.slice A2 s.length c2) := hz
        simp [Leaves, settle, results, Try.results64, go_sem, hz2]
        exact ⟨_, _, _, ⟨rfl, rfl, rfl⟩, hF5, .inr ⟨s, HE.out.1, HE.out.2.1, rfl, hI4, HE.out.2.2.2.1, HE.out.2.2.2.2.1⟩⟩
    case step7 =>
      go_simp
      refine (cst.out W1).mono ?_
      rintro e W2 ⟨A5, c5, rfl, ho, hd⟩
      have HO := Lib.hid (own_base ho HBc.out.size)
      have HBc := Lib.hid (HBc.out.trans (hd.mono HBc.out.size))
      clear ho hd
      go_wp2_with fail
      refine hK.out _ _ (fun _ => Keep.out _ HBc.out) ?_
      clear hK K
      try simp only [Act.put, List.setIfInBounds_toArray, List.set_cons_zero, List.set_cons_succ]
      refine anyE_one (i := 0) (o := ?oi10) (by kernel_rfl) ?hi10 (fun K hK => ?step10)
      case hi10 => simp only [List.getElem?_toArray, List.getElem?_cons_zero, List.getElem?_cons_succ]; rfl
      have hS := Keep.out _ HBc.out
      go_simp
      go_wp2_with fail
      clear hS
      refine hK.out _ _ (fun _ => Keep.out _ HBc.out) ?_
      clear hK K
      try simp only [Act.put, List.setIfInBounds_toArray, List.set_cons_zero, List.set_cons_succ]
      refine anyE_one (i := 3) (o := ?oi11) (by kernel_rfl) ?hi11 (fun K hK => ?step11)
      case hi11 => simp only [List.getElem?_toArray, List.getElem?_cons_zero, List.getElem?_cons_succ]; rfl
      go_simp
      refine (CX.out A5 c5 W2 HBc.out HO.out).mono ?_
      rintro e W3 ⟨hf, (⟨rfl, hrj, hiv⟩ | ⟨s, A2, c2, hs, hd, rfl, hI2, hc2, hm2, hA2⟩)⟩
      · have HF := Lib.hid hf
        have HE := Lib.hid (And.intro hrj hiv)
        clear hf hrj hiv
        go_wp2_with fail
        refine hK.out _ _ (fun _ => Kee2.out _ HF.out) ?_
        clear hK K
        try simp only [Act.put, List.setIfInBounds_toArray, List.set_cons_zero, List.set_cons_succ]
        refine anyE_done (by kernel_rfl) ?_ _
        obtain ⟨k1, z1⟩ := blk1 (Kl.out _ HF.out)
        have HZ := Lib.hid (blk1 ((Kl.out _ HF.out).put 0 (.slice none 0 0))).1
        go_wp2_with fail
        refine leaves_cons (f := 91) (args := #[.pointer (some ⟨w.heap.size + 1, 0, none⟩)]) (by simp) (by simp [go_sem]) ?_
        refine (catch_idle _ _).mono ?_
        rintro e u' w'' ⟨rfl, rfl, rfl⟩
        simp [Leaves, settle, results, Try.results64, go_sem]
        have hz : (W3.setCell ⟨w.heap.size + 1, 0, none⟩ (.slice none 0 0)).cell? ⟨w.heap.size + 1, 0, none⟩ = some (.slice none 0 0) := HZ.out
        rw [hz]
        exact ⟨_, rfl, none, 0, 0, rfl, putNew65 (Fr.trans (Fr.of_below HB0.out) HF.out) (by omega) _ _, .inl ⟨rfl, rfl, rfl, HE.out.1, HInv2.out _ _ HE.out.2 (by have := HF.out.size; have := HS0.out; omega)⟩⟩
      · have HF := Lib.hid hf
        have HE := Lib.hid (And.intro hs (And.intro hd (And.intro hI2 (And.intro hc2 (And.intro hm2 hA2)))))
        clear hf hs hd hI2 hc2 hm2 hA2
        go_wp2_with fail
        obtain ⟨k1, z1⟩ := blk1 (Kl.out _ HF.out)
        refine leaves_cons (f := 91) (args := #[.pointer (some ⟨w.heap.size + 1, 0, none⟩)]) (by simp) (by simp [go_sem]) ?_
        refine (catch_enough (w.heap.size + 1) _ A2 s.length c2 [] _ k1 z1).mono ?_
        rintro e u' w'' ⟨rfl, rfl, rfl⟩
        have hz := (blk1 (((Kl.out _ HF.out).put 0 (.slice A2 s.length c2)).alloc (.cells #[.slice A2 s.length c2] 117))).1
        have hf4 : Fr (fun i => i = w.heap.size + 1) W3 ((W3.setCell ⟨w.heap.size + 1, 0, none⟩ (.slice A2 s.length c2)).alloc (.cells #[.slice A2 s.length c2] 117)) := (Fr.put (X := fun i => i = w.heap.size + 1) (Fr.refl _ W3) (g := w.heap.size + 1) (i := 0) rfl (.slice A2 s.length c2)).trans (Fr.of_below ((Below.refl _ _).alloc (Nat.le_refl _) _))
        have hI4 := hf4.ints (fun q hq e => by have := HE.out.2.2.2.2.2 q hq; omega) HE.out.2.2.1
        have hF4 := putNew65 (Fr.trans (Fr.of_below HB0.out) HF.out) (g := w.heap.size + 1) (by omega) 0 (.slice A2 s.length c2)
        have hF5 := hF4.trans (Fr.of_below ((Below.refl _ _).alloc (Nat.le_refl _) (.cells #[.slice A2 s.length c2] 117)))
        generalize (W3.setCell ⟨w.heap.size + 1, 0, none⟩ (.slice A2 s.length c2)).alloc (.cells #[.slice A2 s.length c2] 117) = W4 at hz hI4 hF5 ⊢
        have hz2 : W4.cell? ⟨w.heap.size + 1, 0, none⟩ = some (.slice A2 s.length c2) := hz
        simp [Leaves, settle, results, Try.results64, go_sem, hz2]
        exact ⟨_, _, _, ⟨rfl, rfl, rfl⟩, hF5, .inr ⟨s, HE.out.1, HE.out.2.1, rfl, hI4, HE.out.2.2.2.1, HE.out.2.2.2.2.1⟩⟩
end
end Go.Proofs.Ytmodbpglopfghaa
