/- The search's extend f92 with accept f75. Written by mkAz.py. -/
import Derived.Test.YtmodbpglopfghaaVanAy
import Derived.Test.YtmodbpglopfghaaSlices
import Derived.Test.YtmodbpglopfghaaVanH
import Derived.Test.YtmodbpglopfghaaOrd2
import Derived.Test.YtmodbpglopfghaaApp3
import Derived.WalkLawsBesides
import Derived.Test.YtmodbpglopfghaaVanU
set_option linter.unusedSimpArgs false
set_option linter.unusedVariables false
namespace Go.Proofs.Ytmodbpglopfghaa
open Go.RowKit

section
variable (qa qe N0 : Nat) (caps : Array Value) (X : Nat → Prop) (dec : List Nat → Bool) (Ok : List Nat → Prop) (Inv : List (List Nat) → World → Prop)
/-- What accept does. -/
def Acc75 : Prop := ∀ (t : List Nat) (A : Option Addr) (c : Nat) (W : World) (done : List (List Nat)), Ok t → Inv done W → N0 ≤ W.heap.size → IntsAt W.heap.size W A (intL t) → t.length ≤ c → c ≤ maxLen → (∀ q, A = some q → N0 ≤ q.block) →
  Calls Try.prog 75 (#[.slice A t.length c] ++ caps) W fun e W' => e = .returned (.bool (dec t)) ∧ (dec t = false → Inv (done ++ [t]) W') ∧ Fr X W W'
def Ext75 (k : Nat) : Prop := ∀ (t l : List Nat) (A A' : Option Addr) (c c' : Nat) (W : World) (done : List (List Nat)), l.length = k → (∀ s ∈ exts k t l, Ok s) → t.length + k ≤ 1000 → Inv done W →
  Blk W qa 29 #[.func (.func 75) #[] caps] → Blk W qe 119 #[.func (.func 92) #[] #[.pointer (some ⟨qa, 0, none⟩), .pointer (some ⟨qe, 0, none⟩)]] → N0 ≤ W.heap.size →
  IntsAt W.heap.size W A (intL t) → t.length ≤ c → c ≤ maxLen → (∀ q, A = some q → N0 ≤ q.block) → IntsAt W.heap.size W A' (intL l) → l.length ≤ c' → c' ≤ maxLen → (∀ q, A' = some q → N0 ≤ q.block) →
  Calls Try.prog 92 #[.slice A t.length c, .slice A' l.length c', .pointer (some ⟨qa, 0, none⟩), .pointer (some ⟨qe, 0, none⟩)] W fun e W' => Fr X W W' ∧
    ((e = .returned (.tuple #[]) ∧ (∀ s ∈ exts k t l, dec s = false) ∧ Inv (done ++ exts k t l) W') ∨
      ∃ s A2 c2, s ∈ exts k t l ∧ dec s = true ∧ e = .panicked [{ v := .iface 117 (.agg #[.slice A2 s.length c2]), recovered := false }] ∧ IntsAt W'.heap.size W' A2 (intL s) ∧ s.length ≤ c2 ∧ c2 ≤ maxLen ∧ ∀ q, A2 = some q → N0 ≤ q.block)

set_option maxRecDepth 100000 in
set_option maxHeartbeats 1000000 in
theorem ext75_zero (hX : ∀ i, X i → i < N0) (hacc : Acc75 N0 caps X dec Ok Inv) : Ext75 qa qe N0 caps X dec Ok Inv 0 := by
  intro t l A A' c c' w0 done hl hok htl hI ha he hN hA hc hcm hAb hA' hc' hcm' hAb'
  obtain rfl := List.eq_nil_of_length_eq_zero hl
  have cc := Lib.hid (hacc t A c w0 done (hok t (by simp [exts])) hI hN hA hc hcm hAb)
  obtain ⟨k0, z0⟩ := blk1 ha
  have HA := Lib.hid hA
  have HAb := Lib.hid hAb
  have Hx := Lib.hid (show exts 0 t [] = [t] from rfl)
  have htl2 : t.length ≤ 1000 := by omega
  have HX := Lib.hid hX
  clear hok hI ha he hA hAb hA' hAb' hl hacc htl hX
  cases hd : dec t with
  | false =>
    rw [hd] at cc
    have Hd := Lib.hid hd
    clear hd
    go_enter Try.func92, Try.ntmps92
    go_wp2_with (go_at_call 75; refine cc.out.mono ?_; rintro e w1 ⟨rfl, hi1, hf1⟩; have HI := Lib.hid (hi1 rfl); have HF := Lib.hid hf1; clear hi1 hf1)
    go_loop [21] (fun s => s = .int .i64 0) (fun _ => 0)
    case atStart => rfl
    case round =>
      obtain rfl := hrel
      go_wp2_with fail
      go_end0
      refine ⟨HF.out, .inl ⟨rfl, ?_, ?_⟩⟩
      · rw [Hx.out]; intro s hs; rw [List.mem_singleton] at hs; subst hs; exact Hd.out
      · rw [Hx.out]; exact HI.out
  | true =>
    rw [hd] at cc
    have Hd := Lib.hid hd
    clear hd
    have ccl := Lib.hid (fun W (hW : Fr X w0 W) => clone_any A c W.heap.size (intL t) W (by rw [intL_length]; omega) (hW.ints (fun q hq h => absurd (HX.out _ h) (by have := HAb.out q hq; omega)) HA.out))
    rw [intL_length] at ccl
    go_enter Try.func92, Try.ntmps92
    go_wp2_with (first | (go_at_call 75; refine cc.out.mono ?_; rintro e w1 ⟨rfl, hi1, hf1⟩; have HF := Lib.hid hf1; clear hi1 hf1) | (go_at_call 61; refine (ccl.out _ HF.out).mono ?_; rintro e w2 ⟨v, rfl, ho, hb2⟩; have HO := Lib.hid ho; have HB2 := Lib.hid hb2; obtain ⟨A2, c2, rfl⟩ := own_form ho; clear ho hb2))
    obtain ⟨q1, q2, q3⟩ := own_caps HO.out
    have hsz := HF.out.size
    refine ⟨rfl, HF.out.trans (Fr.of_below HB2.out), .inr ⟨t, A2, c2, by rw [Hx.out]; simp, Hd.out, rfl, IntsAt.of_own (zs := intL t) (by rw [intL_length]; exact HO.out), q1, q2, fun q hq => by have := (q3 q hq).1; omega⟩⟩

set_option maxRecDepth 100000 in
set_option maxHeartbeats 4000000 in
theorem ext75_succ (hX : ∀ i, X i → i < N0) (hqa : ¬ X qa) (hqe : ¬ X qe) (hInv : ∀ done W W', Inv done W → Below W.heap.size W W' → Inv done W') (k : Nat) (ih : Ext75 qa qe N0 caps X dec Ok Inv k) : Ext75 qa qe N0 caps X dec Ok Inv (k + 1) := by
  intro t l A A' c c' w0 done hl hok htl hI ha he hN hA hc hcm hAb hA' hc' hcm' hAb'
  obtain ⟨i0, hi0, hz0, hz1, hz2⟩ := info_parts info3
  have hXb : ∀ {A : Option Addr}, (∀ q, A = some q → N0 ≤ q.block) → ∀ q, A = some q → ¬ X q.block := fun h q hq hx => absurd (hX _ hx) (by have := h q hq; omega)
  have ht1000 : t.length ≤ 1000 := by omega
  have hl1000 : l.length ≤ 1000 := by omega
  have hl0 : 0 < l.length := by omega
  have ccl := Lib.hid (fun W (hW : Fr X w0 W) => clone_any A c W.heap.size (intL t) W (by rw [intL_length]; omega) (hW.ints (hXb hAb) hA))
  have ccr := Lib.hid (fun W (hW : Fr X w0 W) => clone_any A' c' W.heap.size (intL l) W (by rw [intL_length]; omega) (hW.ints (hXb hAb') hA'))
  rw [intL_length] at ccl ccr
  have Cel := Lib.hid (fun W (hW : Fr X w0 W) i (hi : i < l.length) => show ∃ b off, A' = some ⟨b, off, none⟩ ∧ W.cell? ⟨b, off + i, none⟩ = some (.int .i64 ((l[i] : Nat) : Int)) from by
    obtain ⟨b, off, e, _, hcell⟩ := (hW.ints (hXb hAb') hA').at (k := i) (by rw [intL_length]; exact hi)
    rw [intL_get hi] at hcell
    exact ⟨b, off, e, hcell⟩)
  have Cqe := Lib.hid (fun W (hW : Fr X w0 W) => (blk1 (hW.blk he hqe)).1)
  have CI := Lib.hid (fun (i : Nat) (hi : i < l.length) (A32 : Option Addr) (c32 g34 c34 : Nat) (W : World) (hW : Fr X w0 W) (hI2 : Inv (done ++ exP k t l i) W) (h32 : W.ownsRow w0.heap.size 3 1 (.slice A32 (t.length + 1) c32) (t.length + 1) ((intL (t ++ [l[i]])).map (Value.int .i64))) (h34 : IR g34 (intL (l.eraseIdx i)) W) (hg34 : N0 ≤ g34) (hc34 : l.length ≤ c34) (hm34 : c34 ≤ maxLen) =>
    show Calls Try.prog 92 #[.slice A32 (t.length + 1) c32, .slice (some ⟨g34, 0, none⟩) (l.length - 1) c34, .pointer (some ⟨qa, 0, none⟩), .pointer (some ⟨qe, 0, none⟩)] W fun e W' => Fr X W W' ∧
      ((e = .returned (.tuple #[]) ∧ (∀ s ∈ exts k (t ++ [l[i]]) (l.eraseIdx i), dec s = false) ∧ Inv (done ++ exP k t l i ++ exts k (t ++ [l[i]]) (l.eraseIdx i)) W') ∨
        ∃ s A2 c2, s ∈ exts k (t ++ [l[i]]) (l.eraseIdx i) ∧ dec s = true ∧ e = .panicked [{ v := .iface 117 (.agg #[.slice A2 s.length c2]), recovered := false }] ∧ IntsAt W'.heap.size W' A2 (intL s) ∧ s.length ≤ c2 ∧ c2 ≤ maxLen ∧ ∀ q, A2 = some q → N0 ≤ q.block) from by
    have hel : (l.eraseIdx i).length = l.length - 1 := List.length_eraseIdx_of_lt hi
    have htl2 : (t ++ [l[i]]).length = t.length + 1 := by simp
    obtain ⟨q1, q2, q3⟩ := own_caps h32
    have := ih (t ++ [l[i]]) (l.eraseIdx i) A32 (some ⟨g34, 0, none⟩) c32 c34 W (done ++ exP k t l i) (by omega) (fun s hs => hok s (exP_sub hi hs)) (by omega) hI2 (hW.blk ha hqa) (hW.blk he hqe) (Nat.le_trans hN hW.size)
      (IntsAt.of_own (zs := intL (t ++ [l[i]])) (by rw [intL_length, htl2]; exact h32)) (by omega) q2 (fun q hq => by have := (q3 q hq).1; omega) h34.get (by omega) hm34 (fun q hq => by injection hq with hq; subst hq; exact hg34)
    rw [hel, htl2] at this
    exact this)
  have HInv := Lib.hid hInv
  have Hs := Lib.hid (fun i (hi : i < l.length) => exP_succ k t l hi)
  have Hall := Lib.hid (exP_all k t l)
  have Hsub := Lib.hid (fun i (hi : i < l.length) s hs => exP_sub (k := k) (t := t) hi (s := s) hs)
  have Hsn := Lib.hid (fun (x : Nat) => intL_snoc t x)
  have Her := Lib.hid (fun i => intL_erase l i)
  have HN := Lib.hid hN
  have HI0 := Lib.hid hI
  have hzl : (((l.length : Nat) : Int) == 0) = false := by simp; exact fun e => by rw [e] at hl0; simp at hl0
  have Hl := Lib.hid hl
  clear hok hI ha he hA hAb hA' hAb' hl htl ih hXb hN hInv hX
  go_enter Try.func92, Try.ntmps92
  go_wp2_with fail
  go_loopw [21] (fun s wr => ∃ i : Nat, i ≤ l.length ∧ s = .int .i64 i ∧ Aside (∀ s ∈ exP k t l i, dec s = false) ∧ Inv (done ++ exP k t l i) wr ∧ Fr X w0 wr) (fun s _ => l.length - (intOf s).toNat)
  case atStart => exact ⟨0, Nat.zero_le _, rfl, (fun s hs => by rw [exP_zero] at hs; simp at hs), by rw [exP_zero, List.append_nil]; exact HI0.out, Fr.refl _ _⟩
  case round =>
    obtain ⟨i, hi, rfl, hrej, hinv, hfr⟩ := hrel
    have HR := Lib.hid hrej.out
    have HI := Lib.hid hinv
    have HF := Lib.hid hfr
    clear hrej hinv hfr
    by_cases hlt : i < l.length
    · obtain ⟨bl, ol, rfl, cel⟩ := Cel.out _ HF.out i hlt
      have cqe := Cqe.out _ HF.out
      have hiI : (i : Int) < (l.length : Int) := by omega
      have hi00 : (0 : Int) ≤ (i : Int) := by omega
      have hw : IntKind.i64.wrap ((i : Int) + 1) = (i : Int) + 1 := IntWalk.i64_in _ (by omega)
      have Keep := Lib.hid (show ∀ W, Fr X wr W → (W.cell? ⟨qe, 0, none⟩ = some (.func (.func 92) #[] #[.pointer (some ⟨qa, 0, none⟩), .pointer (some ⟨qe, 0, none⟩)]) ∧ W.cell? ⟨bl, ol + i, none⟩ = some (.int .i64 ((l[i] : Nat) : Int))) from fun W hW => by
        obtain ⟨b2, o2, e2, c2⟩ := Cel.out _ (HF.out.trans hW) i hlt
        injection e2 with e2
        injection e2 with e2 e3
        subst e2 e3
        exact ⟨Cqe.out _ (HF.out.trans hW), c2⟩)
      have CIi := Lib.hid (CI.out i hlt)
      have Hsi := Lib.hid (Hs.out i hlt)
      have Hsubi := Lib.hid (Hsub.out i hlt)
      have Hsni := Lib.hid (Hsn.out l[i])
      have CD := Lib.hid (fun g cap W hIR hcc hmm => Delete_in g cap i l W hIR hcc hmm hlt)
      have Hsz := Lib.hid (Nat.le_trans HN.out HF.out.size)
      generalize l[i] = x at cel Keep CIi Hsi Hsubi Hsni
      clear CI Hs Hsub Hsn Cel Cqe
      go_wp2_with fail
      have HBc := Lib.hid (Below.refl wr.heap.size wr).drew
      refine wp_region_E (S := fun W => W.cell? ⟨qe, 0, none⟩ = some (.func (.func 92) #[] #[.pointer (some ⟨qa, 0, none⟩), .pointer (some ⟨qe, 0, none⟩)]) ∧ W.cell? ⟨bl, ol + i, none⟩ = some (.int .i64 ((x : Nat) : Int))) (E := fun _ => false) (by kernel_rfl) ?_
      generalize wr.drew = W0 at HBc ⊢
      have hS := Keep.out _ (Fr.of_below HBc.out)
      refine anyE_tk 0 24 (oi := ?oi1) (v := ?v1) ?hi1 ?hd1 (by kernel_rfl) (by kernel_rfl) (by kernel_rfl) ?hQ1 ?hy1 hS ?rest1
      case hi1 => simp only [List.getElem?_toArray, List.getElem?_cons_zero, List.getElem?_cons_succ]; rfl
      case hd1 => rfl
      case hQ1 => exact fun _ _ _ h => h
      case hy1 => (refine Or.inl ⟨by rfl, ?_⟩; intro w hSw; (try dsimp only at hSw); go_simp; try with_reducible rfl)
      simp only [List.setIfInBounds_toArray, List.set_cons_zero, List.set_cons_succ]
      refine anyE_tk 1 25 (oi := ?oi2) (v := ?v2) ?hi2 ?hd2 (by kernel_rfl) (by kernel_rfl) (by kernel_rfl) ?hQ2 ?hy2 hS ?rest2
      case hi2 => simp only [List.getElem?_toArray, List.getElem?_cons_zero, List.getElem?_cons_succ]; rfl
      case hd2 => rfl
      case hQ2 => exact fun _ _ _ h => h
      case hy2 => (refine Or.inl ⟨by rfl, ?_⟩; intro w hSw; (try dsimp only at hSw); go_simp; try with_reducible rfl)
      simp only [List.setIfInBounds_toArray, List.set_cons_zero, List.set_cons_succ]
      refine anyE_tk 3 27 (oi := ?oi3) (v := ?v3) ?hi3 ?hd3 (by kernel_rfl) (by kernel_rfl) (by kernel_rfl) ?hQ3 ?hy3 hS ?rest3
      case hi3 => simp only [List.getElem?_toArray, List.getElem?_cons_zero, List.getElem?_cons_succ]; rfl
      case hd3 => rfl
      case hQ3 => exact fun _ _ _ h => h
      case hy3 => (refine Or.inl ⟨by rfl, ?_⟩; intro w hSw; (try dsimp only at hSw); go_simp; try with_reducible rfl)
      simp only [List.setIfInBounds_toArray, List.set_cons_zero, List.set_cons_succ]
      refine anyE_tk 4 28 (oi := ?oi4) (v := ?v4) ?hi4 ?hd4 (by kernel_rfl) (by kernel_rfl) (by kernel_rfl) ?hQ4 ?hy4 hS ?rest4
      case hi4 => simp only [List.getElem?_toArray, List.getElem?_cons_zero, List.getElem?_cons_succ]; rfl
      case hd4 => rfl
      case hQ4 => exact fun _ _ _ h => h
      case hy4 => (refine Or.inl ⟨by rfl, ?_⟩; intro w hSw; (try dsimp only at hSw); go_simp; try with_reducible rfl)
      simp only [List.setIfInBounds_toArray, List.set_cons_zero, List.set_cons_succ]
      refine anyE_tk 5 29 (oi := ?oi5) (v := ?v5) ?hi5 ?hd5 (by kernel_rfl) (by kernel_rfl) (by kernel_rfl) ?hQ5 ?hy5 hS ?rest5
      case hi5 => simp only [List.getElem?_toArray, List.getElem?_cons_zero, List.getElem?_cons_succ]; rfl
      case hd5 => rfl
      case hQ5 => exact fun _ _ _ h => h
      case hy5 => (refine Or.inl ⟨by rfl, ?_⟩; intro w hSw; (try dsimp only at hSw); go_simp; try with_reducible rfl)
      simp only [List.setIfInBounds_toArray, List.set_cons_zero, List.set_cons_succ]
      refine anyE_tk 6 30 (oi := ?oi6) (v := ?v6) ?hi6 ?hd6 (by kernel_rfl) (by kernel_rfl) (by kernel_rfl) ?hQ6 ?hy6 hS ?rest6
      case hi6 => simp only [List.getElem?_toArray, List.getElem?_cons_zero, List.getElem?_cons_succ]; rfl
      case hd6 => rfl
      case hQ6 => exact fun _ _ _ h => h
      case hy6 => (refine Or.inl ⟨by rfl, ?_⟩; intro w hSw; (try dsimp only at hSw); go_simp; try with_reducible rfl)
      simp only [List.setIfInBounds_toArray, List.set_cons_zero, List.set_cons_succ]
      refine anyE_tk 9 33 (oi := ?oi7) (v := ?v7) ?hi7 ?hd7 (by kernel_rfl) (by kernel_rfl) (by kernel_rfl) ?hQ7 ?hy7 hS ?rest7
      case hi7 => simp only [List.getElem?_toArray, List.getElem?_cons_zero, List.getElem?_cons_succ]; rfl
      case hd7 => rfl
      case hQ7 => exact fun _ _ _ h => h
      case hy7 => (refine Or.inl ⟨by rfl, ?_⟩; intro w hSw; (try dsimp only at hSw); go_simp; try with_reducible rfl)
      simp only [List.setIfInBounds_toArray, List.set_cons_zero, List.set_cons_succ]
      refine anyE_tk 11 35 (oi := ?oi8) (v := ?v8) ?hi8 ?hd8 (by kernel_rfl) (by kernel_rfl) (by kernel_rfl) ?hQ8 ?hy8 hS ?rest8
      case hi8 => simp only [List.getElem?_toArray, List.getElem?_cons_zero, List.getElem?_cons_succ]; rfl
      case hd8 => rfl
      case hQ8 => exact fun _ _ _ h => h
      case hy8 => (refine Or.inl ⟨by rfl, ?_⟩; intro w hSw; (try dsimp only at hSw); go_simp; try with_reducible rfl)
      simp only [List.setIfInBounds_toArray, List.set_cons_zero, List.set_cons_succ]
      refine anyE_tk 12 36 (oi := ?oi9) (v := ?v9) ?hi9 ?hd9 (by kernel_rfl) (by kernel_rfl) (by kernel_rfl) ?hQ9 ?hy9 hS ?rest9
      case hi9 => simp only [List.getElem?_toArray, List.getElem?_cons_zero, List.getElem?_cons_succ]; rfl
      case hd9 => rfl
      case hQ9 => exact fun _ _ _ h => h
      case hy9 => (refine Or.inl ⟨by rfl, ?_⟩; intro w hSw; (try dsimp only at hSw); go_simp; try with_reducible rfl)
      simp only [List.setIfInBounds_toArray, List.set_cons_zero, List.set_cons_succ]
      refine anyE_tk 13 37 (oi := ?oi10) (v := ?v10) ?hi10 ?hd10 (by kernel_rfl) (by kernel_rfl) (by kernel_rfl) ?hQ10 ?hy10 hS ?rest10
      case hi10 => simp only [List.getElem?_toArray, List.getElem?_cons_zero, List.getElem?_cons_succ]; rfl
      case hd10 => rfl
      case hQ10 => exact fun _ _ _ h => h
      case hy10 => (refine Or.inl ⟨by rfl, ?_⟩; intro w hSw; (try dsimp only at hSw); go_simp; try with_reducible rfl)
      simp only [List.setIfInBounds_toArray, List.set_cons_zero, List.set_cons_succ]
      clear hS
      refine anyE_two (i := 2) (j := 7) (oi := ?oi11) (oj := ?oj11) (by kernel_rfl) ?hi11 ?hj11 (fun K hK => ?step11) (fun K hK => ?step12)
      case hi11 => simp only [List.getElem?_toArray, List.getElem?_cons_zero, List.getElem?_cons_succ]; rfl
      case hj11 => simp only [List.getElem?_toArray, List.getElem?_cons_zero, List.getElem?_cons_succ]; rfl
      case step11 =>
        go_simp
        refine (ccl.out W0 (HF.out.trans (Fr.of_below HBc.out))).mono ?_
        rintro e W26 ⟨v26, rfl, ho, hd⟩
        obtain ⟨A26, c26, rfl⟩ := own_form ho
        have H26 := Lib.hid (own_base ho HBc.out.size)
        have HBc := Lib.hid (HBc.out.trans (hd.mono HBc.out.size))
        clear ho hd
        go_wp2_with fail
        refine hK.out _ _ (fun _ => Keep.out _ (Fr.of_below HBc.out)) ?_
        clear hK K
        try simp only [Act.put, List.setIfInBounds_toArray, List.set_cons_zero, List.set_cons_succ]
        refine anyE_one (i := 7) (o := ?oi13) (by kernel_rfl) ?hi13 (fun K hK => ?step13)
        case hi13 => simp only [List.getElem?_toArray, List.getElem?_cons_zero, List.getElem?_cons_succ]; rfl
        go_simp
        have H31 := Lib.hid (Blk.new W26 3 #[.int .i64 ((x : Nat) : Int)])
        have H26 := Lib.hid (H26.out.alloc (.cells #[.int .i64 ((x : Nat) : Int)] 3))
        have HBc := Lib.hid (HBc.out.alloc HBc.out.size (.cells #[.int .i64 ((x : Nat) : Int)] 3))
        generalize World.alloc W26 (.cells #[.int .i64 ((x : Nat) : Int)] 3) = W31 at H31 HBc H26 ⊢
        generalize (World.heap W26).size = x31 at H31 ⊢
        refine hK.out _ _ (fun _ => Keep.out _ (Fr.of_below HBc.out)) ?_
        clear hK K
        try simp only [Act.put, List.setIfInBounds_toArray, List.set_cons_zero, List.set_cons_succ]
        refine anyE_one (i := 8) (o := ?oi14) (by kernel_rfl) ?hi14 (fun K hK => ?step14)
        case hi14 => simp only [List.getElem?_toArray, List.getElem?_cons_zero, List.getElem?_cons_succ]; rfl
        refine step_app' _ (by rfl) (.tmp 26) (.tmp 31) 28 (by rfl) wr.heap.size 3 i0 _ 1 8 Try.underlying28 hi0 hz0 hz1 hz2 (by rfl) (by decide) (.slice A26 t.length c26) t.length ((intL t).map (Value.int .i64)) (by rfl) H26.out (some ⟨x31, 0, none⟩) 1 1 [.int .i64 ((x : Nat) : Int)] (by rfl) (by rfl) (by simp) (news_blk (t := 3) (cs := #[.int .i64 ((x : Nat) : Int)]) H31.out) (by simp [Value.oneCell']) (by omega) (by decide) HBc.out.size (t.length + 1) (by omega) ((intL (t ++ [x])).map (Value.int .i64)) Hsni.out ?_
        intro A32 c32 W32 hown4 hg4 hlow4
        have H32 := Lib.hid hown4
        have HBc := Lib.hid (HBc.out.grown hg4 HBc.out.size hlow4)
        clear hown4 hg4 hlow4 H26 H31
        refine hK.out _ _ (fun _ => Keep.out _ (Fr.of_below HBc.out)) ?_
        clear hK K
        try simp only [Act.put, List.setIfInBounds_toArray, List.set_cons_zero, List.set_cons_succ]
        refine anyE_one (i := 10) (o := ?oi15) (by kernel_rfl) ?hi15 (fun K hK => ?step15)
        case hi15 => simp only [List.getElem?_toArray, List.getElem?_cons_zero, List.getElem?_cons_succ]; rfl
        go_simp
        refine (ccr.out W32 (HF.out.trans (Fr.of_below HBc.out))).mono ?_
        rintro e W34 ⟨v34, rfl, ho, hd⟩
        obtain ⟨A34, c34, rfl⟩ := own_form ho
        obtain ⟨g34, rfl, hg34, hc34, hm34, hI34⟩ := IR.of_own (zs := intL l) ho (intL_length l) (fun e => by injection e with _ e; omega)
        have HI34 := Lib.hid hI34
        have Hne := Lib.hid (show some g34 ≠ (Value.slice A32 (t.length + 1) c32).ownBlock from fun e => by have := (H32.out.lt g34 e.symm).2; omega)
        have Hg34 := Lib.hid (show wr.heap.size ≤ g34 by have := HBc.out.size; omega)
        have H32 := Lib.hid (own_below H32.out hd)
        have HBc := Lib.hid (HBc.out.trans (hd.mono HBc.out.size))
        clear ho hd hI34 hg34
        go_wp2_with fail
        refine hK.out _ _ (fun _ => Keep.out _ (Fr.of_below HBc.out)) ?_
        clear hK K
        try simp only [Act.put, List.setIfInBounds_toArray, List.set_cons_zero, List.set_cons_succ]
        refine anyE_one (i := 14) (o := ?oi16) (by kernel_rfl) ?hi16 (fun K hK => ?step16)
        case hi16 => simp only [List.getElem?_toArray, List.getElem?_cons_zero, List.getElem?_cons_succ]; rfl
        go_simp
        refine (CD.out g34 c34 W34 HI34.out hc34 hm34).mono ?_
        rintro e W38 ⟨rfl, hI38, ho38⟩
        have HI38 := Lib.hid hI38
        have H32 := Lib.hid (ho38.own H32.out Hne.out)
        have HBc := Lib.hid (HBc.out.trans (ho38.below Hg34.out HBc.out.size))
        clear hI38 ho38 HI34
        go_wp2_with fail
        refine hK.out _ _ (fun _ => Keep.out _ (Fr.of_below HBc.out)) ?_
        clear hK K
        try simp only [Act.put, List.setIfInBounds_toArray, List.set_cons_zero, List.set_cons_succ]
        refine anyE_one (i := 15) (o := ?oi17) (by kernel_rfl) ?hi17 (fun K hK => ?step17)
        case hi17 => simp only [List.getElem?_toArray, List.getElem?_cons_zero, List.getElem?_cons_succ]; rfl
        go_simp
        refine (CIi.out A32 c32 g34 c34 W38 (HF.out.trans (Fr.of_below HBc.out)) (HInv.out _ _ _ HI.out HBc.out) (own_base H32.out HF.out.size) HI38.out (Nat.le_trans Hsz.out Hg34.out) hc34 hm34).mono ?_
        rintro e W39 ⟨hf, (⟨rfl, hrj, hiv⟩ | ⟨s, A2, c2, hs, hd, rfl, hI2, hc2, hm2, hA2⟩)⟩
        · have HF2 := Lib.hid (Fr.trans (Fr.of_below HBc.out) hf)
          have HRj := Lib.hid hrj
          have HIv := Lib.hid hiv
          clear hf hrj hiv
          go_wp2_with fail
          refine hK.out _ _ (fun _ => Keep.out _ HF2.out) ?_
          clear hK K
          try simp only [Act.put, List.setIfInBounds_toArray, List.set_cons_zero, List.set_cons_succ]
          refine anyE_done (by kernel_rfl) ?_ _
          go_wp2_with fail
          go_roundw
          case rel =>
            refine ⟨i + 1, by omega, by push_cast; rfl, fun s hs => ?_, by rw [Hsi.out, ← List.append_assoc]; exact HIv.out, HF.out.trans HF2.out⟩
            rw [Hsi.out] at hs
            rcases List.mem_append.1 hs with h | h
            · exact HR.out s h
            · exact HRj.out s h
          case measure => simp [intOf]; omega
        · have HF2 := Lib.hid (Fr.trans (Fr.of_below HBc.out) hf)
          have HE := Lib.hid (And.intro (Hsubi.out s hs) (And.intro hd (And.intro hI2 (And.intro hc2 (And.intro hm2 hA2)))))
          clear hf hs hd hI2 hc2 hm2 hA2
          go_wp2_with fail
          exact ⟨rfl, HF.out.trans HF2.out, .inr ⟨s, A2, c2, HE.out.1, HE.out.2.1, rfl, HE.out.2.2⟩⟩
      case step12 =>
        go_simp
        have H31 := Lib.hid (Blk.new W0 3 #[.int .i64 ((x : Nat) : Int)])
        have HBc := Lib.hid (HBc.out.alloc HBc.out.size (.cells #[.int .i64 ((x : Nat) : Int)] 3))
        generalize World.alloc W0 (.cells #[.int .i64 ((x : Nat) : Int)] 3) = W31 at H31 HBc ⊢
        generalize (World.heap W0).size = x31 at H31 ⊢
        refine hK.out _ _ (fun _ => Keep.out _ (Fr.of_below HBc.out)) ?_
        clear hK K
        try simp only [Act.put, List.setIfInBounds_toArray, List.set_cons_zero, List.set_cons_succ]
        refine anyE_one (i := 2) (o := ?oi18) (by kernel_rfl) ?hi18 (fun K hK => ?step18)
        case hi18 => simp only [List.getElem?_toArray, List.getElem?_cons_zero, List.getElem?_cons_succ]; rfl
        go_simp
        refine (ccl.out W31 (HF.out.trans (Fr.of_below HBc.out))).mono ?_
        rintro e W26 ⟨v26, rfl, ho, hd⟩
        obtain ⟨A26, c26, rfl⟩ := own_form ho
        have H26 := Lib.hid (own_base ho HBc.out.size)
        have H31 := Lib.hid (H31.out.below hd H31.out.lt)
        have HBc := Lib.hid (HBc.out.trans (hd.mono HBc.out.size))
        clear ho hd
        go_wp2_with fail
        refine hK.out _ _ (fun _ => Keep.out _ (Fr.of_below HBc.out)) ?_
        clear hK K
        try simp only [Act.put, List.setIfInBounds_toArray, List.set_cons_zero, List.set_cons_succ]
        refine anyE_one (i := 8) (o := ?oi19) (by kernel_rfl) ?hi19 (fun K hK => ?step19)
        case hi19 => simp only [List.getElem?_toArray, List.getElem?_cons_zero, List.getElem?_cons_succ]; rfl
        refine step_app' _ (by rfl) (.tmp 26) (.tmp 31) 28 (by rfl) wr.heap.size 3 i0 _ 1 8 Try.underlying28 hi0 hz0 hz1 hz2 (by rfl) (by decide) (.slice A26 t.length c26) t.length ((intL t).map (Value.int .i64)) (by rfl) H26.out (some ⟨x31, 0, none⟩) 1 1 [.int .i64 ((x : Nat) : Int)] (by rfl) (by rfl) (by simp) (news_blk (t := 3) (cs := #[.int .i64 ((x : Nat) : Int)]) H31.out) (by simp [Value.oneCell']) (by omega) (by decide) HBc.out.size (t.length + 1) (by omega) ((intL (t ++ [x])).map (Value.int .i64)) Hsni.out ?_
        intro A32 c32 W32 hown4 hg4 hlow4
        have H32 := Lib.hid hown4
        have HBc := Lib.hid (HBc.out.grown hg4 HBc.out.size hlow4)
        clear hown4 hg4 hlow4 H26 H31
        refine hK.out _ _ (fun _ => Keep.out _ (Fr.of_below HBc.out)) ?_
        clear hK K
        try simp only [Act.put, List.setIfInBounds_toArray, List.set_cons_zero, List.set_cons_succ]
        refine anyE_one (i := 10) (o := ?oi20) (by kernel_rfl) ?hi20 (fun K hK => ?step20)
        case hi20 => simp only [List.getElem?_toArray, List.getElem?_cons_zero, List.getElem?_cons_succ]; rfl
        go_simp
        refine (ccr.out W32 (HF.out.trans (Fr.of_below HBc.out))).mono ?_
        rintro e W34 ⟨v34, rfl, ho, hd⟩
        obtain ⟨A34, c34, rfl⟩ := own_form ho
        obtain ⟨g34, rfl, hg34, hc34, hm34, hI34⟩ := IR.of_own (zs := intL l) ho (intL_length l) (fun e => by injection e with _ e; omega)
        have HI34 := Lib.hid hI34
        have Hne := Lib.hid (show some g34 ≠ (Value.slice A32 (t.length + 1) c32).ownBlock from fun e => by have := (H32.out.lt g34 e.symm).2; omega)
        have Hg34 := Lib.hid (show wr.heap.size ≤ g34 by have := HBc.out.size; omega)
        have H32 := Lib.hid (own_below H32.out hd)
        have HBc := Lib.hid (HBc.out.trans (hd.mono HBc.out.size))
        clear ho hd hI34 hg34
        go_wp2_with fail
        refine hK.out _ _ (fun _ => Keep.out _ (Fr.of_below HBc.out)) ?_
        clear hK K
        try simp only [Act.put, List.setIfInBounds_toArray, List.set_cons_zero, List.set_cons_succ]
        refine anyE_one (i := 14) (o := ?oi21) (by kernel_rfl) ?hi21 (fun K hK => ?step21)
        case hi21 => simp only [List.getElem?_toArray, List.getElem?_cons_zero, List.getElem?_cons_succ]; rfl
        go_simp
        refine (CD.out g34 c34 W34 HI34.out hc34 hm34).mono ?_
        rintro e W38 ⟨rfl, hI38, ho38⟩
        have HI38 := Lib.hid hI38
        have H32 := Lib.hid (ho38.own H32.out Hne.out)
        have HBc := Lib.hid (HBc.out.trans (ho38.below Hg34.out HBc.out.size))
        clear hI38 ho38 HI34
        go_wp2_with fail
        refine hK.out _ _ (fun _ => Keep.out _ (Fr.of_below HBc.out)) ?_
        clear hK K
        try simp only [Act.put, List.setIfInBounds_toArray, List.set_cons_zero, List.set_cons_succ]
        refine anyE_one (i := 15) (o := ?oi22) (by kernel_rfl) ?hi22 (fun K hK => ?step22)
        case hi22 => simp only [List.getElem?_toArray, List.getElem?_cons_zero, List.getElem?_cons_succ]; rfl
        go_simp
        refine (CIi.out A32 c32 g34 c34 W38 (HF.out.trans (Fr.of_below HBc.out)) (HInv.out _ _ _ HI.out HBc.out) (own_base H32.out HF.out.size) HI38.out (Nat.le_trans Hsz.out Hg34.out) hc34 hm34).mono ?_
        rintro e W39 ⟨hf, (⟨rfl, hrj, hiv⟩ | ⟨s, A2, c2, hs, hd, rfl, hI2, hc2, hm2, hA2⟩)⟩
        · have HF2 := Lib.hid (Fr.trans (Fr.of_below HBc.out) hf)
          have HRj := Lib.hid hrj
          have HIv := Lib.hid hiv
          clear hf hrj hiv
          go_wp2_with fail
          refine hK.out _ _ (fun _ => Keep.out _ HF2.out) ?_
          clear hK K
          try simp only [Act.put, List.setIfInBounds_toArray, List.set_cons_zero, List.set_cons_succ]
          refine anyE_done (by kernel_rfl) ?_ _
          go_wp2_with fail
          go_roundw
          case rel =>
            refine ⟨i + 1, by omega, by push_cast; rfl, fun s hs => ?_, by rw [Hsi.out, ← List.append_assoc]; exact HIv.out, HF.out.trans HF2.out⟩
            rw [Hsi.out] at hs
            rcases List.mem_append.1 hs with h | h
            · exact HR.out s h
            · exact HRj.out s h
          case measure => simp [intOf]; omega
        · have HF2 := Lib.hid (Fr.trans (Fr.of_below HBc.out) hf)
          have HE := Lib.hid (And.intro (Hsubi.out s hs) (And.intro hd (And.intro hI2 (And.intro hc2 (And.intro hm2 hA2)))))
          clear hf hs hd hI2 hc2 hm2 hA2
          go_wp2_with fail
          exact ⟨rfl, HF.out.trans HF2.out, .inr ⟨s, A2, c2, HE.out.1, HE.out.2.1, rfl, HE.out.2.2⟩⟩
    · obtain rfl : i = l.length := by omega
      go_wp2_with fail
      go_end0
      refine ⟨HF.out, .inl ⟨rfl, ?_, ?_⟩⟩
      · intro s hs; rw [← Hall.out] at hs; exact HR.out s hs
      · rw [← Hall.out]; exact HI.out
theorem ext75_any (hX : ∀ i, X i → i < N0) (hqa : ¬ X qa) (hqe : ¬ X qe) (hInv : ∀ done W W', Inv done W → Below W.heap.size W W' → Inv done W') (hacc : Acc75 N0 caps X dec Ok Inv) : ∀ k, Ext75 qa qe N0 caps X dec Ok Inv k
  | 0 => ext75_zero qa qe N0 caps X dec Ok Inv hX hacc
  | k + 1 => ext75_succ qa qe N0 caps X dec Ok Inv hX hqa hqe hInv k (ext75_any hX hqa hqe hInv hacc k)
end
end Go.Proofs.Ytmodbpglopfghaa
