/- The program's smallest tree: the walk. -/
import Derived.Test.YtmodbpglopfghaaVanG
import Derived.Test.YtmodbpglopfghaaMore
set_option linter.unusedSimpArgs false
namespace Go.Proofs.Ytmodbpglopfghaa
open Go.RowKit

set_option linter.unusedVariables false
theorem InS.drew {base g : Nat} {w : World} {v : Value} {I : List Nat} (h : InS base g w v I) : InS base g w.drew v I := h
theorem InS.alloc {base g : Nat} {w : World} {v : Value} {I : List Nat} (h : InS base g w v I) (o : Obj) : InS base g (w.alloc o) v I := by
  refine h.only ?_
  exact Only.of_below ((Below.refl _ _).alloc (Nat.le_refl _) o) g
theorem IR.alloc {g : Nat} {zs : List Int} {w : World} (h : IR g zs w) (o : Obj) : IR g zs (w.alloc o) := by
  refine h.kept (row := none) ⟨rfl, rfl, rfl, by simp, fun k hk _ => ?_⟩ (by simp)
  exact Below.heap_alloc w o k hk
theorem beqf {a b : Int} (h : a ≠ b) : (a == b) = false := by simpa using h
theorem grown_below {B : Nat} {w w' : World} {row : Option Nat} (hg : w.grownBy w' row) (hr : ∀ k, row = some k → B ≤ k) (hB : B ≤ w.heap.size) : Below B w w' :=
  ⟨hg.os, hg.tape, hg.output, hg.size, fun k hk => hg.block k (by omega) (fun e => by have := hr k e.symm; omega)⟩

theorem intL_erase (O : List Nat) (q : Nat) : intL (O.eraseIdx q) = (intL O).eraseIdx q := by
  rw [List.eraseIdx_eq_take_drop_succ, List.eraseIdx_eq_take_drop_succ]
  simp [intL]
theorem Delete_in (g cap q : Nat) (O : List Nat) (w : World) (h : IR g (intL O) w) (hc : O.length ≤ cap) (hm : cap ≤ maxLen) (hq : q < O.length) :
    Calls Try.prog 85 #[.slice (some ⟨g, 0, none⟩) O.length cap, .int .i64 (q : Int), .int .i64 ((q : Int) + 1)] w fun e w' => e = .returned (.slice (some ⟨g, 0, none⟩) (O.length - 1) cap) ∧ IR g (intL (O.eraseIdx q)) w' ∧ Only g w w' := by
  have := Delete_any g cap q (intL O) w h (by rw [intL_length]; exact hc) hm (by rw [intL_length]; exact hq)
  rw [intL_length] at this
  rw [intL_erase]
  exact this
def lenV : Value → Nat
  | .slice _ n _ => n
  | _ => 0
/-- The places that are out. -/
def OutS (base g : Nat) (w : World) (v : Value) (O : List Nat) : Prop := ∃ A c, v = .slice A O.length c ∧ (O ≠ [] → A = some ⟨g, 0, none⟩ ∧ base ≤ g ∧ O.length ≤ c ∧ c ≤ maxLen ∧ IR g (intL O) w)
theorem Grw.start (f : Nat → Nat → Int) {P : List Nat} (lo hi : Int) (h0 : 0 < P.length) : Grw f P lo hi P[0] [P[0]] (P.drop 1) 0 :=
  ⟨Gw.start _ _ _, by
    have e : [P[0]] ++ P.drop 1 = P := by
      cases P with
      | nil => simp at h0
      | cons x r => rfl
    rw [e], by simp⟩
theorem Grw.tree {f : Nat → Nat → Int} {P I : List Nat} {lo hi : Int} {r : Nat} {S : Int} (h : Grw f P lo hi r I [] S) (hr : r ∈ P) : IsTree f (fun x => x ∈ P) P.length S := by
  have hp := h.perm
  rw [List.append_nil] at hp
  rw [← hp.length_eq]
  exact h.gw.done hr fun x hx => hp.symm.subset hx
theorem mul_bd {lo hi S : Int} {m : Nat} (hlo : -3000 ≤ lo) (hlo0 : lo ≤ 0) (hhi : hi ≤ 3000) (hhi0 : 0 ≤ hi) (hm : 1 ≤ m) (hm7 : m ≤ 7) (h1 : lo * ((m : Int) - 1) ≤ S) (h2 : S ≤ hi * ((m : Int) - 1)) : -18000 ≤ S ∧ S ≤ 18000 := by
  rcases (show m = 1 ∨ m = 2 ∨ m = 3 ∨ m = 4 ∨ m = 5 ∨ m = 6 ∨ m = 7 by omega) with rfl | rfl | rfl | rfl | rfl | rfl | rfl <;> omega
theorem Grw.lens {f : Nat → Nat → Int} {P I O : List Nat} {lo hi : Int} {r : Nat} {S : Int} (h : Grw f P lo hi r I O S) : I.length + O.length = P.length := by rw [← h.perm.length_eq, List.length_append]
theorem Grw.mem {f : Nat → Nat → Int} {P I O : List Nat} {lo hi : Int} {r : Nat} {S : Int} (h : Grw f P lo hi r I O S) : (∀ x ∈ I, x ∈ P) ∧ ∀ x ∈ O, x ∈ P :=
  ⟨fun x hx => h.perm.subset (List.mem_append.2 (.inl hx)), fun x hx => h.perm.subset (List.mem_append.2 (.inr hx))⟩
theorem InS.ne {base g : Nat} {w : World} {v : Value} {I : List Nat} (h : InS base g w v I) : 0 < I.length := by
  rcases h with ⟨b, off, x, _, rfl, _⟩ | ⟨_, _, h3⟩
  · simp
  · exact List.length_pos_iff.2 h3

set_option maxRecDepth 100000 in
set_option maxHeartbeats 1000000 in
theorem tree_any (b off n c cp B : Nat) (f : Nat → Nat → Int) (A : Option Addr) (P : List Nat) (w : World) (lo hi : Int) (hlo : -3000 ≤ lo) (hlo0 : lo ≤ 0) (hhi : hi ≤ 3000) (hhi0 : 0 ≤ hi) (hB : B ≤ w.heap.size) (h : WaAt B w b off n f) (hn7 : n ≤ 7)
    (hI : IntsAt B w A (intL P)) (hP : P.Nodup) (hPn : ∀ x ∈ P, x < n) (hcp : P.length ≤ cp) (hcm : cp ≤ maxLen) (h0 : 0 < P.length)
    (hb : ∀ i k, i ∈ P → k ∈ P → lo ≤ f i k ∧ f i k ≤ hi) :
    Calls Try.prog 54 #[.slice (some ⟨b, off, none⟩) n c, .slice A P.length cp] w fun e w' => ∃ z, e = .returned (.int .i64 z) ∧ IsTree f (fun x => x ∈ P) P.length z ∧ -18000 ≤ z ∧ z ≤ 18000 ∧ Below w.heap.size w w' := by
  have hlen : P.length ≤ 7 := Nat.le_trans (nodup_len n P hP hPn) hn7
  obtain ⟨b1, o1, rfl, hb1, cell0⟩ := hI.at (k := 0) (by rw [intL_length]; exact h0)
  have e0 := hI.cells (k := 0) (by rw [intL_length]; exact h0)
  rw [intL_get h0] at cell0
  have hd := hI.dropD (c := cp) (a := 1) (by rw [intL_length]; exact hcp)
  have hd2 : (intL P).drop 1 = intL (P.drop 1) := by simp [intL]
  rw [hd2] at hd
  have hl1 : (intL (P.drop 1)).length = P.length - 1 := by simp [intL]
  have hd' : IntsAt B w (if cp = 1 then some ⟨b1, o1, none⟩ else some ⟨b1, o1 + 1, none⟩) (intL (P.drop 1)) := by simpa [Addr.add_lit] using hd
  have hcc : ∀ W (hW : Below w.heap.size w W), Calls Try.prog 61 #[.slice (if cp = 1 then (some ⟨b1, o1, none⟩ : Option Addr) else some ⟨b1, o1 + 1, none⟩) (P.length - 1) (cp - 1)] W fun e w' => ∃ v, e = .returned v ∧ w'.ownsRow w.heap.size 3 1 v (P.length - 1) ((intL (P.drop 1)).map (Value.int .i64)) ∧ Below w.heap.size w w' := fun W hW => by
    have := clone_any (if cp = 1 then (some ⟨b1, o1, none⟩ : Option Addr) else some ⟨b1, o1 + 1, none⟩) (cp - 1) w.heap.size (intL (P.drop 1)) W (by rw [hl1]; omega) (hd'.below (hW.mono hB) hB)
    rw [hl1] at this
    exact this.mono fun e w' ⟨v, e1, e2, e3⟩ => ⟨v, e1, own_base e2 hW.size, hW.trans (e3.mono hW.size)⟩
  generalize hA2 : (if cp = 1 then (some ⟨b1, o1, none⟩ : Option Addr) else some ⟨b1, o1 + 1, none⟩) = A2 at hcc
  have cc := Lib.hid hcc
  clear hcc
  have H := Lib.hid (h.below (Below.refl _ _) hB)
  have HC := Lib.hid (And.intro (show b1 < w.heap.size by omega) cell0)
  have Hb := Lib.hid hb
  have HP := Lib.hid hP
  have hne : ((P.length : Int) == 0) = false := beqf (by omega)
  have hc1 : (1 : Int) ≤ (cp : Int) := by omega
  have hl2 : (1 : Int) ≤ (P.length : Int) := by omega
  have hl3 : (P.length : Int) ≤ (cp : Int) := by omega
  have Hcm := Lib.hid hcm
  clear h hd hd' hd2 hI hb hP e0 cell0 hB hb1 hcm
  go_enter Try.func54, Try.ntmps54
  go_wp2_with fail
  go_region_held3 (fun W => Below w.heap.size w W)
    ((repeat (first | exact Below.refl _ _ | assumption | refine Below.drew ?_ | refine balloc ?_ _)))
    (first | (go_at_call 61; refine (cc.out _ (by repeat (first | exact Below.refl _ _ | assumption | refine Below.drew ?_ | refine balloc ?_ _))).mono ?_; rintro e w1 ⟨v1, rfl, hown1, hd1⟩))
  all_goals
    obtain ⟨A3, c3, rfl⟩ := own_form hown1
    obtain ⟨g, hg⟩ : ∃ g, b1 ≠ g ∧ OutS w.heap.size g w1 (.slice A3 (P.length - 1) c3) (P.drop 1) := by
      have hl : (P.drop 1).length = P.length - 1 := by simp
      by_cases h1 : P.length = 1
      · refine ⟨b1 + 1, by omega, A3, c3, by rw [hl], fun hne => absurd (List.eq_nil_of_length_eq_zero (by omega)) hne⟩
      · obtain ⟨g, e1, e2, e3, e4, e5⟩ := IR.of_own (zs := intL (P.drop 1)) hown1 (by rw [intL_length, hl]) (fun e => by injection e with _ e; omega)
        have := HC.out.1
        exact ⟨g, by omega, A3, c3, by rw [hl], fun _ => ⟨e1, e2, by omega, e4, e5⟩⟩
    obtain ⟨hbg, hout⟩ := hg
    have HG := Lib.hid (Grw.start f (P := P) lo hi h0)
    have Hr := Lib.hid (show P[0] ∈ P from List.getElem_mem h0)
    have HIn := Lib.hid (show InS w.heap.size g w1 (.slice (some ⟨b1, o1, none⟩) 1 1) [P[0]] from .inl ⟨b1, o1, P[0], rfl, rfl, Nat.lt_of_lt_of_le HC.out.1 hd1.size, hbg, by
      have := (hd1.cell (p := ⟨b1, o1 + 0, none⟩) HC.out.1).trans HC.out.2
      simpa using this⟩)
    have HO := Lib.hid hout
    have HD := Lib.hid hd1
    generalize P[0] = r at HG Hr HIn
    clear hout hown1 hd1 hA2
    go_wp2_with fail
    go_loopw [5, 6, 7] (fun vi vo vs wr => ∃ (I O : List Nat) (S : Int), vs = .int .i64 S ∧ InS w.heap.size g wr vi I ∧ OutS w.heap.size g wr vo O ∧ Aside (Grw f P lo hi r I O S) ∧ Below w.heap.size w wr) (fun _ vo _ _ => lenV vo)
    case atStart => exact ⟨_, _, _, rfl, HIn.out, HO.out, HG.out, HD.out⟩
    case round =>
      obtain ⟨I, O, S, rfl, hIn, hOut, hGr, hbr⟩ := hrel
      have HGr := Lib.hid hGr.out
      have HIn := Lib.hid hIn
      have HBr := Lib.hid hbr
      clear HG HO HD hGr hbr
      obtain ⟨A4, c4, rfl, hO⟩ := hOut
      have hlens := HGr.out.lens
      have hI0 := hIn.ne
      have hSb := mul_bd hlo hlo0 hhi hhi0 hI0 (by omega) HGr.out.bd.1 HGr.out.bd.2
      by_cases hlt : 0 < O.length
      · obtain ⟨rfl, hgB, hOc, hcm, hIR⟩ := hO (List.length_pos_iff.1 hlt)
        have HIR := Lib.hid hIR
        obtain ⟨bI, oI, cI, rfl, hbI, hbIg, hIc⟩ := hIn.at
        have HIc := Lib.hid hIc
        have HWr := Lib.hid (H.out.below HBr.out (Nat.le_refl _))
        have hltI : (0 : Int) < (O.length : Int) := by omega
        have hp := HGr.out.mem
        have HmI := Lib.hid (fun x (hx : x ∈ I) => hPn x (hp.1 x hx))
        have HmO := Lib.hid (fun x (hx : x ∈ O) => hPn x (hp.2 x hx))
        have Hcm := Lib.hid (And.intro hOc hcm)
        clear hO hIn hIR hIc hp hOc hcm hbI
        go_wp2_with fail
        go_loop [8, 9, 27] (fun vb va vk => ∃ (k : Nat) (best at_ : Int), k ≤ O.length ∧ vk = .int .i64 k ∧ vb = .int .i64 best ∧ va = .int .i64 at_ ∧ Aside (LeastTo f I O k 0 best at_)) (fun _ _ vk => O.length - (intOf vk).toNat)
        case atStart => exact ⟨0, 0, -1, Nat.zero_le _, rfl, rfl, rfl, .inl ⟨rfl, rfl, rfl, rfl⟩⟩
        case round =>
          obtain ⟨k, best, at_, hk, rfl, rfl, rfl, hL⟩ := hrel
          have HL := Lib.hid hL.out
          clear hL
          by_cases hklt : k < O.length
          · have y0 := (HIR.out.2 k (by rw [intL_length]; exact hklt)).1
            rw [intL_get hklt] at y0
            have hkI : (k : Int) < (O.length : Int) := by omega
            go_wp2_with fail
            go_loop [8, 9, 34] (fun vb va vj => ∃ (j : Nat) (best at_ : Int), j ≤ I.length ∧ vj = .int .i64 j ∧ vb = .int .i64 best ∧ va = .int .i64 at_ ∧ Aside (LeastTo f I O k j best at_)) (fun _ _ vj => I.length - (intOf vj).toNat)
            case atStart => exact ⟨0, best, at_, Nat.zero_le _, rfl, rfl, rfl, HL.out⟩
            case round =>
              clear HL
              obtain ⟨j, best, at_, hj, rfl, rfl, rfl, hL⟩ := hrel
              have HL := Lib.hid hL.out
              clear hL
              by_cases hjlt : j < I.length
              · have x0 := HIc.out j hjlt
                have hsn := HmI.out _ (List.getElem_mem hjlt)
                have htn := HmO.out _ (List.getElem_mem hklt)
                have Htake := Lib.hid (fun hc => HL.out.take hklt hjlt hc)
                have Hleave := Lib.hid (fun h1 h2 => HL.out.leave hklt hjlt h1 h2)
                obtain ⟨b2, o2, c2, hb2, e1, f1⟩ := HWr.out.2 _ hsn
                have e2 := f1 _ htn
                generalize f I[j] O[k] = d at e2 Htake Hleave
                generalize I[j] = s at x0 hsn e1
                generalize O[k] = t at y0 htn e2
                have hjI : (j : Int) < (I.length : Int) := by omega
                have i0 : (0 : Int) ≤ (s : Int) := by omega
                have i1 : (s : Int) < (n : Int) := by omega
                have i2 : (0 : Int) ≤ (t : Int) := by omega
                have i3 : (t : Int) < (n : Int) := by omega
                clear f1
                by_cases ha : at_ < 0
                · have hd1 : decide (at_ < 0) = true := by simpa using ha
                  have HL2 := Lib.hid (Htake.out (.inl ha))
                  clear ha
                  go_wp2_with fail
                  go_round
                  case rel => exact ⟨j + 1, d, k, by omega, by go_num, rfl, rfl, HL2.out⟩
                  case measure => simp [intOf]; omega
                · have hd1 : decide (at_ < 0) = false := by simpa using ha
                  by_cases hlt2 : d < best
                  · have hd2 : decide (d < best) = true := by simpa using hlt2
                    have HL2 := Lib.hid (Htake.out (.inr hlt2))
                    clear ha
                    go_wp2_with fail
                    go_round
                    case rel => exact ⟨j + 1, d, k, by omega, by go_num, rfl, rfl, HL2.out⟩
                    case measure => simp [intOf]; omega
                  · have hd2 : decide (d < best) = false := by simpa using hlt2
                    have HL2 := Lib.hid (Hleave.out (by omega) (by omega))
                    clear ha hlt2
                    go_wp2_with fail
                    go_round
                    case rel => exact ⟨j + 1, best, at_, by omega, by go_num, rfl, rfl, HL2.out⟩
                    case measure => simp [intOf]; omega
              · obtain rfl : j = I.length := by omega
                have HL2 := Lib.hid (HL.out.next hI0)
                go_wp2_with fail
                go_round
                case rel => exact ⟨k + 1, best, at_, by omega, by go_num, rfl, rfl, HL2.out⟩
                case measure => simp [intOf]; omega
          · obtain rfl : k = O.length := by omega
            obtain ⟨q, hq, rfl, hG2⟩ := HGr.out.step HP.out Hb.out hlt HL.out
            have HG2 := Lib.hid hG2
            clear hG2 HL
            have z0 := (HIR.out.2 q (by rw [intL_length]; exact hq)).1
            rw [intL_get hq] at z0
            have hb2 := HG2.out.bd
            have hl2 := HG2.out.lens
            have hSb2 := mul_bd hlo hlo0 hhi hhi0 (m := (I ++ [O[q]]).length) (by simp) (by simp at hl2 ⊢; omega) hb2.1 hb2.2
            have hwr : IntKind.i64.wrap (S + best) = S + best := IntWalk.i64_in _ (by omega)
            have cd := Lib.hid (fun W (hW : IR g (intL O) W) => Delete_in g c4 q O W hW Hcm.out.1 Hcm.out.2 hq)
            have hqI : (q : Int) < (O.length : Int) := by omega
            have hqW : IntKind.i64.wrap ((q : Int) + 1) = (q : Int) + 1 := IntWalk.i64_in _ (by omega)
            have Hsz := Lib.hid HBr.out.size
            generalize hT : O[q] = t at z0 HG2
            clear hb2 hl2
            go_wp2_with (first
              | (at_builtin; refine wpList_in rfl _ _ rfl w.heap.size g _ I rfl (HIn.out.alloc _) (by have := HIR.out.1; simp; omega) (by have := Hsz.out; simp; omega) (by omega) t wr.heap.size rfl (by exact cell_one_new _ _ _ 0 _ rfl) ?_; intro v' w7 row hin7 hg7 hr7; have hIR7 := Lib.hid ((HIR.out.alloc _).kept hg7 (fun e => (hr7 g e.symm).2 rfl)); have hB7 := Lib.hid ((HBr.out.alloc HBr.out.size _).trans (grown_below (B := w.heap.size) hg7 (fun k hk => (hr7 k hk).1) (by have := Hsz.out; simp; omega))))
              | (go_at_call 85; refine (cd.out _ hIR7.out).mono ?_; rintro e w8 ⟨rfl, hIR8, hO8⟩))
            have hin8 := hin7.only hO8
            have hB8 := hB7.out.trans (hO8.below hgB hB7.out.size)
            have hlE : (O.eraseIdx q).length = O.length - 1 := List.length_eraseIdx_of_lt hq
            have hOut8 : OutS w.heap.size g w8 (.slice (some ⟨g, 0, none⟩) (O.length - 1) c4) (O.eraseIdx q) :=
              ⟨some ⟨g, 0, none⟩, c4, by rw [hlE], fun _ => ⟨rfl, hgB, by rw [hlE]; have := Hcm.out.1; omega, Hcm.out.2, hIR8⟩⟩
            go_roundw
            case rel => exact ⟨I ++ [t], O.eraseIdx q, S + best, rfl, hin8, hOut8, HG2.out, hB8⟩
            case measure => simp [lenV]; omega
      · have hz : O.length = 0 := by omega
        obtain rfl := List.eq_nil_of_length_eq_zero hz
        have HT := Lib.hid (HGr.out.tree Hr.out)
        go_wp2_with fail
        go_ret
        exact ⟨S, rfl, HT.out, hSb.1, hSb.2, HBr.out⟩
end Go.Proofs.Ytmodbpglopfghaa
