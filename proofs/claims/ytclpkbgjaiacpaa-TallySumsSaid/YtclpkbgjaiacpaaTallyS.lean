/- What is proved: the law TallySums, walked. Conditions: those that each theorem states. -/
import Derived.Test.YtclpkbgjaiacpaaTallyR
import Derived.Test.YtclpkbgjaiacpaaRangeR
import Derived.Test.YtclpkbgjaiacpaaPRfx2
import Derived.WalkSpells
import Derived.RegionCalls
import Derived.Deep.DeepMust
import Derived.Deep.RegionHeld3
import Derived.StillTactics
import Derived.RangeFuncBox
import Derived.RangeFuncLeaves
import Derived.RangeFuncNested
import Derived.RangeFuncCalls
import Derived.Shelf.Abstract
import Derived.OwnWalkIn
import Derived.TacticsInMore
import Derived.LoopNIn
import Derived.LoopIn
import Derived.Maps.AppendAt
namespace Go.Proofs.Ytclpkbgjaiacpaa
open Go.RowKit Go.Proofs.YtclpkbgjaiacpaaW.PrintWords Go.Proofs.YtclpkbgjaiacpaaW.PrintLast Go.Proofs.YtclpkbgjaiacpaaW.PrintMore
open Go.Proofs.Ytclpkbgjaiacpaa.PRf
set_option linter.unusedVariables false
set_option linter.unusedSimpArgs false
/-! ### the law: TallySums -/
theorem findN_lt {ns : List ByteArray} {s : ByteArray} {i : Nat} (h : findN ns s = some i) : i < ns.length := (List.findIdx?_eq_some_iff_getElem.1 h).1
theorem fpos_some {ns : List ByteArray} {s : ByteArray} {i : Nat} (h : findN ns s = some i) : fpos ns s = (i : Int) := by unfold fpos; rw [h]
theorem fpos_none {ns : List ByteArray} {s : ByteArray} (h : findN ns s = none) : fpos ns s = (-1 : Int) := by unfold fpos; rw [h]
theorem Sum2.lenA {w0 w : World} {a b : TD} {xa ya xb yb : List Int} (h : Sum2 w0 w a b xa ya xb yb) (xs : List Int) : (toS (cntL a.ns xs)).length ≤ 1000 := by
  rw [toS_len]
  exact Nat.le_trans h.la (by decide)
theorem Sum2.sum' {w0 w : World} {a b : TD} {xa ya xb yb Y : List Int} (h : Sum2 w0 w a b xa ya xb yb) {f : Bool} (hf : f = fitsB a.ns b.ns) (hY : (if f then sumL a.ns xa (cntL b.ns xb) else xa) = Y) :
    Calls Try.prog 17 #[.pointer (some ⟨a.g, 0, none⟩), .pointer (some ⟨b.g, 0, none⟩)] w fun e w' => e = .returned (.bool f) ∧ Sum2 w0 w' a b Y ya xb yb := by
  subst hf hY
  exact h.sum
theorem boxc (w : World) (x y : Value) (t : TypeId) : ((w.alloc (.cells #[x, y] t)).drew).cell? ⟨w.heap.size, 1, none⟩ = some y := by
  rw [World.cell?_drew]
  have h := World.alloc_heap_new w (.cells #[x, y] t)
  unfold World.cell?
  rw [h]
  rfl
theorem new_w (w : World) (A : Option Addr) (n c : Nat) (ns : List ByteArray) (hC : Kd.C Kd.string w A n ns) (hn : n ≤ 70) : Calls Try.prog 11 #[.slice A n c] w fun e w' => ∃ p k, e = .returned (.tuple #[.pointer p, .int .i64 k]) ∧ Below w.heap.size w w' :=
  (new_any w A n c ns hC hn).mono fun e w' h => by
    rcases h with ⟨_, rfl, hb⟩ | ⟨_, g, lb, N, cn, rfl, _, _, _, _, hb⟩
    · exact ⟨_, _, rfl, hb⟩
    · exact ⟨_, _, rfl, hb⟩
theorem rn_w (w : World) (A : Option Addr) (n c : Nat) (ns : List ByteArray) (hC : Kd.C Kd.string w A n ns) (hn : n ≤ 70) : Calls Try.prog 12 #[.slice A n c] w fun e w' => ∃ A' n' c' k, e = .returned (.tuple #[.slice A' n' c', .int .i64 k]) ∧ Below w.heap.size w w' :=
  (rn_any w A n c ns hC hn).mono fun e w' h => by
    rcases h with ⟨_, rfl, hb⟩ | ⟨_, v, rfl, ho, hb⟩
    · exact ⟨_, _, _, _, rfl, hb⟩
    · obtain ⟨A', c', rfl⟩ := own_slice ho
      exact ⟨_, _, _, _, rfl, hb⟩
set_option maxRecDepth 100000 in
set_option maxHeartbeats 16000000 in
theorem sums_bad1 (w : World) (A : Option Addr) (n c : Nat) (l : List ByteArray) (A' : Option Addr) (n' c' : Nat) (l2 : List ByteArray) (B : Option Addr) (m cm : Nat) (ops : List (Int × ByteArray × Int)) (B' : Option Addr) (m' cm' : Nat) (ops' : List (Int × ByteArray × Int))
    (hC : Kd.C Kd.string w A n l) (hc : n ≤ c) (hl : n ≤ 8796093022208) (hC' : Kd.C Kd.string w A' n' l2) (hc' : n' ≤ c') (hl' : n' ≤ 8796093022208) (hH : Kd.C opK w B m ops) (hm : m ≤ 140737488351232) (hops : ∀ q ∈ ops, 0 ≤ q.1) (hH' : Kd.C opK w B' m' ops') (hm' : m' ≤ 140737488351232) (hops' : ∀ q ∈ ops', 0 ≤ q.1) (hcode1 : codeN (fewN l) ≠ 0)  :
    Calls Try.prog 4 #[.slice A n c, .slice A' n' c', .slice B m cm, .slice B' m' cm'] w fun e w' => e = .returned (.bool true) ∧ Below w.heap.size w w' := by
  have HF := Aside0.mk (fewN_ok l)
  have HF2 := Aside0.mk (fewN_ok l2)
  have HC := Aside0.mk (And.intro hC (And.intro hc hl))
  have HC' := Aside0.mk (And.intro hC' (And.intro hc' hl'))
  have HH := Aside0.mk hH
  have HH' := Aside0.mk hH'
  have HOPS := Aside0.mk hops
  have HOPS' := Aside0.mk hops'
  have HCODE1 := Aside0.mk hcode1
  have hne1 : (codeN (fewN l) != 0) = true := bne_iff_ne.2 hcode1
  have HSN := Aside0.mk (And.intro (sortN_len (fewN l)) (sortN_len (fewN l2)))
  have T1 := Aside0.mk trivial
  have T2 := Aside0.mk trivial
  have T3 := Aside0.mk trivial
  have T4 := Aside0.mk trivial
  have T5 := Aside0.mk trivial
  have T6 := Aside0.mk trivial
  clear hC hc hl hC' hc' hl' hH hH' hops hops' hcode1
  go_enter Try.func4, Try.ntmps4
  have T7 := Aside0.mk trivial
  have T8 := Aside0.mk trivial
  go_wp2_with (first | (go_at_call 9; go_must (refine (t_awake _).mono ?_; rintro e w1 ⟨rfl, hb1⟩; have HB1 := Aside0.mk hb1; clear hb1)) | (go_at_call 10; have tk := T1; go_must (clear tk T1; refine (t_few w1 A n c l (Kd.C_below HC.out.1 HB1.out) HC.out.2.1 HC.out.2.2).mono ?_; rintro e w2 ⟨A2, c2, rfl, hcx, hCx, hbx⟩; have HC2 := Aside0.mk hCx; have HS2 := Aside0.mk hbx; have HB2 := Aside0.mk (HB1.out.trans (hbx.mono HB1.out.size)); clear hcx hCx hbx)) | (go_at_call 11; have tk := T5; go_must (clear tk T5; refine (new_any w2 A2 _ c2 (fewN l) HC2.out HF.out.1).mono ?_; rintro e w3 hh; obtain ⟨_, rfl, hbx⟩ := hh.resolve_right (fun h => HCODE1.out h.1); have HS3 := Aside0.mk hbx; have HB3 := Aside0.mk (HB2.out.trans (hbx.mono HB2.out.size)); clear hbx hh)) | (go_at_call 10; have tk := T2; go_must (clear tk T2; refine (t_few w3 A n c l (Kd.C_below HC.out.1 HB3.out) HC.out.2.1 HC.out.2.2).mono ?_; rintro e w4 ⟨A4, c4, rfl, hcx, hCx, hbx⟩; have HC4 := Aside0.mk hCx; have HS4 := Aside0.mk hbx; have HB4 := Aside0.mk (HB3.out.trans (hbx.mono HB3.out.size)); clear hcx hCx hbx)) | (go_at_call 12; have tk := T6; go_must (clear tk T6; refine (rn_w w4 A4 _ c4 (fewN l) HC4.out HF.out.1).mono ?_; rintro e w5 ⟨Ax5, nx5, cx5, kx5, rfl, hbx⟩; have HB5 := Aside0.mk (HB4.out.trans (hbx.mono HB4.out.size)); clear hbx)) | (go_at_call 10; have tk := T3; go_must (clear tk T3; refine (t_few w5 A' n' c' l2 (Kd.C_below HC'.out.1 HB5.out) HC'.out.2.1 HC'.out.2.2).mono ?_; rintro e w6 ⟨A6, c6, rfl, hcx, hCx, hbx⟩; have HC6 := Aside0.mk hCx; have HS6 := Aside0.mk hbx; have HB6 := Aside0.mk (HB5.out.trans (hbx.mono HB5.out.size)); clear hcx hCx hbx)) | (go_at_call 11; have tk := T7; go_must (clear tk T7; refine (new_w w6 A6 _ c6 (fewN l2) HC6.out HF2.out.1).mono ?_; rintro e w7 ⟨px, kx, rfl, hbx⟩; have HS7 := Aside0.mk hbx; have HB7 := Aside0.mk (HB6.out.trans (hbx.mono HB6.out.size)); clear hbx)) | (go_at_call 10; have tk := T4; go_must (clear tk T4; refine (t_few w7 A' n' c' l2 (Kd.C_below HC'.out.1 HB7.out) HC'.out.2.1 HC'.out.2.2).mono ?_; rintro e w8 ⟨A8, c8, rfl, hcx, hCx, hbx⟩; have HC8 := Aside0.mk hCx; have HS8 := Aside0.mk hbx; have HB8 := Aside0.mk (HB7.out.trans (hbx.mono HB7.out.size)); clear hcx hCx hbx)) | (go_at_call 12; have tk := T8; go_must (clear tk T8; refine (rn_w w8 A8 _ c8 (fewN l2) HC8.out HF2.out.1).mono ?_; rintro e w9 ⟨Ax9, nx9, cx9, kx9, rfl, hbx⟩; have HB9 := Aside0.mk (HB8.out.trans (hbx.mono HB8.out.size)); clear hbx)))
  go_ret
  exact ⟨rfl, HB9.out⟩
set_option maxRecDepth 100000 in
set_option maxHeartbeats 16000000 in
theorem sums_bad2 (w : World) (A : Option Addr) (n c : Nat) (l : List ByteArray) (A' : Option Addr) (n' c' : Nat) (l2 : List ByteArray) (B : Option Addr) (m cm : Nat) (ops : List (Int × ByteArray × Int)) (B' : Option Addr) (m' cm' : Nat) (ops' : List (Int × ByteArray × Int))
    (hC : Kd.C Kd.string w A n l) (hc : n ≤ c) (hl : n ≤ 8796093022208) (hC' : Kd.C Kd.string w A' n' l2) (hc' : n' ≤ c') (hl' : n' ≤ 8796093022208) (hH : Kd.C opK w B m ops) (hm : m ≤ 140737488351232) (hops : ∀ q ∈ ops, 0 ≤ q.1) (hH' : Kd.C opK w B' m' ops') (hm' : m' ≤ 140737488351232) (hops' : ∀ q ∈ ops', 0 ≤ q.1) (hcode1 : codeN (fewN l) = 0) (hcode2 : codeN (fewN l2) ≠ 0) :
    Calls Try.prog 4 #[.slice A n c, .slice A' n' c', .slice B m cm, .slice B' m' cm'] w fun e w' => e = .returned (.bool true) ∧ Below w.heap.size w w' := by
  have HF := Aside0.mk (fewN_ok l)
  have HF2 := Aside0.mk (fewN_ok l2)
  have HC := Aside0.mk (And.intro hC (And.intro hc hl))
  have HC' := Aside0.mk (And.intro hC' (And.intro hc' hl'))
  have HH := Aside0.mk hH
  have HH' := Aside0.mk hH'
  have HOPS := Aside0.mk hops
  have HOPS' := Aside0.mk hops'
  have HCODE1 := Aside0.mk hcode1
  have HCODE2 := Aside0.mk hcode2
  have hne2 : (codeN (fewN l2) != 0) = true := bne_iff_ne.2 hcode2
  have HSN := Aside0.mk (And.intro (sortN_len (fewN l)) (sortN_len (fewN l2)))
  have T1 := Aside0.mk trivial
  have T2 := Aside0.mk trivial
  have T3 := Aside0.mk trivial
  have T4 := Aside0.mk trivial
  have T5 := Aside0.mk trivial
  have T6 := Aside0.mk trivial
  clear hC hc hl hC' hc' hl' hH hH' hops hops' hcode1 hcode2
  go_enter Try.func4, Try.ntmps4
  have T7 := Aside0.mk trivial
  have T8 := Aside0.mk trivial
  go_wp2_with (first | (go_at_call 9; go_must (refine (t_awake _).mono ?_; rintro e w1 ⟨rfl, hb1⟩; have HB1 := Aside0.mk hb1; clear hb1)) | (go_at_call 10; have tk := T1; go_must (clear tk T1; refine (t_few w1 A n c l (Kd.C_below HC.out.1 HB1.out) HC.out.2.1 HC.out.2.2).mono ?_; rintro e w2 ⟨A2, c2, rfl, hcx, hCx, hbx⟩; have HC2 := Aside0.mk hCx; have HS2 := Aside0.mk hbx; have HB2 := Aside0.mk (HB1.out.trans (hbx.mono HB1.out.size)); clear hcx hCx hbx)) | (go_at_call 11; have tk := T5; go_must (clear tk T5; refine (new_any w2 A2 _ c2 (fewN l) HC2.out HF.out.1).mono ?_; rintro e w3 hh; obtain ⟨ga, la, Na, ca, rfl, hTx, hgx, hlx, hNx, hbx⟩ := (hh.resolve_left (fun h => h.1 HCODE1.out)).2; have HT3 := Aside0.mk (And.intro hTx (And.intro hgx (And.intro hlx hNx))); have HS3 := Aside0.mk hbx; have HB3 := Aside0.mk (HB2.out.trans (hbx.mono HB2.out.size)); clear hTx hgx hlx hNx hbx hh)) | (go_at_call 10; have tk := T2; go_must (clear tk T2; refine (t_few w3 A n c l (Kd.C_below HC.out.1 HB3.out) HC.out.2.1 HC.out.2.2).mono ?_; rintro e w4 ⟨A4, c4, rfl, hcx, hCx, hbx⟩; have HC4 := Aside0.mk hCx; have HS4 := Aside0.mk hbx; have HB4 := Aside0.mk (HB3.out.trans (hbx.mono HB3.out.size)); clear hcx hCx hbx)) | (go_at_call 12; have tk := T6; go_must (clear tk T6; refine (rn_w w4 A4 _ c4 (fewN l) HC4.out HF.out.1).mono ?_; rintro e w5 ⟨Ax5, nx5, cx5, kx5, rfl, hbx⟩; have HB5 := Aside0.mk (HB4.out.trans (hbx.mono HB4.out.size)); clear hbx)) | (go_at_call 10; have tk := T3; go_must (clear tk T3; refine (t_few w5 A' n' c' l2 (Kd.C_below HC'.out.1 HB5.out) HC'.out.2.1 HC'.out.2.2).mono ?_; rintro e w6 ⟨A6, c6, rfl, hcx, hCx, hbx⟩; have HC6 := Aside0.mk hCx; have HS6 := Aside0.mk hbx; have HB6 := Aside0.mk (HB5.out.trans (hbx.mono HB5.out.size)); clear hcx hCx hbx)) | (go_at_call 11; have tk := T7; go_must (clear tk T7; refine (new_any w6 A6 _ c6 (fewN l2) HC6.out HF2.out.1).mono ?_; rintro e w7 hh; obtain ⟨_, rfl, hbx⟩ := hh.resolve_right (fun h => HCODE2.out h.1); have HS7 := Aside0.mk hbx; have HB7 := Aside0.mk (HB6.out.trans (hbx.mono HB6.out.size)); clear hbx hh)) | (go_at_call 10; have tk := T4; go_must (clear tk T4; refine (t_few w7 A' n' c' l2 (Kd.C_below HC'.out.1 HB7.out) HC'.out.2.1 HC'.out.2.2).mono ?_; rintro e w8 ⟨A8, c8, rfl, hcx, hCx, hbx⟩; have HC8 := Aside0.mk hCx; have HS8 := Aside0.mk hbx; have HB8 := Aside0.mk (HB7.out.trans (hbx.mono HB7.out.size)); clear hcx hCx hbx)) | (go_at_call 12; have tk := T8; go_must (clear tk T8; refine (rn_w w8 A8 _ c8 (fewN l2) HC8.out HF2.out.1).mono ?_; rintro e w9 ⟨Ax9, nx9, cx9, kx9, rfl, hbx⟩; have HB9 := Aside0.mk (HB8.out.trans (hbx.mono HB8.out.size)); clear hbx)))
  go_ret
  exact ⟨rfl, HB9.out⟩
set_option maxRecDepth 100000 in
set_option maxHeartbeats 16000000 in
theorem sums_good (w : World) (A : Option Addr) (n c : Nat) (l : List ByteArray) (A' : Option Addr) (n' c' : Nat) (l2 : List ByteArray) (B : Option Addr) (m cm : Nat) (ops : List (Int × ByteArray × Int)) (B' : Option Addr) (m' cm' : Nat) (ops' : List (Int × ByteArray × Int))
    (hC : Kd.C Kd.string w A n l) (hc : n ≤ c) (hl : n ≤ 8796093022208) (hC' : Kd.C Kd.string w A' n' l2) (hc' : n' ≤ c') (hl' : n' ≤ 8796093022208) (hH : Kd.C opK w B m ops) (hm : m ≤ 140737488351232) (hops : ∀ q ∈ ops, 0 ≤ q.1) (hH' : Kd.C opK w B' m' ops') (hm' : m' ≤ 140737488351232) (hops' : ∀ q ∈ ops', 0 ≤ q.1) (hcode1 : codeN (fewN l) = 0) (hcode2 : codeN (fewN l2) = 0) :
    Calls Try.prog 4 #[.slice A n c, .slice A' n' c', .slice B m cm, .slice B' m' cm'] w fun e w' => e = .returned (.bool true) ∧ Below w.heap.size w w' := by
  have HF := Aside0.mk (fewN_ok l)
  have HF2 := Aside0.mk (fewN_ok l2)
  have HC := Aside0.mk (And.intro hC (And.intro hc hl))
  have HC' := Aside0.mk (And.intro hC' (And.intro hc' hl'))
  have HH := Aside0.mk hH
  have HH' := Aside0.mk hH'
  have HOPS := Aside0.mk hops
  have HOPS' := Aside0.mk hops'
  have HCODE1 := Aside0.mk hcode1
  have HCODE2 := Aside0.mk hcode2
  have HND := Aside0.mk (code0 hcode1)
  have HND2 := Aside0.mk (code0 hcode2)
  have HSN := Aside0.mk (And.intro (sortN_len (fewN l)) (sortN_len (fewN l2)))
  have T1 := Aside0.mk trivial
  have T2 := Aside0.mk trivial
  have T3 := Aside0.mk trivial
  have T4 := Aside0.mk trivial
  have T5 := Aside0.mk trivial
  have T6 := Aside0.mk trivial
  clear hC hc hl hC' hc' hl' hH hH' hops hops' hcode1 hcode2
  go_enter Try.func4, Try.ntmps4
  have T7 := Aside0.mk trivial
  have T8 := Aside0.mk trivial
  go_wp2_with (first | (go_at_call 9; go_must (refine (t_awake _).mono ?_; rintro e w1 ⟨rfl, hb1⟩; have HB1 := Aside0.mk hb1; clear hb1)) | (go_at_call 10; have tk := T1; go_must (clear tk T1; refine (t_few w1 A n c l (Kd.C_below HC.out.1 HB1.out) HC.out.2.1 HC.out.2.2).mono ?_; rintro e w2 ⟨A2, c2, rfl, hcx, hCx, hbx⟩; have HC2 := Aside0.mk hCx; have HS2 := Aside0.mk hbx; have HB2 := Aside0.mk (HB1.out.trans (hbx.mono HB1.out.size)); clear hcx hCx hbx)) | (go_at_call 11; have tk := T5; go_must (clear tk T5; refine (new_any w2 A2 _ c2 (fewN l) HC2.out HF.out.1).mono ?_; rintro e w3 hh; obtain ⟨ga, la, Na, ca, rfl, hTx, hgx, hlx, hNx, hbx⟩ := (hh.resolve_left (fun h => h.1 HCODE1.out)).2; have HT3 := Aside0.mk (And.intro hTx (And.intro hgx (And.intro hlx hNx))); have HS3 := Aside0.mk hbx; have HB3 := Aside0.mk (HB2.out.trans (hbx.mono HB2.out.size)); clear hTx hgx hlx hNx hbx hh)) | (go_at_call 10; have tk := T2; go_must (clear tk T2; refine (t_few w3 A n c l (Kd.C_below HC.out.1 HB3.out) HC.out.2.1 HC.out.2.2).mono ?_; rintro e w4 ⟨A4, c4, rfl, hcx, hCx, hbx⟩; have HC4 := Aside0.mk hCx; have HS4 := Aside0.mk hbx; have HB4 := Aside0.mk (HB3.out.trans (hbx.mono HB3.out.size)); clear hcx hCx hbx)) | (go_at_call 12; have tk := T6; go_must (clear tk T6; refine (rn_any w4 A4 _ c4 (fewN l) HC4.out HF.out.1).mono ?_; rintro e w5 hh; obtain ⟨vx, rfl, hox, hbx⟩ := (hh.resolve_left (fun h => h.1 HCODE1.out)).2; obtain ⟨A5, c5, rfl⟩ := own_slice hox; have HS5 := Aside0.mk hbx; have HB5 := Aside0.mk (HB4.out.trans (hbx.mono HB4.out.size)); have HA5 := Aside0.mk (show TwoD w w5 (⟨ga, la, Na, ca, sortN (fewN l), .slice A5 (fewN l).length c5⟩ : TD) (List.replicate (fewN l).length 0) (List.replicate (fewN l).length 0) from two_new (w1 := w3) (w1' := w4) HB2.out HT3.out.1 HT3.out.2.1 HT3.out.2.2.1 HS3.out HS4.out hox hbx); clear hox hbx hh)) | (go_at_call 10; have tk := T3; go_must (clear tk T3; refine (t_few w5 A' n' c' l2 (Kd.C_below HC'.out.1 HB5.out) HC'.out.2.1 HC'.out.2.2).mono ?_; rintro e w6 ⟨A6, c6, rfl, hcx, hCx, hbx⟩; have HC6 := Aside0.mk hCx; have HS6 := Aside0.mk hbx; have HB6 := Aside0.mk (HB5.out.trans (hbx.mono HB5.out.size)); clear hcx hCx hbx)) | (go_at_call 11; have tk := T7; go_must (clear tk T7; refine (new_any w6 A6 _ c6 (fewN l2) HC6.out HF2.out.1).mono ?_; rintro e w7 hh; obtain ⟨gb, lb, Nb, cb, rfl, hTx, hgx, hlx, hNx, hbx⟩ := (hh.resolve_left (fun h => h.1 HCODE2.out)).2; have HT7 := Aside0.mk (And.intro hTx (And.intro hgx (And.intro hlx hNx))); have HS7 := Aside0.mk hbx; have HB7 := Aside0.mk (HB6.out.trans (hbx.mono HB6.out.size)); clear hTx hgx hlx hNx hbx hh)) | (go_at_call 10; have tk := T4; go_must (clear tk T4; refine (t_few w7 A' n' c' l2 (Kd.C_below HC'.out.1 HB7.out) HC'.out.2.1 HC'.out.2.2).mono ?_; rintro e w8 ⟨A8, c8, rfl, hcx, hCx, hbx⟩; have HC8 := Aside0.mk hCx; have HS8 := Aside0.mk hbx; have HB8 := Aside0.mk (HB7.out.trans (hbx.mono HB7.out.size)); clear hcx hCx hbx)) | (go_at_call 12; have tk := T8; go_must (clear tk T8; refine (rn_any w8 A8 _ c8 (fewN l2) HC8.out HF2.out.1).mono ?_; rintro e w9 hh; obtain ⟨vx, rfl, hox, hbx⟩ := (hh.resolve_left (fun h => h.1 HCODE2.out)).2; obtain ⟨A9, c9, rfl⟩ := own_slice hox; have HS9 := Aside0.mk hbx; have HB9 := Aside0.mk (HB8.out.trans (hbx.mono HB8.out.size)); have HB2b := Aside0.mk (show TwoD w w9 (⟨gb, lb, Nb, cb, sortN (fewN l2), .slice A9 (fewN l2).length c9⟩ : TD) (List.replicate (fewN l2).length 0) (List.replicate (fewN l2).length 0) from two_new (w1 := w7) (w1' := w8) HB6.out HT7.out.1 HT7.out.2.1 HT7.out.2.2.1 HS7.out HS8.out hox hbx); have HD := Aside0.mk (dis_of (b := (⟨gb, lb, Nb, cb, sortN (fewN l2), .slice A9 (fewN l2).length c9⟩ : TD)) HA5.out (Nat.le_trans HS6.out.size HT7.out.2.1) (Nat.le_trans HS6.out.size HT7.out.2.2.1) (fun ad hA => Nat.le_trans HS6.out.size (HT7.out.2.2.2 ad hA)) (fun q hq => Nat.le_trans (Nat.le_trans (Nat.le_trans HS6.out.size HS7.out.size) HS8.out.size) (hox.lt q hq).1)); have HS := Aside0.mk (show Sum2 w w9 (⟨ga, la, Na, ca, sortN (fewN l), .slice A5 (fewN l).length c5⟩ : TD) (⟨gb, lb, Nb, cb, sortN (fewN l2), .slice A9 (fewN l2).length c9⟩ : TD) (List.replicate (fewN l).length 0) (List.replicate (fewN l).length 0) (List.replicate (fewN l2).length 0) (List.replicate (fewN l2).length 0) from ⟨(Two.below (Two.below (Two.below (Two.below HA5.out HS6.out) HS7.out) HS8.out) hbx).here, HB2b.out, HD.out, sortN_nodup HND.out.2, sortN_nodup HND2.out.2, by rw [HSN.out.1]; exact HND.out.1, by rw [HSN.out.2]; exact HND2.out.1⟩); clear hox hbx hh)))
  have m64 : m ≤ 9223372036854775807 := by omega
  go_loopw [60] (fun i wr => ∃ k : Nat, k ≤ m ∧ i = .int .i64 k ∧ Aside0 (∃ za zb, Sum2 w wr (⟨ga, la, Na, ca, sortN (fewN l), .slice A5 (fewN l).length c5⟩ : TD) (⟨gb, lb, Nb, cb, sortN (fewN l2), .slice A9 (fewN l2).length c9⟩ : TD) za za zb zb)) (fun i _ => m - (intOf i).toNat)
  case atStart => exact ⟨0, Nat.zero_le _, rfl, ⟨_, _, HS.out⟩⟩
  case round =>
    obtain ⟨k, hk, rfl, HK⟩ := hrel
    obtain ⟨za, zb, hS⟩ := HK.out
    have HS := Aside0.mk hS
    clear hS HK
    have hk0 : (0 : Int) ≤ (k : Int) := Int.natCast_nonneg k
    by_cases hlt : k < m
    · obtain ⟨ad, a1, s1, y1, e, hq, x0, x1, x2⟩ := op_at (Kd.C_below HH.out HS.out.ta.b) k hlt
      subst e
      rw [← add_next ad (k * 3) 1 (by omega)] at x1
      rw [← add_next ad (k * 3) 2 (by omega)] at x2
      have hk1 : (k : Int) < (m : Int) := Int.ofNat_lt.2 hlt
      have HA1 := Aside0.mk (show 0 ≤ a1 from HOPS.out (a1, s1, y1) (List.mem_of_getElem? hq))
      clear hq
      by_cases h20 : k < 20
      · go_wp2_with (go_at_call 13; go_must (refine ((HS.out.alloc _).doA a1 s1 y1 HA1.out).mono ?_; rintro e wd ⟨rfl, xz, hS2⟩; have HS2 := Aside0.mk hS2; clear hS2))
        go_roundw
        case rel => exact ⟨k + 1, hlt, by go_num, ⟨_, _, HS2.out⟩⟩
        case measure => simp [intOf]; omega
      · have HS2 := Aside0.mk (HS.out.alloc (.cells #[.int .u8 a1, .string s1, .int .u64 y1] 35))
        go_wp2
        go_roundw
        case rel => exact ⟨k + 1, hlt, by go_num, ⟨_, _, HS2.out⟩⟩
        case measure => simp [intOf]; omega
    · clear hk0
      go_wp2
      have m'64 : m' ≤ 9223372036854775807 := by omega
      go_loopw [77] (fun i wr => ∃ k : Nat, k ≤ m' ∧ i = .int .i64 k ∧ Aside0 (∃ za zb, Sum2 w wr (⟨ga, la, Na, ca, sortN (fewN l), .slice A5 (fewN l).length c5⟩ : TD) (⟨gb, lb, Nb, cb, sortN (fewN l2), .slice A9 (fewN l2).length c9⟩ : TD) za za zb zb)) (fun i _ => m' - (intOf i).toNat)
      case atStart => exact ⟨0, Nat.zero_le _, rfl, ⟨_, _, HS.out⟩⟩
      case round =>
        obtain ⟨k, hk, rfl, HK⟩ := hrel
        obtain ⟨za, zb, hS⟩ := HK.out
        have HS := Aside0.mk hS
        clear hS HK
        have hk0 : (0 : Int) ≤ (k : Int) := Int.natCast_nonneg k
        by_cases hlt : k < m'
        · obtain ⟨ad, a1, s1, y1, e, hq, x0, x1, x2⟩ := op_at (Kd.C_below HH'.out HS.out.ta.b) k hlt
          subst e
          rw [← add_next ad (k * 3) 1 (by omega)] at x1
          rw [← add_next ad (k * 3) 2 (by omega)] at x2
          have hk1 : (k : Int) < (m' : Int) := Int.ofNat_lt.2 hlt
          have HA1 := Aside0.mk (show 0 ≤ a1 from HOPS'.out (a1, s1, y1) (List.mem_of_getElem? hq))
          clear hq
          by_cases h20 : k < 20
          · go_wp2_with (go_at_call 13; go_must (refine ((HS.out.alloc _).doB a1 s1 y1 HA1.out).mono ?_; rintro e wd ⟨rfl, xz, hS2⟩; have HS2 := Aside0.mk hS2; clear hS2))
            go_roundw
            case rel => exact ⟨k + 1, hlt, by go_num, ⟨_, _, HS2.out⟩⟩
            case measure => simp [intOf]; omega
          · have HS2 := Aside0.mk (HS.out.alloc (.cells #[.int .u8 a1, .string s1, .int .u64 y1] 35))
            go_wp2
            go_roundw
            case rel => exact ⟨k + 1, hlt, by go_num, ⟨_, _, HS2.out⟩⟩
            case measure => simp [intOf]; omega
        · clear hk0
          have h70 : (fewN l2).length ≤ 70 := HF2.out.1
          go_wp2
          go_loopw [94, 21] (fun i f wr => ∃ (k : Nat) (b : Bool), k ≤ (fewN l2).length ∧ i = .int .i64 k ∧ f = .bool b ∧ Aside0 (b = fitsK (sortN (fewN l)) (sortN (fewN l2)) k ∧ Sum2 w wr (⟨ga, la, Na, ca, sortN (fewN l), .slice A5 (fewN l).length c5⟩ : TD) (⟨gb, lb, Nb, cb, sortN (fewN l2), .slice A9 (fewN l2).length c9⟩ : TD) za za zb zb)) (fun i _ _ => (fewN l2).length - (intOf i).toNat)
          case atStart => exact ⟨0, true, Nat.zero_le _, rfl, rfl, ⟨rfl, HS.out⟩⟩
          case round =>
            obtain ⟨k, b, hk, rfl, rfl, HK⟩ := hrel
            have HFK := Aside0.mk HK.out.1
            have HS := Aside0.mk HK.out.2
            clear HK
            have hk0 : (0 : Int) ≤ (k : Int) := Int.natCast_nonneg k
            by_cases hlt : k < (fewN l2).length
            · obtain ⟨bl, e, hn, x0, x1⟩ := HS.out.atB rfl k (by rw [HSN.out.2]; exact hlt)
              have HKB := Aside0.mk (show k < (sortN (fewN l2)).length by rw [HSN.out.2]; exact hlt)
              clear hn
              subst e
              have hk1 : (k : Int) < ((fewN l2).length : Int) := Int.ofNat_lt.2 hlt
              cases b
              · go_wp2
                go_roundw
                case rel => exact ⟨k + 1, false, hlt, by go_num, rfl, ⟨by rw [fitsK_succ _ _ _ HKB.out, ← HFK.out, Bool.false_and], HS.out.alloc _⟩⟩
                case measure => simp [intOf]; omega
              · rcases hfn : findN (sortN (fewN l)) (rdOf ByteArray.empty (sortN (fewN l2)) (k : Int)) with _ | i
                · have HFN := Aside0.mk hfn
                  clear hfn
                  go_wp2_with (go_at_call 16; go_must (refine ((HS.out.alloc _).find _).mono ?_; rintro e wd ⟨he, hS2, hb2⟩; rw [fpos_none HFN.out] at he; subst he; have HS2 := Aside0.mk hS2; clear hS2 hb2))
                  go_roundw
                  case rel => exact ⟨k + 1, false, hlt, by go_num, rfl, ⟨by rw [fitsK_succ _ _ _ HKB.out, HFN.out, Option.isSome_none, Bool.and_false], HS2.out⟩⟩
                  case measure => simp [intOf]; omega
                · have HFN := Aside0.mk hfn
                  clear hfn
                  have hi0 : (0 : Int) ≤ (i : Int) := Int.natCast_nonneg i
                  go_wp2_with (go_at_call 16; go_must (refine ((HS.out.alloc _).find _).mono ?_; rintro e wd ⟨he, hS2, hb2⟩; rw [fpos_some HFN.out] at he; subst he; have HS2 := Aside0.mk hS2; clear hS2 hb2))
                  go_roundw
                  case rel => exact ⟨k + 1, true, hlt, by go_num, rfl, ⟨by rw [fitsK_succ _ _ _ HKB.out, HFN.out, Option.isSome_some, Bool.and_true]; exact HFK.out, HS2.out⟩⟩
                  case measure => simp [intOf]; omega
            · have hke : k = (sortN (fewN l2)).length := by rw [HSN.out.2]; omega
              have hfb : b = fitsB (sortN (fewN l)) (sortN (fewN l2)) := by rw [HFK.out, hke, fitsK_all]
              have HFB := Aside0.mk hfb
              clear hke hfb hk0 HFK
              have U1 := Aside0.mk trivial
              have U2 := Aside0.mk trivial
              have U3 := Aside0.mk trivial
              have U4 := Aside0.mk trivial
              have U5 := Aside0.mk trivial
              have U6 := Aside0.mk trivial
              cases b
              · have HEQ := Aside0.mk (show (if false = true then sumL (sortN (fewN l)) za (cntL (sortN (fewN l2)) zb) else za) = za from rfl)
                go_wp2_with (first | (go_at_call 17; have tk := U1; go_must (clear tk U1; refine (HS.out.sum' HFB.out HEQ.out).mono ?_; rintro e e1 ⟨rfl, h1⟩; have HS1 := Aside0.mk h1; clear h1)) | (go_at_call 15; have tk := U2; go_must (clear tk U2; refine HS1.out.allA.mono ?_; rintro e e2 ⟨Aa, ca, na, rfl, hCa, hca, h2⟩; have HCa := Aside0.mk (And.intro hCa hca); have HS2 := Aside0.mk h2; clear hCa hca h2)) | (go_at_call 14; have tk := U3; go_must (clear tk U3; refine (same_any e2 _ (HS2.out.lenA _) Aa na ca _ _ _ HCa.out.1 HCa.out.2 (HS2.out.rdA rfl).1 (HS2.out.rdA rfl).2).mono ?_; rintro e e3 ⟨rfl, h3⟩; have HS3 := Aside0.mk (HS2.out.below h3); clear h3)) | (go_at_call 15; have tk := U4; go_must (clear tk U4; refine HS3.out.allB.mono ?_; rintro e e4 ⟨Ab, cb, nb, rfl, hCb, hcb, h4⟩; have HCb := Aside0.mk (And.intro hCb hcb); have HS4 := Aside0.mk h4; clear hCb hcb h4)) | (go_at_call 14; have tk := U5; go_must (clear tk U5; refine (same_any e4 _ (HS4.out.symm.lenA _) Ab nb cb _ _ _ HCb.out.1 HCb.out.2 (HS4.out.rdB rfl).1 (HS4.out.rdB rfl).2).mono ?_; rintro e e5 ⟨rfl, h5⟩; have HS5 := Aside0.mk (HS4.out.below h5); clear h5)) | (go_at_call 17; have tk := U6; go_must (clear tk U6; refine HS5.out.sumNil.mono ?_; rintro e e6 ⟨rfl, h6⟩; have HB6 := Aside0.mk (HS5.out.below h6).ta.b; clear h6)))
                go_ret
                exact ⟨rfl, HB6.out⟩
              · go_wp2
                go_loopw [110] (fun i wr => ∃ k : Nat, k ≤ (fewN l2).length ∧ i = .int .i64 k ∧ Aside0 (Sum2 w wr (⟨ga, la, Na, ca, sortN (fewN l), .slice A5 (fewN l).length c5⟩ : TD) (⟨gb, lb, Nb, cb, sortN (fewN l2), .slice A9 (fewN l2).length c9⟩ : TD) za (sumL (sortN (fewN l)) za ((cntL (sortN (fewN l2)) zb).take k)) zb zb)) (fun i _ => (fewN l2).length - (intOf i).toNat)
                case atStart => exact ⟨0, Nat.zero_le _, rfl, ⟨HS.out⟩⟩
                case round =>
                  obtain ⟨k, hk, rfl, HK⟩ := hrel
                  have HS := HK
                  clear HK
                  have hk0 : (0 : Int) ≤ (k : Int) := Int.natCast_nonneg k
                  by_cases hlt : k < (fewN l2).length
                  · obtain ⟨bl, e, hn, x0, x1⟩ := HS.out.atB rfl k (by rw [HSN.out.2]; exact hlt)
                    have HKB := Aside0.mk (show k < (sortN (fewN l2)).length by rw [HSN.out.2]; exact hlt)
                    clear hn
                    subst e
                    have hk1 : (k : Int) < ((fewN l2).length : Int) := Int.ofNat_lt.2 hlt
                    obtain ⟨i, hfn⟩ := fits_some HFB.out.symm k HKB.out
                    have HFN := Aside0.mk hfn
                    have hi0 : (0 : Int) ≤ (i : Int) := Int.natCast_nonneg i
                    have HI := Aside0.mk (findN_lt hfn)
                    have hi1 : (i : Int) < ((fewN l).length : Int) := by have h1 := HI.out; rw [HSN.out.1] at h1; exact Int.ofNat_lt.2 h1
                    obtain ⟨bl2, e2, hn2, y1, y2⟩ := HS.out.atA rfl i HI.out
                    clear hn2 hfn y1 y2
                    subst e2
                    go_wp2
                    go_region_with (first | (go_at_call 16; go_must (refine (((HS.out.alloc (.cells #[.string (rdOf ByteArray.empty (sortN (fewN l2)) (k : Int)), .int .u64 (rd zb (k : Int))] 41)).below (Below.drew (Below.refl _ _))).find (rdOf ByteArray.empty (sortN (fewN l2)) (k : Int))).mono ?_; rintro e wd ⟨he, hS2, hb2⟩; rw [fpos_some HFN.out] at he; subst he; have b0 := cell_later hb2 (a := ⟨wr.heap.size, 1, none⟩) (v := .int .u64 (rd zb (k : Int))) (boxc _ _ _ _); obtain ⟨bl3, e3, hn3, y1, y2⟩ := hS2.atA rfl i HI.out; cases e3; have HS2 := Aside0.mk hS2; clear hS2 hb2 hn3)))
                    all_goals
                      go_wp2
                      go_roundw
                      case rel => exact ⟨k + 1, hlt, by go_num, ⟨by rw [sumL_step HKB.out HFN.out]; exact HS2.out.storeA rfl HSN.out.1.symm (by rw [sumL_len]; exact HS.out.ta.t.len) i HI.out _⟩⟩
                      case measure => simp [intOf]; omega
                  · clear hk0
                    have HEQ := Aside0.mk (show (if true = true then sumL (sortN (fewN l)) za (cntL (sortN (fewN l2)) zb) else za) = sumL (sortN (fewN l)) za ((cntL (sortN (fewN l2)) zb).take k) from by rw [if_pos rfl, List.take_of_length_le]; rw [cntL_len]; rw [HSN.out.2]; omega)
                    go_wp2_with (first | (go_at_call 17; have tk := U1; go_must (clear tk U1; refine (HS.out.sum' HFB.out HEQ.out).mono ?_; rintro e e1 ⟨rfl, h1⟩; have HS1 := Aside0.mk h1; clear h1)) | (go_at_call 15; have tk := U2; go_must (clear tk U2; refine HS1.out.allA.mono ?_; rintro e e2 ⟨Aa, ca, na, rfl, hCa, hca, h2⟩; have HCa := Aside0.mk (And.intro hCa hca); have HS2 := Aside0.mk h2; clear hCa hca h2)) | (go_at_call 14; have tk := U3; go_must (clear tk U3; refine (same_any e2 _ (HS2.out.lenA _) Aa na ca _ _ _ HCa.out.1 HCa.out.2 (HS2.out.rdA rfl).1 (HS2.out.rdA rfl).2).mono ?_; rintro e e3 ⟨rfl, h3⟩; have HS3 := Aside0.mk (HS2.out.below h3); clear h3)) | (go_at_call 15; have tk := U4; go_must (clear tk U4; refine HS3.out.allB.mono ?_; rintro e e4 ⟨Ab, cb, nb, rfl, hCb, hcb, h4⟩; have HCb := Aside0.mk (And.intro hCb hcb); have HS4 := Aside0.mk h4; clear hCb hcb h4)) | (go_at_call 14; have tk := U5; go_must (clear tk U5; refine (same_any e4 _ (HS4.out.symm.lenA _) Ab nb cb _ _ _ HCb.out.1 HCb.out.2 (HS4.out.rdB rfl).1 (HS4.out.rdB rfl).2).mono ?_; rintro e e5 ⟨rfl, h5⟩; have HS5 := Aside0.mk (HS4.out.below h5); clear h5)) | (go_at_call 17; have tk := U6; go_must (clear tk U6; refine HS5.out.sumNil.mono ?_; rintro e e6 ⟨rfl, h6⟩; have HB6 := Aside0.mk (HS5.out.below h6).ta.b; clear h6)))
                    go_ret
                    exact ⟨rfl, HB6.out⟩
end Go.Proofs.Ytclpkbgjaiacpaa
