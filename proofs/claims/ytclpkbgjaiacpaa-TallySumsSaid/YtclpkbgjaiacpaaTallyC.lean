/- What is proved: the counters: Get, Add, Take, Most. Conditions: those that each theorem states. -/
import Derived.Test.YtclpkbgjaiacpaaPNegoAgreesx1
import Derived.Test.YtclpkbgjaiacpaaTallyB
import Derived.WalkSpells
import Derived.Lib.SliceRun
import Derived.Deep.DeepMust
import Derived.Deep.RegionHeld3
import Derived.StillTactics
import Derived.Defers
import Derived.Laws.Pointers
import Derived.Laws.LoneSync
import Derived.RegionTactic
import Derived.RegionCalls
import Derived.Maps.OwnSet
namespace Go.Proofs.Ytclpkbgjaiacpaa
open Go.RowKit Go.Proofs.YtclpkbgjaiacpaaW.PrintWords Go.Proofs.YtclpkbgjaiacpaaW.PrintLast Go.Proofs.YtclpkbgjaiacpaaW.PrintMore
open Go.Proofs.Ytclpkbgjaiacpaa.PNegoAgrees
set_option linter.unusedVariables false
set_option linter.unusedSimpArgs false
/-! ### the counters -/
theorem a_load (w : World) (a : Addr) (x : Int) (hc : w.cell? a = some (.int .u64 x)) : Calls Try.prog 51 #[.pointer (some a)] w fun e w' => e = .returned (.int .u64 x) ∧ w' = w := by
  have hl := run_call_load (P := Try.prog) Try.func72 (by kernel_rfl) (by kernel_rfl) (by kernel_rfl) .u64 (by kernel_rfl) hc
  go_enter Try.func51, Try.ntmps51
  go_wp2
  go_ret
  exact ⟨rfl, rfl⟩
theorem a_add (w : World) (a : Addr) (x y : Int) (hc : w.cell? a = some (.int .u64 x)) (hz : w.frozen? a = false) : Calls Try.prog 50 #[.pointer (some a), .int .u64 y] w fun e w' => (∃ v, e = .returned v) ∧ w' = w.setCell a (.int .u64 (IntKind.u64.wrap (x + y))) := by
  have hl := run_call_add (P := Try.prog) Try.func71 (by kernel_rfl) (by kernel_rfl) (by kernel_rfl) .u64 (by kernel_rfl) (y := y) (s := IntKind.u64.wrap (x + y)) hc hz rfl
  go_enter Try.func50, Try.ntmps50
  go_wp2
  go_ret
  exact ⟨⟨_, rfl⟩, rfl⟩
theorem a_cas (w : World) (a : Addr) (x y : Int) (hc : w.cell? a = some (.int .u64 x)) (hz : w.frozen? a = false) : Calls Try.prog 52 #[.pointer (some a), .int .u64 x, .int .u64 y] w fun e w' => e = .returned (.bool true) ∧ w' = w.setCell a (.int .u64 y) := by
  have hl := run_call_cas_hit (P := Try.prog) Try.func73 (by kernel_rfl) (by kernel_rfl) (by kernel_rfl) .u64 (by kernel_rfl) (y := y) hc hz
  go_enter Try.func52, Try.ntmps52
  go_wp2
  go_ret
  exact ⟨rfl, rfl⟩
theorem run_call_swap {P : Program} {f : FuncId} {fn : Func} (hf : P.funcs[f]? = some fn) (hname : (fn.name == "runtime.NumGoroutine") = false) (hb : fn.body.isNone = true) (hn : Extern.findNext fn = none) (k : IntKind)
    (he : Extern.find fn = some (Extern.Atomic.swapT (.int k))) {a : Addr} {x y : Int} {w : World} (hc : w.cell? a = some (.int k x)) (hz : w.frozen? a = false) :
    (callFunc f #[.pointer (some a), .int k y]).run P w = .ok (.value (.int k x)) (w.setCell a (.int k y)) := by
  rw [run_callFunc_extern hf hname hb hn he]
  change (Sem.run P (do
    let a' ← asAddr (.pointer (some a))
    let old ← Extern.Atomic.read (.int k) a'
    store a' (.int k y) .atomic
    pure old) w).andThen _ = _
  simp [Extern.Atomic.read, asAddr, hc, hz, run_store P w a (.int k y) .atomic rfl, Result.andThen]
theorem a_swap (w : World) (a : Addr) (x y : Int) (hc : w.cell? a = some (.int .u64 x)) (hz : w.frozen? a = false) : Calls Try.prog 53 #[.pointer (some a), .int .u64 y] w fun e w' => e = .returned (.int .u64 x) ∧ w' = w.setCell a (.int .u64 y) := by
  have hl := run_call_swap (P := Try.prog) Try.func74 (by kernel_rfl) (by kernel_rfl) (by kernel_rfl) .u64 (by kernel_rfl) (y := y) hc hz
  go_enter Try.func53, Try.ntmps53
  go_wp2
  go_ret
  exact ⟨rfl, rfl⟩
theorem Tal.ne {w : World} {g lb : Nat} {N : Option Addr} {cn : Nat} {ns : List ByteArray} {xs : List Int} (hT : Tal w g lb N cn ns xs) : g ≠ lb := by
  rintro rfl
  obtain ⟨d, mo, hB, _⟩ := hT.t
  have h2 := hT.c
  rw [show w.heap[g]? = _ from hB] at h2
  simp at h2
theorem Tal.set {w : World} {g lb : Nat} {N : Option Addr} {cn : Nat} {ns : List ByteArray} {xs : List Int} (hT : Tal w g lb N cn ns xs) (i : Nat) (v : Int) : Tal (w.setCell ⟨lb, i, none⟩ (.int .u64 v)) g lb N cn ns (xs.set i v) ∧ Fr (only lb) w (w.setCell ⟨lb, i, none⟩ (.int .u64 v)) := by
  have hf : Fr (only lb) w (w.setCell ⟨lb, i, none⟩ (.int .u64 v)) := (Fr.refl (only lb) w).setCell (p := ⟨lb, i, none⟩) (.inl rfl) _
  obtain ⟨d, mo, hB, hor⟩ := hT.t
  refine ⟨⟨⟨d, mo, hf.blk hB (fun e => hT.ne e), ?_⟩, CS_fr hT.n hf ?_, ?_, by rw [List.length_set]; exact hT.len, hT.few, hT.size⟩, hf⟩
  · rcases hor with h | ⟨h1, bm, h2, hM⟩
    · exact .inl h
    · exact .inr ⟨h1, bm, h2, MapB.setCell hM (MapB.ne hM hT.c) _⟩
  · rintro ad rfl hn hg
    obtain ⟨ad', e, hx⟩ := strAt hT.n 0 hn
    cases e
    have h2 : w.cell? ad = some (.string (rdOf ByteArray.empty ns ((0 : Nat) : Int))) := hx
    obtain ⟨b, o, s⟩ := ad
    have hb : b = lb := hg
    subst hb
    have hs : s = none := by simpa using World.cell?_spot h2
    subst hs
    have h3 := (blk_cell hT.c o).symm.trans h2
    simp [List.getElem?_map] at h3
  · have h := blk_put hT.c i (.int .u64 v) (cs' := ((xs.set i v).map (Value.int .u64)).toArray) (by
      apply Array.ext'
      simp [List.map_set])
    exact h
theorem Tal.cell {w : World} {g lb : Nat} {N : Option Addr} {cn : Nat} {ns : List ByteArray} {xs : List Int} (hT : Tal w g lb N cn ns xs) (i : Nat) (hi : i < ns.length) : w.cell? ⟨lb, i, none⟩ = some (.int .u64 (rd xs i)) ∧ w.frozen? ⟨lb, i, none⟩ = false := by
  refine ⟨(blk_cell hT.c i).trans ?_, blk_frozen hT.c i⟩
  have hl := hT.len
  simp [rd, List.getD_eq_getElem?_getD, List.getElem?_eq_getElem (show i < xs.length by omega)]
/-! ### Get, Add, Take, Most -/
theorem fr_two {g lb : Nat} {w w1 w2 : World} (h : Fr (only g) w w1) (k : Fr (only lb) w1 w2) : Fr (fun i => i = g ∨ i = lb) w w2 :=
  (h.mono (S' := fun i => i = g ∨ i = lb) (fun i hi => .inl hi)).then_ k (fun i hi => .inl (.inr hi))
theorem fr_one {g lb : Nat} {w w1 : World} (h : Fr (only g) w w1) : Fr (fun i => i = g ∨ i = lb) w w1 := h.mono (fun i hi => .inl hi)
section
variable (w : World) (g lb : Nat) (N : Option Addr) (cn : Nat) (ns : List ByteArray) (xs : List Int) (s : ByteArray)
theorem t_get (hT : Tal w g lb N cn ns xs) (hs : s.size ≤ 1000) (i : Nat) (hi : At ns s i) : Calls Try.prog 23 #[.pointer (some ⟨g, 0, none⟩), .string s] w fun e w' => e = .returned (.int .u64 (rd xs i)) ∧ Tal w' g lb N cn ns xs ∧ Fr (fun i => i = g ∨ i = lb) w w' := by
  have HC := Aside0.mk (t_counter w g lb N cn ns xs hT s hs _ (.inr ⟨i, hi, rfl⟩))
  have HI := Aside0.mk hi.1
  clear hT hs hi
  go_enter Try.func23, Try.ntmps23
  go_wp2_with (first | (go_at_call 49; go_must (refine HC.out.mono ?_; rintro e w1 ⟨rfl, hT1, hf1⟩; have HX := Aside0.mk (And.intro hT1 hf1); clear hT1 hf1)) | (go_at_call 51; go_must (refine (a_load _ _ _ (HX.out.1.cell i HI.out).1).mono ?_; rintro e w2 ⟨rfl, rfl⟩)))
  go_ret
  exact ⟨rfl, HX.out.1, fr_one HX.out.2⟩
theorem t_get_not (hT : Tal w g lb N cn ns xs) (hs : s.size ≤ 1000) (hn : NotAt ns s) : Calls Try.prog 23 #[.pointer (some ⟨g, 0, none⟩), .string s] w fun e w' => e = .returned (.int .u64 0) ∧ Tal w' g lb N cn ns xs ∧ Fr (fun i => i = g ∨ i = lb) w w' := by
  have HC := Aside0.mk (t_counter w g lb N cn ns xs hT s hs _ (.inl ⟨hn, rfl⟩))
  clear hT hs hn
  go_enter Try.func23, Try.ntmps23
  go_wp2_with (go_at_call 49; go_must (refine HC.out.mono ?_; rintro e w1 ⟨rfl, hT1, hf1⟩; have HX := Aside0.mk (And.intro hT1 hf1); clear hT1 hf1))
  go_ret
  exact ⟨rfl, HX.out.1, fr_one HX.out.2⟩
theorem t_add (hT : Tal w g lb N cn ns xs) (hs : s.size ≤ 1000) (y : Int) (i : Nat) (hi : At ns s i) : Calls Try.prog 20 #[.pointer (some ⟨g, 0, none⟩), .string s, .int .u64 y] w fun e w' => e = .returned (.bool true) ∧ Tal w' g lb N cn ns (xs.set i (IntKind.u64.wrap (rd xs i + y))) ∧ Fr (fun i => i = g ∨ i = lb) w w' := by
  have HC := Aside0.mk (t_counter w g lb N cn ns xs hT s hs _ (.inr ⟨i, hi, rfl⟩))
  have HI := Aside0.mk hi.1
  clear hT hs hi
  go_enter Try.func20, Try.ntmps20
  go_wp2_with (first | (go_at_call 49; go_must (refine HC.out.mono ?_; rintro e w1 ⟨rfl, hT1, hf1⟩; have HX := Aside0.mk (And.intro hT1 hf1); clear hT1 hf1)) | (go_at_call 50; go_must (refine (a_add _ _ _ y (HX.out.1.cell i HI.out).1 (HX.out.1.cell i HI.out).2).mono ?_; rintro e w2 ⟨⟨v, rfl⟩, rfl⟩)))
  go_ret
  exact ⟨rfl, (HX.out.1.set i _).1, fr_two HX.out.2 (HX.out.1.set i _).2⟩
theorem t_add_not (hT : Tal w g lb N cn ns xs) (hs : s.size ≤ 1000) (y : Int) (hn : NotAt ns s) : Calls Try.prog 20 #[.pointer (some ⟨g, 0, none⟩), .string s, .int .u64 y] w fun e w' => e = .returned (.bool false) ∧ Tal w' g lb N cn ns xs ∧ Fr (fun i => i = g ∨ i = lb) w w' := by
  have HC := Aside0.mk (t_counter w g lb N cn ns xs hT s hs _ (.inl ⟨hn, rfl⟩))
  clear hT hs hn
  go_enter Try.func20, Try.ntmps20
  go_wp2_with (go_at_call 49; go_must (refine HC.out.mono ?_; rintro e w1 ⟨rfl, hT1, hf1⟩; have HX := Aside0.mk (And.intro hT1 hf1); clear hT1 hf1))
  go_ret
  exact ⟨rfl, HX.out.1, fr_one HX.out.2⟩
theorem t_take (hT : Tal w g lb N cn ns xs) (hs : s.size ≤ 1000) (i : Nat) (hi : At ns s i) : Calls Try.prog 22 #[.pointer (some ⟨g, 0, none⟩), .string s] w fun e w' => e = .returned (.int .u64 (rd xs i)) ∧ Tal w' g lb N cn ns (xs.set i 0) ∧ Fr (fun i => i = g ∨ i = lb) w w' := by
  have HC := Aside0.mk (t_counter w g lb N cn ns xs hT s hs _ (.inr ⟨i, hi, rfl⟩))
  have HI := Aside0.mk hi.1
  clear hT hs hi
  go_enter Try.func22, Try.ntmps22
  go_wp2_with (first | (go_at_call 49; go_must (refine HC.out.mono ?_; rintro e w1 ⟨rfl, hT1, hf1⟩; have HX := Aside0.mk (And.intro hT1 hf1); clear hT1 hf1)) | (go_at_call 53; go_must (refine (a_swap _ _ _ 0 (HX.out.1.cell i HI.out).1 (HX.out.1.cell i HI.out).2).mono ?_; rintro e w2 ⟨rfl, rfl⟩)))
  go_ret
  exact ⟨rfl, (HX.out.1.set i _).1, fr_two HX.out.2 (HX.out.1.set i _).2⟩
theorem t_take_not (hT : Tal w g lb N cn ns xs) (hs : s.size ≤ 1000) (hn : NotAt ns s) : Calls Try.prog 22 #[.pointer (some ⟨g, 0, none⟩), .string s] w fun e w' => e = .returned (.int .u64 0) ∧ Tal w' g lb N cn ns xs ∧ Fr (fun i => i = g ∨ i = lb) w w' := by
  have HC := Aside0.mk (t_counter w g lb N cn ns xs hT s hs _ (.inl ⟨hn, rfl⟩))
  clear hT hs hn
  go_enter Try.func22, Try.ntmps22
  go_wp2_with (go_at_call 49; go_must (refine HC.out.mono ?_; rintro e w1 ⟨rfl, hT1, hf1⟩; have HX := Aside0.mk (And.intro hT1 hf1); clear hT1 hf1))
  go_ret
  exact ⟨rfl, HX.out.1, fr_one HX.out.2⟩
end
section
variable (w : World) (g lb : Nat) (N : Option Addr) (cn : Nat) (ns : List ByteArray) (xs : List Int) (s : ByteArray)
theorem t_most_not (hT : Tal w g lb N cn ns xs) (hs : s.size ≤ 1000) (y : Int) (hn : NotAt ns s) : Calls Try.prog 21 #[.pointer (some ⟨g, 0, none⟩), .string s, .int .u64 y] w fun e w' => e = .returned (.bool false) ∧ Tal w' g lb N cn ns xs ∧ Fr (fun i => i = g ∨ i = lb) w w' := by
  have HC := Aside0.mk (t_counter w g lb N cn ns xs hT s hs _ (.inl ⟨hn, rfl⟩))
  clear hT hs hn
  go_enter Try.func21, Try.ntmps21
  go_wp2_with (go_at_call 49; go_must (refine HC.out.mono ?_; rintro e w1 ⟨rfl, hT1, hf1⟩; have HX := Aside0.mk (And.intro hT1 hf1); clear hT1 hf1))
  go_ret
  exact ⟨rfl, HX.out.1, fr_one HX.out.2⟩
theorem t_most (hT : Tal w g lb N cn ns xs) (hs : s.size ≤ 1000) (y : Int) (i : Nat) (hi : At ns s i) : Calls Try.prog 21 #[.pointer (some ⟨g, 0, none⟩), .string s, .int .u64 y] w fun e w' => e = .returned (.bool true) ∧ Tal w' g lb N cn ns (xs.set i (max (rd xs i) y)) ∧ Fr (fun i => i = g ∨ i = lb) w w' := by
  have HC := Aside0.mk (t_counter w g lb N cn ns xs hT s hs _ (.inr ⟨i, hi, rfl⟩))
  have HI := Aside0.mk hi.1
  have hlen := hT.len
  have hself : xs.set i (rd xs i) = xs := by
    apply List.ext_getElem (by simp)
    intro j h1 h2
    by_cases e : i = j
    · subst e; simp [rd, h2]
    · simp [e]
  have HSelf := Aside0.mk hself
  clear hT hs hi hself hlen
  by_cases hy : rd xs i < y
  · have hM := Aside0.mk (show max (rd xs i) y = y by omega)
    rw [hM.out]
    have hd : decide (rd xs i < y) = true := decide_eq_true hy
    have hd2 : decide (y < y) = false := decide_eq_false (by omega)
    clear hM
    go_enter Try.func21, Try.ntmps21
    go_wp2_with (first | (go_at_call 49; go_must (refine HC.out.mono ?_; rintro e w1 ⟨rfl, hT1, hf1⟩; have HX := Aside0.mk (And.intro hT1 hf1); clear hT1 hf1)) | (go_at_call 51; go_must (refine (a_load _ _ _ (HX.out.1.cell i HI.out).1).mono ?_; rintro e w2 ⟨rfl, rfl⟩)))
    refine wp_loop_rounds 1 ?_
    rw [rounds_succ]
    go_wp2_with (go_at_call 52; go_must (refine (a_cas _ _ _ y (HX.out.1.cell i HI.out).1 (HX.out.1.cell i HI.out).2).mono ?_; rintro e w2 ⟨rfl, rfl⟩))
    go_ret
    exact ⟨rfl, (HX.out.1.set i _).1, fr_two HX.out.2 (HX.out.1.set i _).2⟩
  · have hM := Aside0.mk (show max (rd xs i) y = rd xs i by omega)
    rw [hM.out, HSelf.out]
    have hd : decide (rd xs i < y) = false := decide_eq_false hy
    clear hM
    go_enter Try.func21, Try.ntmps21
    go_wp2_with (first | (go_at_call 49; go_must (refine HC.out.mono ?_; rintro e w1 ⟨rfl, hT1, hf1⟩; have HX := Aside0.mk (And.intro hT1 hf1); clear hT1 hf1)) | (go_at_call 51; go_must (refine (a_load _ _ _ (HX.out.1.cell i HI.out).1).mono ?_; rintro e w2 ⟨rfl, rfl⟩)))
    refine wp_loop_rounds 1 ?_
    rw [rounds_succ]
    go_wp2
    go_ret
    exact ⟨rfl, HX.out.1, fr_one HX.out.2⟩
end
end Go.Proofs.Ytclpkbgjaiacpaa
