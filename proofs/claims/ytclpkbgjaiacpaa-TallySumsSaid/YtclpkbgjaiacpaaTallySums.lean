/- What is proved: for every input the Go function vitrinelaw03.TallySums returns true and leaves its arguments as they read before. Conditions: none beyond the row's own. -/
import Derived.Test.YtclpkbgjaiacpaaRows
import Derived.Test.YtclpkbgjaiacpaaOpensB
import Derived.Test.YtclpkbgjaiacpaaTallyS
import Derived.WalkKit
import Derived.ProofKit
import Derived.OpenShut
import Derived.ShutString
import Derived.ChangeOld
import Derived.Below
import Derived.SizedLaws
namespace Go.Proofs.Ytclpkbgjaiacpaa.tallySums
open Go.ChangeShapes Go.WideShapes Go.ChangeAt Go.RowKit Go.Joins
open Go.ChangeMaps (open_string shut_string)
open Go.Proofs.YtclpkbgjaiacpaaW.PrintWords
set_option linter.unusedVariables false
theorem own : ownKnob Try.prog.godebug = none := by kernel_rfl
theorem laidOut : laidOutB Try.prog = true := by kernel_rfl
theorem cells9 : Try.prog.cellsOf 9 = 1 := by kernel_rfl
theorem bytes9 : Try.prog.bytesOf 9 = 16 := by kernel_rfl
theorem cells5 : Try.prog.cellsOf 5 = 1 := by kernel_rfl
theorem cells33 : Try.prog.cellsOf 33 = 1 := by kernel_rfl
theorem cells35 : Try.prog.cellsOf 35 = 3 := by kernel_rfl
theorem bytes35 : Try.prog.bytesOf 35 = 32 := by kernel_rfl
theorem opensOp : Opens Try.prog 35 opK (fun y => (Lit.int .u8 y.1).wf = true ∧ y.2.1.size ≤ 140737488351232 ∧ (Lit.int .u64 y.2.2).wf = true) :=
  opens_struct3 (k0 := Kd.int .u8) (k1 := Kd.string) (k2 := Kd.int .u64) Try.underlying35 cells35 rfl rfl rfl cells5 cells9 cells33 (opens_int Try.underlying5) (opens_string Try.underlying9) (opens_int Try.underlying33)
theorem u8_range {x : Int} (h : (Lit.int .u8 x).wf = true) : 0 ≤ x ∧ x < 256 := by
  simp [Lit.wf] at h
  have e1 : IntKind.u8.min = 0 := rfl
  have e2 : IntKind.u8.max = 255 := rfl
  omega
set_option maxRecDepth 100000 in
theorem lifted (os : Os) (started : os.Started) (H : Type) (enc : TypeId × Value → H) :
    ReturnsInHanded {} Try.checked os 4 .any (Rows.tallySumsSpec.pre6 enc Try.prog Try.f4 Rows.tallySumsRow.domain false) (Rows.tallySumsSpec.post enc Try.prog Try.f4 false true false false) := by
  refine returnsInHanded_of_change_sized (C := Try.checked) own started (by kernel_rfl) Try.func4
    (ChangeSpec.witness6 (enc := enc) (C := Try.checked) false ⟨#[], #[.slice none 0 0, .slice none 0 0, .slice none 0 0, .slice none 0 0], []⟩ 8 (by kernel_rfl) (by kernel_rfl) (by kernel_rfl) (by kernel_rfl)) ?_
  intro W base args ds gs before hval0 hW hcnd hsz0 _
  have hsz : (DataW.weightsEach Try.prog (Try.f4.params.toList ++ Rows.tallySumsSpec.plain.varTypes Try.prog) (ds ++ gs)).all (· ≤ reachBytes) = true := hsz0
  have hval : ∀ (j : Nat) t v, Try.f4.params[j]? = some t → args[j]? = some v → Value.okWide Try.prog W .any base t v := hval0
  have hW' := hW
  obtain ⟨p, q, hA0, hV, rfl, hfz, hnd⟩ := hW
  have hA : DataW.TrodAll enc Try.prog W 0 (fun _ => true) true Try.f4.params.toList args.toList ds p := hA0
  rw [Try.params4] at hA hval hsz
  obtain ⟨v0, vs0, d0, ds0, p0, q0, hargs, rfl, rfl, h0, r0⟩ := trodAll_cons hA
  obtain ⟨v1, vs1, d1, ds1, p1, q1, rfl, rfl, rfl, h1, r1⟩ := trodAll_cons r0
  obtain ⟨v2, vs2, d2, ds2, p2, q2, rfl, rfl, rfl, h2, r2⟩ := trodAll_cons r1
  obtain ⟨v3, vs3, d3, ds3, p3, q3, rfl, rfl, rfl, h3, r3⟩ := trodAll_cons r2
  obtain ⟨rfl, rfl, rfl⟩ := trodAll_nil r3
  obtain rfl : args = #[v0, v1, v2, v3] := by cases args; simp_all
  obtain ⟨rfl, rfl⟩ := trodVars_none hV
  have k0 := h0
  have k1 := h1
  have k2 := h2
  have k3 := h3
  have lt0 : ∀ x ∈ p0, x.block < W.heap.size := by obtain ⟨m, hm⟩ := k0; exact DataW.trod_lt m _ _ _ hm
  have lt1 : ∀ x ∈ p1, x.block < W.heap.size := by obtain ⟨m, hm⟩ := k1; exact DataW.trod_lt m _ _ _ hm
  have lt2 : ∀ x ∈ p2, x.block < W.heap.size := by obtain ⟨m, hm⟩ := k2; exact DataW.trod_lt m _ _ _ hm
  have lt3 : ∀ x ∈ p3, x.block < W.heap.size := by obtain ⟨m, hm⟩ := k3; exact DataW.trod_lt m _ _ _ hm
  obtain ⟨a0, len0, cap0, rfl⟩ := okWide_slice Try.underlying22 (hval 0 22 v0 rfl rfl)
  obtain ⟨a1, len1, cap1, rfl⟩ := okWide_slice Try.underlying22 (hval 1 22 v1 rfl rfl)
  obtain ⟨a2, len2, cap2, rfl⟩ := okWide_slice Try.underlying23 (hval 2 23 v2 rfl rfl)
  obtain ⟨a3, len3, cap3, rfl⟩ := okWide_slice Try.underlying23 (hval 3 23 v3 rfl rfl)
  simp only [DataW.weightsEach, List.append_nil, List.cons_append, List.nil_append, List.all_append, Bool.and_eq_true] at hsz
  obtain ⟨z0, z1, z2, z3, _⟩ := hsz
  obtain ⟨fuel0, hf0⟩ := h0
  obtain ⟨fuel1, hf1⟩ := h1
  obtain ⟨fuel2, hf2⟩ := h2
  obtain ⟨fuel3, hf3⟩ := h3
  obtain ⟨A, n, c, l, hs0, hn, _, hC, hls, _⟩ := opens_row (k := Kd.string) Try.underlying22 cells9 bytes9 (opens_string Try.underlying9) hf0 z0
  obtain ⟨A', n', c', l', hs1, hn', _, hC', hls', _⟩ := opens_row (k := Kd.string) Try.underlying22 cells9 bytes9 (opens_string Try.underlying9) hf1 z1
  obtain ⟨B, m, cm, ops, hs2, _, _, hL, hLs, hLr⟩ := opens_row (k := opK) Try.underlying23 cells35 bytes35 opensOp hf2 z2
  obtain ⟨B', m', cm', ops', hs3, _, _, hL', hLs', hLr'⟩ := opens_row (k := opK) Try.underlying23 cells35 bytes35 opensOp hf3 z3
  have hx0 : Value.slice a0 len0 cap0 = .slice A n c := List.head_eq_of_cons_eq hs0
  injection hx0 with e1 e2 e3
  subst e1 e2 e3
  have hx1 : Value.slice a1 len1 cap1 = .slice A' n' c' := List.head_eq_of_cons_eq hs1
  injection hx1 with e1 e2 e3
  subst e1 e2 e3
  have hx2 : Value.slice a2 len2 cap2 = .slice B m cm := List.head_eq_of_cons_eq hs2
  injection hx2 with e1 e2 e3
  subst e1 e2 e3
  have hx3 : Value.slice a3 len3 cap3 = .slice B' m' cm' := List.head_eq_of_cons_eq hs3
  injection hx3 with e1 e2 e3
  subst e1 e2 e3
  have hlen : l.length = len0 := hC.1
  have hlen1 : l'.length = len1 := hC'.1
  have hlen2 : ops.length = len2 := hL.1
  have hlen3 : ops'.length = len3 := hL'.1
  clear hA0 hval0 hsz0
  have hwalk : Calls Try.prog 4 #[.slice a0 len0 cap0, .slice a1 len1 cap1, .slice a2 len2 cap2, .slice a3 len3 cap3] W fun e w' => e = .returned (.bool true) ∧ Below W.heap.size W w' := by
    by_cases hcode : codeN (fewN l) = 0
    · by_cases hcode2 : codeN (fewN l') = 0
      · exact sums_good W a0 len0 cap0 l a1 len1 cap1 l' a2 len2 cap2 ops a3 len3 cap3 ops' hC hn (by omega) hC' hn' (by omega) hL (by omega) (fun q hq => (u8_range (hLr q hq).1).1) hL' (by omega) (fun q hq => (u8_range (hLr' q hq).1).1) hcode hcode2
      · exact sums_bad2 W a0 len0 cap0 l a1 len1 cap1 l' a2 len2 cap2 ops a3 len3 cap3 ops' hC hn (by omega) hC' hn' (by omega) hL (by omega) (fun q hq => (u8_range (hLr q hq).1).1) hL' (by omega) (fun q hq => (u8_range (hLr' q hq).1).1) hcode hcode2
    · exact sums_bad1 W a0 len0 cap0 l a1 len1 cap1 l' a2 len2 cap2 ops a3 len3 cap3 ops' hC hn (by omega) hC' hn' (by omega) hL (by omega) (fun q hq => (u8_range (hLr q hq).1).1) hL' (by omega) (fun q hq => (u8_range (hLr' q hq).1).1) hcode
  refine hwalk.mono fun e W' ⟨he, bel⟩ => ?_
  subst he
  exact ⟨_, rfl, _, _, _, [], _, [], hW', trodAll_mk1 (shut_bool Try.underlying4 _), (trodAll_cons_mk (Below.trod laidOut (by kernel_rfl) (of_decide_eq_true (by kernel_rfl)) k0 bel lt0) (trodAll_cons_mk (Below.trod laidOut (by kernel_rfl) (of_decide_eq_true (by kernel_rfl)) k1 bel lt1) (trodAll_cons_mk (Below.trod laidOut (by kernel_rfl) (of_decide_eq_true (by kernel_rfl)) k2 bel lt2) (trodAll_cons_mk (Below.trod laidOut (by kernel_rfl) (of_decide_eq_true (by kernel_rfl)) k3 bel lt3) trodAll_mk0)))), rfl, bel.frame _, fun h => by cases h⟩
theorem over : Rows.tallySumsRow.holds Try.pinned (OpenSpec.ofChange Rows.tallySumsSpec) :=
  OpenClaim.holds_of_wide 4 Try.f4 rfl rfl rfl rfl rfl rfl rfl ⟨rfl, rfl, rfl, rfl, rfl⟩ rfl rfl rfl rfl rfl (by kernel_rfl) Try.func4 (by kernel_rfl)
    (of_decide_eq_true (by kernel_rfl)) (by unfold Func.isWrapper; first | (rw [if_pos (by decide +kernel)]; kernel_rfl) | (rw [if_neg (by decide +kernel)]; exact ⟨rfl, rfl⟩))
    (fun os started H enc _ => lifted os started H enc)
theorem proved : Rows.TallySumsSaid := over
#print axioms proved
end Go.Proofs.Ytclpkbgjaiacpaa.tallySums
namespace Go.Proofs.Ytclpkbgjaiacpaa
/-- The row, under a short name, for the claim. -/
theorem tallySums_holds : Rows.TallySumsSaid := tallySums.proved
end Go.Proofs.Ytclpkbgjaiacpaa
