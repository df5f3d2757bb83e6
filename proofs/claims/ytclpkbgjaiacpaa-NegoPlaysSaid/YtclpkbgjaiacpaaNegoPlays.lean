/- What is proved: for every input the Go function vitrinelaw10.NegoPlays returns true and leaves its arguments as they read before. Conditions: none beyond the row's own. -/
import Derived.Test.YtclpkbgjaiacpaaRows
import Derived.Test.YtclpkbgjaiacpaaOpensB
import Derived.Test.YtclpkbgjaiacpaaNegoL
import Derived.WalkKit
import Derived.ProofKit
import Derived.OpenShut
import Derived.ShutString
import Derived.ChangeOld
import Derived.Below
import Derived.SizedLaws
namespace Go.Proofs.Ytclpkbgjaiacpaa.negoPlays
open Go.ChangeShapes Go.WideShapes Go.ChangeAt Go.RowKit Go.Joins
open Go.ChangeMaps (open_string shut_string)
open Go.Proofs.YtclpkbgjaiacpaaW.PrintWords
set_option linter.unusedVariables false
theorem own : ownKnob Try.prog.godebug = none := by kernel_rfl
theorem laidOut : laidOutB Try.prog = true := by kernel_rfl
theorem cells51 : Try.prog.cellsOf 51 = 3 := by kernel_rfl
theorem cells5 : Try.prog.cellsOf 5 = 1 := by kernel_rfl
theorem cells4 : Try.prog.cellsOf 4 = 1 := by kernel_rfl
theorem cells49 : Try.prog.cellsOf 49 = 1 := by kernel_rfl
theorem cells76 : Try.prog.cellsOf 76 = 3 := by kernel_rfl
theorem bytes76 : Try.prog.bytesOf 76 = 32 := by kernel_rfl
theorem bytes5 : Try.prog.bytesOf 5 = 1 := by kernel_rfl
theorem opensOp : Opens Try.prog 76 opT (fun y => True ∧ (Lit.int .u8 y.2.1).wf = true ∧ (y.2.2.length * 1 ≤ 140737488351232 ∧ ∀ x ∈ y.2.2, (Lit.int .u8 x).wf = true)) :=
  opens_struct3 (k0 := Kd.bool) (k1 := Kd.int .u8) (k2 := Kd.slice 5 (Kd.int .u8)) Try.underlying76 cells76 rfl rfl rfl cells4 cells5 cells49 (opens_bool Try.underlying4) (opens_int Try.underlying5) (opens_slice Try.underlying49 cells5 bytes5 (opens_int Try.underlying5))
theorem u8_range {x : Int} (h : (Lit.int .u8 x).wf = true) : 0 ≤ x ∧ x < 256 := by
  simp [Lit.wf] at h
  have e1 : IntKind.u8.min = 0 := rfl
  have e2 : IntKind.u8.max = 255 := rfl
  omega
set_option maxRecDepth 100000 in
theorem lifted (os : Os) (started : os.Started) (H : Type) (enc : TypeId × Value → H) :
    ReturnsInHanded {} Try.checked os 8 .any (Rows.negoPlaysSpec.pre6 enc Try.prog Try.f8 Rows.negoPlaysRow.domain false) (Rows.negoPlaysSpec.post enc Try.prog Try.f8 false true false false) := by
  refine returnsInHanded_of_change_sized (C := Try.checked) own started (by kernel_rfl) Try.func8
    (ChangeSpec.witness6 (enc := enc) (C := Try.checked) false ⟨#[], #[.agg #[.string ByteArray.empty, .string ByteArray.empty, .slice none 0 0], .slice none 0 0], []⟩ 8 (by kernel_rfl) (by kernel_rfl) (by kernel_rfl) (by kernel_rfl)) ?_
  intro W base args ds gs before hval0 hW hcnd hsz0 _
  have hsz : (DataW.weightsEach Try.prog (Try.f8.params.toList ++ Rows.negoPlaysSpec.plain.varTypes Try.prog) (ds ++ gs)).all (· ≤ reachBytes) = true := hsz0
  have hval : ∀ (j : Nat) t v, Try.f8.params[j]? = some t → args[j]? = some v → Value.okWide Try.prog W .any base t v := hval0
  have hW' := hW
  obtain ⟨p, q, hA0, hV, rfl, hfz, hnd⟩ := hW
  have hA : DataW.TrodAll enc Try.prog W 0 (fun _ => true) true Try.f8.params.toList args.toList ds p := hA0
  rw [Try.params8] at hA hval hsz
  obtain ⟨v0, vs0, d0, ds0, p0, q0, hargs, rfl, rfl, h0, r0⟩ := trodAll_cons hA
  obtain ⟨v1, vs1, d1, ds1, p1, q1, rfl, rfl, rfl, h1, r1⟩ := trodAll_cons r0
  obtain ⟨rfl, rfl, rfl⟩ := trodAll_nil r1
  obtain rfl : args = #[v0, v1] := by cases args; simp_all
  obtain ⟨rfl, rfl⟩ := trodVars_none hV
  have k0 := h0
  have k1 := h1
  have lt0 : ∀ x ∈ p0, x.block < W.heap.size := by obtain ⟨m, hm⟩ := k0; exact DataW.trod_lt m _ _ _ hm
  have lt1 : ∀ x ∈ p1, x.block < W.heap.size := by obtain ⟨m, hm⟩ := k1; exact DataW.trod_lt m _ _ _ hm
  obtain ⟨c0, c1, c2, y0, y1, y2, m, rfl, rfl, rfl, hy0, hy1, hy2⟩ := open_agg3 Try.underlying51 (by kernel_rfl) cells51 (hval 0 51 v0 rfl rfl) h0
  obtain ⟨a1, len1, cap1, rfl⟩ := okWide_slice Try.underlying70 (hval 1 70 v1 rfl rfl)
  simp only [DataW.weightsEach, List.append_nil, List.cons_append, List.nil_append, List.all_append, Bool.and_eq_true] at hsz
  obtain ⟨z0, z1, z2, _⟩ := hsz
  simp only [DataW.weights, Try.underlying51, DataW.weightsEach, List.map_cons, List.map_nil, List.append_nil, List.all_append, Bool.and_eq_true] at z0
  obtain ⟨z00, z01, z02⟩ := z0
  obtain ⟨s0, hs0, _⟩ := opens_string Try.underlying9 H enc W _ _ m [c0] y0 hy0 z00
  obtain ⟨s1, hs1, _⟩ := opens_string Try.underlying9 H enc W _ _ m [c1] y1 hy1 z01
  obtain ⟨A, n, c, fl, hs2, hn, _, hC, _, hrg⟩ := opens_row (k := Kd.int .u8) Try.underlying49 cells5 bytes5 (opens_int Try.underlying5) hy2 z02
  obtain rfl : c0 = .string s0 := List.head_eq_of_cons_eq hs0
  obtain rfl : c1 = .string s1 := List.head_eq_of_cons_eq hs1
  obtain rfl : c2 = .slice A n c := List.head_eq_of_cons_eq hs2
  obtain ⟨fuel, hf⟩ := h1
  obtain ⟨B, n2, c22, hl, hs3, hn2, _, hL, hLs, hLr⟩ := opens_row (k := opT) Try.underlying70 cells76 bytes76 opensOp hf z1
  have hs4 : Value.slice a1 len1 cap1 = .slice B n2 c22 := List.head_eq_of_cons_eq hs3
  injection hs4 with e1 e2 e3
  subst e1 e2 e3
  have hlen : hl.length = len1 := hL.1
  clear hA0 hval0 hsz0
  refine (plays_walk W s0 s1 A n c fl a1 len1 cap1 hl hC hn hL (by omega) (fun x hx => u8_range (hrg x hx)) (fun q hq x hx => u8_range ((hLr q hq).2.2.2 x hx))).mono fun e W' ⟨he, bel⟩ => ?_
  subst he
  exact ⟨_, rfl, _, _, _, [], _, [], hW', trodAll_mk1 (shut_bool Try.underlying4 _), (trodAll_cons_mk (Below.trod laidOut (by kernel_rfl) (of_decide_eq_true (by kernel_rfl)) k0 bel lt0) (trodAll_cons_mk (Below.trod laidOut (by kernel_rfl) (of_decide_eq_true (by kernel_rfl)) k1 bel lt1) trodAll_mk0)), rfl, bel.frame _, fun h => by cases h⟩
theorem over : Rows.negoPlaysRow.holds Try.pinned (OpenSpec.ofChange Rows.negoPlaysSpec) :=
  OpenClaim.holds_of_wide 8 Try.f8 rfl rfl rfl rfl rfl rfl rfl ⟨rfl, rfl, rfl, rfl, rfl⟩ rfl rfl rfl rfl rfl (by kernel_rfl) Try.func8 (by kernel_rfl)
    (of_decide_eq_true (by kernel_rfl)) (by unfold Func.isWrapper; first | (rw [if_pos (by decide +kernel)]; kernel_rfl) | (rw [if_neg (by decide +kernel)]; exact ⟨rfl, rfl⟩))
    (fun os started H enc _ => lifted os started H enc)
theorem proved : Rows.NegoPlaysSaid := over
#print axioms proved
end Go.Proofs.Ytclpkbgjaiacpaa.negoPlays
namespace Go.Proofs.Ytclpkbgjaiacpaa
/-- The row, under a short name, for the claim. -/
theorem negoPlays_holds : Rows.NegoPlaysSaid := negoPlays.proved
end Go.Proofs.Ytclpkbgjaiacpaa
