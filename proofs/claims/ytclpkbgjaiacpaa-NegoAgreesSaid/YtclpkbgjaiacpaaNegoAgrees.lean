/- What is proved: for every input the Go function vitrinelaw10.NegoAgrees returns true and leaves its arguments as they read before. Conditions: none beyond the row's own. -/
import Derived.Test.YtclpkbgjaiacpaaRows
import Derived.Test.YtclpkbgjaiacpaaOpens
import Derived.Test.YtclpkbgjaiacpaaNegoG
import Derived.WalkKit
import Derived.ProofKit
import Derived.OpenShut
import Derived.ShutString
import Derived.ChangeOld
import Derived.Below
import Derived.SizedLaws
namespace Go.Proofs.Ytclpkbgjaiacpaa.negoAgrees
open Go.ChangeShapes Go.WideShapes Go.ChangeAt Go.RowKit Go.Joins
open Go.ChangeMaps (open_string shut_string)
open Go.Proofs.YtclpkbgjaiacpaaW.PrintWords
set_option linter.unusedVariables false
theorem own : ownKnob Try.prog.godebug = none := by kernel_rfl
theorem laidOut : laidOutB Try.prog = true := by kernel_rfl
theorem cells51 : Try.prog.cellsOf 51 = 3 := by kernel_rfl
theorem cells5 : Try.prog.cellsOf 5 = 1 := by kernel_rfl
theorem bytes5 : Try.prog.bytesOf 5 = 1 := by kernel_rfl
set_option maxRecDepth 100000 in
theorem lifted (os : Os) (started : os.Started) (H : Type) (enc : TypeId × Value → H) :
    ReturnsInHanded {} Try.checked os 7 .any (Rows.negoAgreesSpec.pre6 enc Try.prog Try.f7 Rows.negoAgreesRow.domain false) (Rows.negoAgreesSpec.post enc Try.prog Try.f7 false true false false) := by
  refine returnsInHanded_of_change_sized (C := Try.checked) own started (by kernel_rfl) Try.func7
    (ChangeSpec.witness6 (enc := enc) (C := Try.checked) false ⟨#[], #[.agg #[.string ByteArray.empty, .string ByteArray.empty, .slice none 0 0], .slice none 0 0, .string ByteArray.empty, .bool false], []⟩ 8 (by kernel_rfl) (by kernel_rfl) (by kernel_rfl) (by kernel_rfl)) ?_
  intro W base args ds gs before hval0 hW hcnd hsz0 _
  have hsz : (DataW.weightsEach Try.prog (Try.f7.params.toList ++ Rows.negoAgreesSpec.plain.varTypes Try.prog) (ds ++ gs)).all (· ≤ reachBytes) = true := hsz0
  have hval : ∀ (j : Nat) t v, Try.f7.params[j]? = some t → args[j]? = some v → Value.okWide Try.prog W .any base t v := hval0
  have hW' := hW
  obtain ⟨p, q, hA0, hV, rfl, hfz, hnd⟩ := hW
  have hA : DataW.TrodAll enc Try.prog W 0 (fun _ => true) true Try.f7.params.toList args.toList ds p := hA0
  rw [Try.params7] at hA hval hsz
  obtain ⟨v0, vs0, d0, ds0, p0, q0, hargs, rfl, rfl, h0, r0⟩ := trodAll_cons hA
  obtain ⟨v1, vs1, d1, ds1, p1, q1, rfl, rfl, rfl, h1, r1⟩ := trodAll_cons r0
  obtain ⟨v2, vs2, d2, ds2, p2, q2, rfl, rfl, rfl, h2, r2⟩ := trodAll_cons r1
  obtain ⟨v3, vs3, d3, ds3, p3, q3, rfl, rfl, rfl, h3, r3⟩ := trodAll_cons r2
  obtain ⟨rfl, rfl, rfl⟩ := trodAll_nil r3
  obtain rfl : args = #[v0, v1, v2, v3] := by cases args; simp_all
  obtain ⟨rfl, rfl⟩ := trodVars_none hV
  have k0 := h0
  have k1 := h1
  have lt0 : ∀ x ∈ p0, x.block < W.heap.size := by obtain ⟨m, hm⟩ := k0; exact DataW.trod_lt m _ _ _ hm
  have lt1 : ∀ x ∈ p1, x.block < W.heap.size := by obtain ⟨m, hm⟩ := k1; exact DataW.trod_lt m _ _ _ hm
  obtain ⟨c0, c1, c2, y0, y1, y2, m, rfl, rfl, rfl, hy0, hy1, hy2⟩ := open_agg3 Try.underlying51 (by kernel_rfl) cells51 (hval 0 51 v0 rfl rfl) h0
  obtain ⟨a1, len1, cap1, rfl⟩ := okWide_slice Try.underlying49 (hval 1 49 v1 rfl rfl)
  obtain ⟨a2, rfl, rfl, rfl, hmx⟩ := open_string Try.underlying9 (hval 2 9 v2 rfl rfl) h2
  obtain ⟨a3, rfl, rfl, rfl⟩ := open_bool Try.underlying4 (hval 3 4 v3 rfl rfl) h3
  simp only [DataW.weightsEach, List.append_nil, List.cons_append, List.nil_append, List.all_append, Bool.and_eq_true] at hsz
  obtain ⟨z0, z1, z2, _⟩ := hsz
  simp only [DataW.weights, Try.underlying51, DataW.weightsEach, List.map_cons, List.map_nil, List.append_nil, List.all_append, Bool.and_eq_true] at z0
  obtain ⟨z00, z01, z02⟩ := z0
  obtain ⟨s0, hs0, _⟩ := opens_string Try.underlying9 H enc W _ _ m [c0] y0 hy0 z00
  obtain ⟨s1, hs1, _⟩ := opens_string Try.underlying9 H enc W _ _ m [c1] y1 hy1 z01
  obtain ⟨A, n, c, fl, hs2, hn, _, hC, _, hrg⟩ := opens_row (k := Kd.int .u8) Try.underlying49 cells5 bytes5 (opens_int Try.underlying5) hy2 z02
  obtain rfl : c0 = .string s0 := List.head_eq_of_cons_eq hs0
  obtain rfl : c1 = .string s1 := List.head_eq_of_cons_eq hs1
  obtain rfl : c2 = .slice A n c := List.head_eq_of_cons_eq hs2
  obtain ⟨fuel, hf⟩ := h1
  obtain ⟨B, n2, c22, hl, hs3, hn2, _, hL, hLs, _⟩ := opens_row (k := Kd.int .u8) Try.underlying49 cells5 bytes5 (opens_int Try.underlying5) hf z1
  have hs4 : Value.slice a1 len1 cap1 = .slice B n2 c22 := List.head_eq_of_cons_eq hs3
  injection hs4 with e1 e2 e3
  subst e1 e2 e3
  have hlen : hl.length = len1 := hL.1
  clear hA0 hval0 hsz0
  refine (agrees_walk W s0 s1 A n c fl a1 len1 cap1 hl a2 a3 hC hn hL hn2 (by omega) (fun x hx => by have := hrg x hx; simp [Lit.wf] at this; have e1 : IntKind.u8.min = 0 := rfl; have e2 : IntKind.u8.max = 255 := rfl; omega)).mono fun e W' ⟨he, bel⟩ => ?_
  subst he
  exact ⟨_, rfl, _, _, _, [], _, [], hW', trodAll_mk1 (shut_bool Try.underlying4 _), (trodAll_cons_mk (Below.trod laidOut (by kernel_rfl) (of_decide_eq_true (by kernel_rfl)) k0 bel lt0) (trodAll_cons_mk (Below.trod laidOut (by kernel_rfl) (of_decide_eq_true (by kernel_rfl)) k1 bel lt1) (trodAll_cons_mk (shut_string Try.underlying9 hmx) (trodAll_cons_mk (shut_bool Try.underlying4 _) trodAll_mk0)))), rfl, bel.frame _, fun h => by cases h⟩
theorem over : Rows.negoAgreesRow.holds Try.pinned (OpenSpec.ofChange Rows.negoAgreesSpec) :=
  OpenClaim.holds_of_wide 7 Try.f7 rfl rfl rfl rfl rfl rfl rfl ⟨rfl, rfl, rfl, rfl, rfl⟩ rfl rfl rfl rfl rfl (by kernel_rfl) Try.func7 (by kernel_rfl)
    (of_decide_eq_true (by kernel_rfl)) (by unfold Func.isWrapper; first | (rw [if_pos (by decide +kernel)]; kernel_rfl) | (rw [if_neg (by decide +kernel)]; exact ⟨rfl, rfl⟩))
    (fun os started H enc _ => lifted os started H enc)
theorem proved : Rows.NegoAgreesSaid := over
#print axioms proved
end Go.Proofs.Ytclpkbgjaiacpaa.negoAgrees
namespace Go.Proofs.Ytclpkbgjaiacpaa
/-- The row, under a short name, for the claim. -/
theorem negoAgrees_holds : Rows.NegoAgreesSaid := negoAgrees.proved
end Go.Proofs.Ytclpkbgjaiacpaa
