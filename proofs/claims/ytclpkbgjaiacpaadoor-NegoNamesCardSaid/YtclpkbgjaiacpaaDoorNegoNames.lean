/- What is proved: for every input the Go function vitrinelaw10.NegoNames returns true and leaves its arguments as they read before. Conditions: none beyond the row's own; the table of reasons is tied to the program's text by the card. -/
import Derived.Test.YtclpkbgjaiacpaaDoorRows
import Derived.Test.YtclpkbgjaiacpaaDoorTie
import Derived.Test.YtclpkbgjaiacpaaDoorCards
import Derived.Test.YtclpkbgjaiacpaaDoorOpens
import Derived.Test.YtclpkbgjaiacpaaDoorNegoB
import Derived.WalkKit
import Derived.ProofKit
import Derived.LaidMore
import Derived.OpenShut
import Derived.ShutString
import Derived.ChangeOld
import Derived.Below
import Derived.SizedLaws
import Derived.SevenTiedAt
import Derived.Stop.Joined
namespace Go.Proofs.YtclpkbgjaiacpaaDoor.negoNames
open Go.ChangeShapes Go.WideShapes Go.ChangeAt Go.RowKit Go.Joins
open Go.ChangeMaps (open_string shut_string)
open Go.Proofs.YtclpkbgjaiacpaaDoorW.PrintWords
set_option linter.unusedVariables false
theorem own : ownKnob Tryd.prog.godebug = none := by kernel_rfl
theorem laidOut : laidOutB Tryd.prog = true := by kernel_rfl
theorem cells5 : Tryd.prog.cellsOf 5 = 1 := by kernel_rfl
theorem cells9 : Tryd.prog.cellsOf 9 = 1 := by kernel_rfl
theorem bytes5 : Tryd.prog.bytesOf 5 = 1 := by kernel_rfl
def laidR : List (String × DataW Unit) := [("vitrine/nego.reasons", Rows.laid_vitrine_nego_reasons)]
theorem gReasons : Tryd.prog.globalNamed "vitrine/nego.reasons" = some 0 := by kernel_rfl
theorem tReasons : (Tryd.prog.globals[0]?).map (·.type) = some 147 := by kernel_rfl
theorem door_met (os : Os) (args : Array Value) : laidMetH Tryd.prog laidR ((World.doorLaid Tryd.prog 400 os).forCall (fun _ _ => 0) ⟨#[], args, []⟩).memory :=
  laidMetH_of_parts3 (fuel := 8) (laidMet_of_run' 8 (by kernel_rfl) (by kernel_rfl)) (by kernel_rfl) (by kernel_rfl)
theorem reason_data (i : Nat) (hi : i < 8) : ((reasonL.map fun s => (DataW.lit (Lit.string s.data.toList) : DataW Unit))[i]?) = some (DataW.lit (Lit.string (rdOf ByteArray.empty reasonL (i : Int)).data.toList)) := by
  match i, hi with
  | 0, _ | 1, _ | 2, _ | 3, _ | 4, _ | 5, _ | 6, _ | 7, _ => rfl
set_option maxRecDepth 100000 in
/-- What the condition gives the walk: the table's cells. -/
theorem of_laid {W : World} (h : laidMetH Tryd.prog laidR W) : ∀ i : Nat, i < 8 → W.cell? ⟨0, i, none⟩ = some (.string (rdOf ByteArray.empty reasonL (i : Int))) := by
  rw [MakeChecks.laidMetH_plain _ _ _ (by kernel_rfl)] at h
  obtain ⟨ps, ⟨g0, t0, cs0, f0, p0, q0, hg0, ht0, hv0, hd0, _, _⟩, _, _⟩ := h
  obtain rfl := Option.some.inj (gReasons.symm.trans hg0)
  obtain rfl := Option.some.inj (tReasons.symm.trans ht0)
  obtain ⟨xs, m1, rfl, hx1, hlen, hn3, hel⟩ := DataW.trod_array Tryd.underlying147 hd0
  intro i hi
  have h0 := hel i hi
  rw [cells9] at h0
  have hxi : i < xs.length := by omega
  rw [List.getElem?_eq_getElem hxi] at h0
  obtain ⟨s, e1, e2, _⟩ := DataW.trod_string Tryd.underlying9 h0
  simp only [Prod.mk.injEq] at hx1
  have hx2 : (DataW.agg (reasonL.map fun s => (DataW.lit (Lit.string s.data.toList) : DataW Unit))) = .agg (xs.map (·.1)) := hx1.1
  injection hx2 with hx3
  have h4 := reason_data i hi
  rw [hx3, List.getElem?_map, List.getElem?_eq_getElem hxi, Option.map_some, e2] at h4
  have h5 : s.data.toList = (rdOf ByteArray.empty reasonL (i : Int)).data.toList := by
    injection h4 with h6
    injection h6 with h7
    injection h7
  rw [← bytes_inj h5, World.var?_cell hg0 hv0 i]
  rw [Nat.mul_one] at e1
  have h6 : (cs0.toList.drop i).take 1 = [Value.string s] := e1
  have h7 : (cs0.toList.drop i)[0]? = some (Value.string s) := by
    cases hq : cs0.toList.drop i with
    | nil => rw [hq] at h6; cases h6
    | cons a t => rw [hq] at h6; simp at h6; simp [h6]
  rw [List.getElem?_drop] at h7
  simpa using h7
set_option maxRecDepth 100000 in
theorem lifted (os : Os) (started : os.Started) (H : Type) (enc : TypeId × Value → H) :
    ReturnsInHanded {} Tryd.checked os 5 .any (fun w args => (Rows.negoNamesSpec.pre enc Tryd.prog Tryd.f5 [] false w args ∧ laidMetH Tryd.prog laidR w) ∧ sizedMet enc Tryd.prog Tryd.f5 (OpenSpec.ofChange Rows.negoNamesSpec) false w args) (Rows.negoNamesSpec.post enc Tryd.prog Tryd.f5 false true false false) := by
  refine returnsInHanded_of_change_and (C := Tryd.checked) (X := fun w _ => laidMetH Tryd.prog laidR w) (fun _ _ _ hh h => h.of_heap hh) own started (by kernel_rfl) Tryd.func5
    (ChangeSpec.witness_shaped (enc := enc) (C := Tryd.checked) (os := os) (X := fun w _ => laidMetH Tryd.prog laidR w) false (World.doorLaid Tryd.prog 400 os) #[.string ByteArray.empty, .int .u8 0, .slice none 0 0] 8 rfl (World.shaped_of_RefB (by kernel_rfl) (by kernel_rfl)) (by kernel_rfl) (by kernel_rfl) (by kernel_rfl) (door_met os _)) ?_
  intro W base args ds gs before hval0 hW _ hsz0 hL _
  have hsz : (DataW.weightsEach Tryd.prog (Tryd.f5.params.toList ++ Rows.negoNamesSpec.plain.varTypes Tryd.prog) (ds ++ gs)).all (· ≤ reachBytes) = true := hsz0
  have hval : ∀ (j : Nat) t v, Tryd.f5.params[j]? = some t → args[j]? = some v → Value.okWide Tryd.prog W .any base t v := hval0
  have hW' := hW
  obtain ⟨p, q, hA0, hV, rfl, hfz, hnd⟩ := hW
  have hA : DataW.TrodAll enc Tryd.prog W 0 (fun _ => true) true Tryd.f5.params.toList args.toList ds p := hA0
  rw [Tryd.params5] at hA hval hsz
  obtain ⟨v0, vs0, d0, ds0, p0, q0, hargs, rfl, rfl, h0, r0⟩ := trodAll_cons hA
  obtain ⟨v1, vs1, d1, ds1, p1, q1, rfl, rfl, rfl, h1, r1⟩ := trodAll_cons r0
  obtain ⟨v2, vs2, d2, ds2, p2, q2, rfl, rfl, rfl, h2, r2⟩ := trodAll_cons r1
  obtain ⟨rfl, rfl, rfl⟩ := trodAll_nil r2
  obtain rfl : args = #[v0, v1, v2] := by cases args; simp_all
  obtain ⟨rfl, rfl⟩ := trodVars_none hV
  have k2 := h2
  have lt2 : ∀ x ∈ p2, x.block < W.heap.size := by obtain ⟨m, hm⟩ := k2; exact DataW.trod_lt m _ _ _ hm
  obtain ⟨a0, rfl, rfl, rfl, hmx⟩ := open_string Tryd.underlying9 (hval 0 9 v0 rfl rfl) h0
  obtain ⟨a1, rfl, rfl, rfl, w1⟩ := open_int Tryd.underlying5 (hval 1 5 v1 rfl rfl) h1
  obtain ⟨a2, len2, cap2, rfl⟩ := okWide_slice Tryd.underlying33 (hval 2 33 v2 rfl rfl)
  simp only [DataW.weightsEach, List.append_nil, List.cons_append, List.nil_append, List.all_append, Bool.and_eq_true] at hsz
  obtain ⟨z0, z1, z2, _⟩ := hsz
  obtain ⟨fuel, hf⟩ := h2
  obtain ⟨B, n2, c22, hl, hs3, hn2, _, hL2, hLs, _⟩ := opens_row (k := Kd.int .u8) Tryd.underlying33 cells5 bytes5 (opens_int Tryd.underlying5) hf z2
  have hs4 : Value.slice a2 len2 cap2 = .slice B n2 c22 := List.head_eq_of_cons_eq hs3
  injection hs4 with e1 e2 e3
  subst e1 e2 e3
  have hw := w1
  simp [Lit.wf] at hw
  have m1 : IntKind.u8.min = 0 := rfl
  have m2 : IntKind.u8.max = 255 := rfl
  clear hA0 hval0 hsz0
  refine (names_walk W a0 a1 (by omega) (by omega) a2 len2 cap2 hl hL2 hn2 (of_laid hL)).mono fun e W' ⟨he, bel⟩ => ?_
  subst he
  exact ⟨_, rfl, _, _, _, [], _, [], hW', trodAll_mk1 (shut_bool Tryd.underlying4 _), (trodAll_cons_mk (shut_string Tryd.underlying9 hmx) (trodAll_cons_mk (shut_int Tryd.underlying5 w1) (trodAll_cons_mk (Below.trod laidOut (by kernel_rfl) (of_decide_eq_true (by kernel_rfl)) k2 bel lt2) trodAll_mk0))), rfl, bel.frame _, fun h => by cases h⟩
theorem over : Rows.NegoNamesSaid :=
  OpenClaim.holds_of_wide 5 Tryd.f5 rfl rfl rfl rfl rfl rfl rfl ⟨rfl, rfl, rfl, rfl, rfl⟩ rfl rfl rfl rfl rfl (by kernel_rfl) Tryd.func5 (by kernel_rfl)
    (of_decide_eq_true (by kernel_rfl)) (by unfold Func.isWrapper; first | (rw [if_pos (by decide +kernel)]; kernel_rfl) | (rw [if_neg (by decide +kernel)]; exact ⟨rfl, rfl⟩))
    (fun os started H enc _ => lifted os started H enc)
theorem proved : Rows.NegoNamesCardSaid :=
  Claim7.holds_tied_plain_at .later [] [.data] true (true, "cf8d8f94433d9e04a7fa4535abf60dc28161ea174b184a94a536792055e6af8a") true
    over (fun _ h => by cases h) (by kernel_rfl) (fun _ h => by cases h) negoNames_row_tie rfl ⟨rfl, rfl⟩ (by kernel_rfl) rfl
    (fun f fn hf hfn => by
      obtain rfl : f = 5 := Option.some.inj ((show Tryd.prog.funcNamed "vitrine/vitrinelaw10.NegoNames" = some 5 by kernel_rfl).symm.trans hf) |>.symm
      obtain rfl : fn = Tryd.f5 := (Option.some.inj (Tryd.func5.symm.trans hfn)).symm
      exact ⟨by kernel_rfl, fun j t ht => by
        rw [Tryd.params5] at ht
        have hm : t ∈ [9, 5, 33] := by simpa using Array.mem_of_getElem? ht
        have hall : ([9, 5, 33].all fun u => !Tryd.prog.wantsStandIn u) = true := by kernel_rfl
        exact (show Tryd.prog.wantsStandIn t = false by simpa using List.all_eq_true.1 hall t hm)⟩)
    (by kernel_rfl)
#print axioms proved
end Go.Proofs.YtclpkbgjaiacpaaDoor.negoNames
namespace Go.Proofs.YtclpkbgjaiacpaaDoor
/-- The card, under a short name, for the claim. -/
theorem negoNames_holds : Rows.NegoNamesCardSaid := negoNames.proved
end Go.Proofs.YtclpkbgjaiacpaaDoor
