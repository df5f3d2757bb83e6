/- What is proved: an argument that is a struct of three fields is opened field by field. Conditions: those that the theorem states. -/
import Derived.Test.YtclpkbgjaiacpaaOpens
namespace Go.Proofs.Ytclpkbgjaiacpaa
open Go.RowKit Go.Deep Go.ChangeShapes Go.WideShapes Go.ChangeAt Go.Proofs.YtclpkbgjaiacpaaW.PrintWords
set_option linter.unusedVariables false
/-- A struct of three fields. -/
theorem opens_struct3 {α β γ : Type} {P : Program} {t : TypeId} {f0 f1 f2 : Field} {k0 : Kd α} {k1 : Kd β} {k2 : Kd γ} {ok0 : α → Prop} {ok1 : β → Prop} {ok2 : γ → Prop} (ht : P.underlying t = some (.struct #[f0, f1, f2]))
    (hc : P.cellsOf t = k0.sz + (k1.sz + k2.sz)) (o0 : f0.offset = 0) (o1 : f1.offset = k0.sz) (o2 : f2.offset = k0.sz + k1.sz) (c0 : P.cellsOf f0.type = k0.sz) (c1 : P.cellsOf f1.type = k1.sz) (c2 : P.cellsOf f2.type = k2.sz)
    (h0 : Opens P f0.type k0 ok0) (h1 : Opens P f1.type k1 ok1) (h2 : Opens P f2.type k2 ok2) :
    Opens P t (Kd.pair k0 (Kd.pair k1 k2)) (fun y => ok0 y.1 ∧ ok1 y.2.1 ∧ ok2 y.2.2) := by
  intro H enc w spare held fuel cs x h hz
  obtain ⟨xs, m, rfl, rfl, hlen, hn, hx⟩ := DataW.trod_struct ht h
  match xs, hn, hx, hz with
  | [x0, x1, x2], _, hx, hz =>
    simp only [DataW.weights, ht, DataW.weightsEach, List.map_cons, List.map_nil, List.append_nil, List.all_append, Bool.and_eq_true] at hz
    obtain ⟨z0, z1, z2⟩ := hz
    have e0 := hx 0 f0 rfl
    have e1 := hx 1 f1 rfl
    have e2 := hx 2 f2 rfl
    rw [o0, c0, List.drop_zero] at e0
    rw [o1, c1] at e1
    rw [o2, c2] at e2
    obtain ⟨y0, r0, q0⟩ := h0 H enc w spare held m _ _ e0 z0
    obtain ⟨y1, r1, q1⟩ := h1 H enc w spare held m _ _ e1 z1
    obtain ⟨y2, r2, q2⟩ := h2 H enc w spare held m _ _ e2 z2
    rw [hc] at hlen
    refine ⟨(y0, y1, y2), ⟨cs.take k0.sz, cs.drop k0.sz, (List.take_append_drop _ _).symm, r0, (cs.drop k0.sz).take k1.sz, (cs.drop k0.sz).drop k1.sz, (List.take_append_drop _ _).symm, r1, ?_⟩, q0, q1, q2⟩
    rw [List.drop_drop]
    rwa [List.take_of_length_le (by rw [List.length_drop]; omega)] at r2
end Go.Proofs.Ytclpkbgjaiacpaa
