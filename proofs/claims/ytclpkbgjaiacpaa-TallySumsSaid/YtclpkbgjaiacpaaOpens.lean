/- What is proved: arguments that read as data are opened into plain lists, kind by kind. Conditions: those that each theorem states. -/
import Derived.Test.YtclpkbgjaiacpaaWMore
import Derived.Deep.Slices
import Derived.Lib.SmallJoins
import Derived.SizedLaws
import Derived.WalkKit
import Derived.ProofKit
import Derived.OpenShut
import Derived.ShutString
import Derived.ChangeOld
import Derived.Below
namespace Go.Proofs.Ytclpkbgjaiacpaa
open Go.RowKit Go.Deep Go.ChangeShapes Go.WideShapes Go.ChangeAt Go.Proofs.YtclpkbgjaiacpaaW.PrintWords
set_option linter.unusedVariables false
/-! ### What comes in, opened kind by kind -/
/-- Whatever reads as data of type t holds cells of the kind k, and ok of what they say. -/
def Opens {α : Type} (P : Program) (t : TypeId) (k : Kd α) (ok : α → Prop) : Prop :=
  ∀ (H : Type) (enc : TypeId × Value → H) (w : World) (spare : Nat → Bool) (held : Bool) (fuel : Nat) (cs : List Value) (x : DataW H × List MemPlace),
    DataW.trod enc P w 0 spare held fuel t cs = some x → (x.1.weights P t).all (· ≤ reachBytes) = true → ∃ y, k.K w y cs ∧ ok y
theorem opens_int {P : Program} {t : TypeId} {k : IntKind} (ht : P.underlying t = some (.int k)) : Opens P t (Kd.int k) (fun x => (Lit.int k x).wf = true) := by
  intro H enc w spare held fuel cs x h _
  obtain ⟨n, rfl, _, hw⟩ := DataW.trod_int ht h
  exact ⟨n, rfl, hw⟩
theorem opens_bool {P : Program} {t : TypeId} (ht : P.underlying t = some .bool) : Opens P t Kd.bool (fun _ => True) := by
  intro H enc w spare held fuel cs x h _
  obtain ⟨b, rfl, _⟩ := DataW.trod_bool ht h
  exact ⟨b, rfl, trivial⟩
theorem opens_string {P : Program} {t : TypeId} (ht : P.underlying t = some .string) : Opens P t Kd.string (fun s => s.size ≤ 140737488351232) := by
  intro H enc w spare held fuel cs x h hz
  obtain ⟨s, rfl, rfl, _⟩ := DataW.trod_string ht h
  refine ⟨s, rfl, ?_⟩
  have h2 := List.all_eq_true.1 hz s.data.toList.length (by simp [DataW.weights])
  have h3 : s.data.toList.length ≤ reachBytes := of_decide_eq_true h2
  have h4 : s.size = s.data.toList.length := by rw [Array.length_toList]; rfl
  show s.size ≤ 140737488351232
  rw [h4]
  exact h3
theorem all_weights {H : Type} {P : Program} {e : TypeId} : ∀ (l : List (DataW H)), (DataW.weightsAll P e l).all (· ≤ reachBytes) = true → ∀ d ∈ l, (d.weights P e).all (· ≤ reachBytes) = true
  | [], _, d, hd => by cases hd
  | a :: r, h, d, hd => by
    rw [DataW.weightsAll, List.all_append, Bool.and_eq_true] at h
    rcases List.mem_cons.1 hd with rfl | hd
    · exact h.1
    · exact all_weights r h.2 d hd
/-- A slice, laid open: nil; or a row that reads as a list. -/
theorem opens_row {α : Type} [Inhabited α] {P : Program} {t e : TypeId} {k : Kd α} {ok : α → Prop} {B : Nat} (ht : P.underlying t = some (.slice e)) (hc : P.cellsOf e = k.sz) (hB : P.bytesOf e = B) (hk : Opens P e k ok)
    {H : Type} {enc : TypeId × Value → H} {w : World} {spare : Nat → Bool} {held : Bool} {fuel : Nat} {cs : List Value} {x : DataW H × List MemPlace} (h : DataW.trod enc P w 0 spare held fuel t cs = some x) (hz : (x.1.weights P t).all (· ≤ reachBytes) = true) :
    ∃ A n c l, cs = [.slice A n c] ∧ n ≤ c ∧ (A = none → c = 0) ∧ Kd.C k w A n l ∧ l.length * B ≤ 140737488351232 ∧ (∀ y ∈ l, ok y) := by
  rcases open_slice ht h with ⟨rfl, rfl⟩ | ⟨a, len, cap, m, n, D, Pl, rfl, _, hl, hm, hmm, rfl, hx⟩
  · exact ⟨none, 0, 0, [], rfl, Nat.le_refl _, fun _ => rfl, Kd.C_nil _ _, by simp, fun y hy => by cases hy⟩
  · have hlm : len ≤ m := by rw [hmm]; split <;> omega
    simp only [DataW.weights, ht, List.all_cons, Bool.and_eq_true, List.all_append, decide_eq_true_eq] at hz
    obtain ⟨hz0, hz1, hz2⟩ := hz
    have hch : ∀ i, i < len → ∃ y : α, (∃ cs', cs'.length = k.sz ∧ k.K w y cs' ∧ ∀ j u, cs'[j]? = some u → w.cell? (a.add (i * k.sz + j)) = some u) ∧ ok y := by
      intro i hi
      obtain ⟨cs', h1, h2⟩ := hx i (by omega)
      obtain ⟨_, hlen, hcell⟩ := World.cells?_some h1
      obtain ⟨y, hy, hok⟩ := hk H enc w spare held n cs' _ h2 (all_weights _ hz1 _ (List.mem_map.2 ⟨i, List.mem_range.2 hi, rfl⟩))
      refine ⟨y, ⟨cs', by rw [hlen, hc], hy, fun j u hu => ?_⟩, hok⟩
      have hj : j < P.cellsOf e := by rw [← hlen]; exact (List.getElem?_eq_some_iff.1 hu).1
      have h3 := (hcell j hj).trans hu
      rw [hc] at h3
      rw [← h3]
      congr 1
      unfold Addr.add
      by_cases e1 : i * k.sz = 0 <;> by_cases e2 : j = 0 <;> simp [e1, e2, Nat.add_assoc]
    obtain ⟨X, hX⟩ := choose_lt hch
    refine ⟨some a, len, cap, (List.range len).map X, rfl, hl, (fun e => by cases e), ⟨by simp, by simp only [maxLen] at hm; omega, fun hn => ⟨a, rfl, fun j p hj => ?_⟩⟩, ?_, fun y hy => ?_⟩
    · rw [List.getElem?_map] at hj
      obtain ⟨i, hi, rfl⟩ := Option.map_eq_some_iff.1 hj
      have hlt : j < len := by
        have := (List.getElem?_eq_some_iff.1 hi).1
        simpa using this
      have hij : i = j := by
        rw [List.getElem?_range hlt] at hi
        exact (Option.some.inj hi).symm
      subst hij
      exact (hX i hlt).1
    · rw [← hB]
      simp only [List.length_map, List.length_range] at hz0 ⊢
      exact Nat.le_trans (Nat.mul_le_mul_right _ (by omega)) hz0
    · obtain ⟨i, hi, rfl⟩ := List.mem_map.1 hy
      exact (hX i (List.mem_range.1 hi)).2
theorem opens_slice {α : Type} [Inhabited α] {P : Program} {t e : TypeId} {k : Kd α} {ok : α → Prop} {B : Nat} (ht : P.underlying t = some (.slice e)) (hc : P.cellsOf e = k.sz) (hB : P.bytesOf e = B) (hk : Opens P e k ok) :
    Opens P t (Kd.slice e k) (fun l => l.length * B ≤ 140737488351232 ∧ ∀ y ∈ l, ok y) := by
  intro H enc w spare held fuel cs x h hz
  obtain ⟨A, n, c, l, rfl, hn, _, hC, hs, ho⟩ := opens_row ht hc hB hk h hz
  obtain rfl : l.length = n := hC.1
  exact ⟨l, ⟨A, c, rfl, hn, hC⟩, hs, ho⟩
end Go.Proofs.Ytclpkbgjaiacpaa
