/- What is proved: Names; a nil tally. Conditions: those that each theorem states. -/
import Derived.Test.YtclpkbgjaiacpaaPNegoAgreesx1
import Derived.Test.YtclpkbgjaiacpaaTallyC
import Derived.WalkSpells
import Derived.Lib.SliceRun
import Derived.Test.YtclpkbgjaiacpaaShelfT
import Derived.Deep.DeepMust
import Derived.Deep.RegionHeld3
import Derived.StillTactics
import Derived.Defers
import Derived.Laws.Pointers
import Derived.Laws.LoneSync
import Derived.RegionTactic
import Derived.RegionCalls
import Derived.Maps.OwnSet
namespace Go.Proofs.Ytclpkbgjaiacpaa
open Go.RowKit Go.Proofs.YtclpkbgjaiacpaaW.PrintWords Go.Proofs.YtclpkbgjaiacpaaW.PrintLast Go.Proofs.YtclpkbgjaiacpaaW.PrintMore
open Go.Proofs.Ytclpkbgjaiacpaa.PNegoAgrees
set_option linter.unusedVariables false
set_option linter.unusedSimpArgs false
/-! ### Names -/
theorem t_names_nil (w : World) : Calls Try.prog 24 #[.pointer none] w fun e w' => e = .returned (.slice none 0 0) ∧ w = w' := by
  go_enter Try.func24, Try.ntmps24
  go_wp2
  go_ret
  exact ⟨rfl, rfl⟩
theorem cloneS (w : World) (N : Option Addr) (n cn : Nat) (ns : List ByteArray) (h : Kd.C Kd.string w N n ns) (hn : n ≤ 1000) :
    Calls Try.prog 47 #[.slice N n cn] w fun e w' => ∃ A c, e = .returned (.slice A n c) ∧ Kd.C Kd.string w' A n ns ∧ Below w.heap.size w w' := by
  obtain rfl : ns.length = n := h.1
  have out : ∀ (e : Ending) (w' : World), (∃ v', e = .returned v' ∧ w'.ownsRow w.heap.size 9 1 v' ns.length (ns.map Value.string) ∧ v' ≠ .slice none 0 0 ∧ Below w.heap.size w w') → ∃ A c, e = .returned (.slice A ns.length c) ∧ Kd.C Kd.string w' A ns.length ns ∧ Below w.heap.size w w' := by
    rintro e w' ⟨v, rfl, ho, _, hb⟩
    obtain ⟨A, c, rfl, _, hC⟩ := Kd.R_reads (Kd.R_of_own (enc := Value.string) (h1 := fun _ => rfl) (ok := fun _ => True) (xs := ns) ho (fun _ _ => trivial))
    exact ⟨A, c, rfl, hC, hb⟩
  cases N with
  | none =>
    have h0 : ns = [] := by
      rcases Nat.eq_zero_or_pos ns.length with h1 | h1
      · exact List.eq_nil_of_length_eq_zero h1
      · obtain ⟨ad, e, _⟩ := h.2.2 h1
        cases e
    subst h0
    refine (Try.slices_Clone_string_nil _ cn w).mono ?_
    rintro e w' ⟨rfl, rfl⟩
    exact ⟨none, 0, rfl, Kd.C_nil _ _, Below.refl _ _⟩
  | some ad =>
    rcases Nat.eq_zero_or_pos ns.length with h1 | h1
    · have h0 : ns = [] := List.eq_nil_of_length_eq_zero h1
      subst h0
      exact (Try.slices_Clone_string_zero ad cn w).mono out
    · obtain ⟨ad', e, hx⟩ := strAt h 0 h1
      cases e
      obtain ⟨b, o, sp⟩ := ad
      have hs : sp = none := by simpa using World.cell?_spot (show w.cell? ⟨b, o, sp⟩ = _ from hx)
      subst hs
      refine (Try.slices_Clone_string b o ns.length cn ns w (Nat.le_refl _) (by omega) (fun j hj => ?_)).mono (fun e w' hh => out e w' (by simpa using hh))
      obtain ⟨ad', e, hx⟩ := strAt h j hj
      cases e
      rw [Addr.add_lit] at hx
      exact hx.trans (by simp [rdOf])
theorem t_names (w : World) (g lb : Nat) (N : Option Addr) (cn : Nat) (ns : List ByteArray) (xs : List Int) (hT : Tal w g lb N cn ns xs) : Calls Try.prog 24 #[.pointer (some ⟨g, 0, none⟩)] w fun e w' => ∃ A c, e = .returned (.slice A ns.length c) ∧ Kd.C Kd.string w' A ns.length ns ∧ Below w.heap.size w w' := by
  obtain ⟨d, mo, hB, _⟩ := hT.t
  have hc0 : w.cell? ⟨g, 0, none⟩ = some (.slice N ns.length cn) := blk_cell hB 0
  have HC := Aside0.mk (cloneS w N ns.length cn ns hT.n hT.few)
  clear hT hB
  go_enter Try.func24, Try.ntmps24
  go_wp2_with (go_at_call 47; go_must (refine HC.out.mono ?_; rintro e w1 ⟨A, c, rfl, hC, hb⟩; have HX := Aside0.mk (And.intro hC hb); clear hC hb))
  go_ret
  exact ⟨_, _, rfl, HX.out.1, HX.out.2⟩
/-! ### a nil tally -/
theorem n_reset (w : World) : Calls Try.prog 19 #[.pointer none] w fun e w' => e = .returned (.tuple #[]) ∧ w = w' := by
  go_enter Try.func19, Try.ntmps19
  go_wp2_with (go_at_call 24; go_must (refine (t_names_nil _).mono ?_; rintro e w1 ⟨rfl, rfl⟩))
  refine wp_loop_rounds 1 ?_
  rw [rounds_succ]
  go_wp2
  go_end0
  exact ⟨rfl, rfl⟩
theorem n_add (w : World) (s : ByteArray) (y : Int) : Calls Try.prog 20 #[.pointer none, .string s, .int .u64 y] w fun e w' => e = .returned (.bool false) ∧ w = w' := by
  go_enter Try.func20, Try.ntmps20
  go_wp2_with (go_at_call 49; go_must (refine (t_counter_nil _ s).mono ?_; rintro e w1 ⟨rfl, rfl⟩))
  go_ret
  exact ⟨rfl, rfl⟩
theorem n_most (w : World) (s : ByteArray) (y : Int) : Calls Try.prog 21 #[.pointer none, .string s, .int .u64 y] w fun e w' => e = .returned (.bool false) ∧ w = w' := by
  go_enter Try.func21, Try.ntmps21
  go_wp2_with (go_at_call 49; go_must (refine (t_counter_nil _ s).mono ?_; rintro e w1 ⟨rfl, rfl⟩))
  go_ret
  exact ⟨rfl, rfl⟩
theorem n_take (w : World) (s : ByteArray) : Calls Try.prog 22 #[.pointer none, .string s] w fun e w' => e = .returned (.int .u64 0) ∧ w = w' := by
  go_enter Try.func22, Try.ntmps22
  go_wp2_with (go_at_call 49; go_must (refine (t_counter_nil _ s).mono ?_; rintro e w1 ⟨rfl, rfl⟩))
  go_ret
  exact ⟨rfl, rfl⟩
theorem n_get (w : World) (s : ByteArray) : Calls Try.prog 23 #[.pointer none, .string s] w fun e w' => e = .returned (.int .u64 0) ∧ w = w' := by
  go_enter Try.func23, Try.ntmps23
  go_wp2_with (go_at_call 49; go_must (refine (t_counter_nil _ s).mono ?_; rintro e w1 ⟨rfl, rfl⟩))
  go_ret
  exact ⟨rfl, rfl⟩
end Go.Proofs.Ytclpkbgjaiacpaa
