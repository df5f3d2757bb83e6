-- printed by the kit's print.py for the functions Nn, as this session called it: Lean checks it
import Derived.Test.YtclpkbgjaiacpaaDoorPNnx0
namespace Go.Proofs.YtclpkbgjaiacpaaDoor.PNn
open Go.RowKit Go.Proofs.YtclpkbgjaiacpaaDoorW.PrintWords Go.Proofs.YtclpkbgjaiacpaaDoorW.PrintLast Go.Proofs.YtclpkbgjaiacpaaDoorW.PrintMore
attribute [local go_sem] max2_int min2_int max_two min_two max_three min_three max_four min_four   -- for this text's walks alone
set_option linter.unusedVariables false
set_option linter.unusedSimpArgs false

/-! ### vitrineref10_Reason: function 25 -/
def vitrineref10_Reason.f (a0 : Int) : Option (ByteArray) := if a0 > 7 then (some (⟨#[]⟩ : ByteArray)) else ((some (([(⟨#[67, 79, 78, 78, 45, 80, 65, 82, 84, 78, 69, 82]⟩ : ByteArray), (⟨#[68, 69, 86, 73, 67, 69, 45, 73, 78, 45, 85, 83, 69]⟩ : ByteArray), (⟨#[73, 78, 86, 45, 65, 83, 83, 79, 67, 73, 65, 84, 69]⟩ : ByteArray), (⟨#[73, 78, 86, 45, 78, 65, 77, 69]⟩ : ByteArray), (⟨#[73, 78, 86, 45, 68, 69, 86, 73, 67, 69, 45, 84, 89, 80, 69]⟩ : ByteArray), (⟨#[84, 89, 80, 69, 45, 78, 65, 77, 69, 45, 69, 82, 82, 79, 82]⟩ : ByteArray), (⟨#[85, 78, 75, 78, 79, 87, 78, 45, 69, 82, 82, 79, 82]⟩ : ByteArray), (⟨#[85, 78, 83, 85, 80, 80, 79, 82, 84, 69, 68, 45, 82, 69, 81]⟩ : ByteArray)] : List ByteArray) : List ByteArray)).bind fun y116 => (if 0 ≤ a0 then (if a0 < (y116.length : Int) then (some (rdOf ByteArray.empty y116 a0)) else (none)) else (none)))
set_option maxHeartbeats 8000000 in
set_option maxRecDepth 100000 in
theorem vitrineref10_Reason.calls (a0 : Int) (r : ByteArray) (w : World) (h : vitrineref10_Reason.f a0 = some r) :
    Calls Tryd.prog 25 #[.int .u8 a0] w fun e w' => e = .returned (.string r) ∧ Below w.heap.size w w' := by
  have HB := Aside0.mk (Below.refl w.heap.size w)
  have H : (if a0 > 7 then (some (⟨#[]⟩ : ByteArray)) else ((some (([(⟨#[67, 79, 78, 78, 45, 80, 65, 82, 84, 78, 69, 82]⟩ : ByteArray), (⟨#[68, 69, 86, 73, 67, 69, 45, 73, 78, 45, 85, 83, 69]⟩ : ByteArray), (⟨#[73, 78, 86, 45, 65, 83, 83, 79, 67, 73, 65, 84, 69]⟩ : ByteArray), (⟨#[73, 78, 86, 45, 78, 65, 77, 69]⟩ : ByteArray), (⟨#[73, 78, 86, 45, 68, 69, 86, 73, 67, 69, 45, 84, 89, 80, 69]⟩ : ByteArray), (⟨#[84, 89, 80, 69, 45, 78, 65, 77, 69, 45, 69, 82, 82, 79, 82]⟩ : ByteArray), (⟨#[85, 78, 75, 78, 79, 87, 78, 45, 69, 82, 82, 79, 82]⟩ : ByteArray), (⟨#[85, 78, 83, 85, 80, 80, 79, 82, 84, 69, 68, 45, 82, 69, 81]⟩ : ByteArray)] : List ByteArray) : List ByteArray)).bind fun y116 => (if 0 ≤ a0 then (if a0 < (y116.length : Int) then (some (rdOf ByteArray.empty y116 a0)) else (none)) else (none)))) = some r := h
  clear h
  by_cases c2 : a0 > 7
  · rw [if_pos c2] at H
    have c2b0 : decide (7 < a0) = true := decide_eq_true c2
    clear c2
    obtain rfl := Option.some.inj H
    go_enter Tryd.func25, Tryd.ntmps25
    go_wp2
    go_ret
    exact ⟨by first | rfl | (simp [errW_none, errW_some] <;> rfl) | (simp [*, errW_none, errW_some] <;> rfl), by repeat (first | (with_reducible first | exact HB.out | apply below_alloc | apply pw_below_drewN | apply below_drew1) | exact HB.out)⟩
  · rw [if_neg c2] at H
    have c2b0 : decide (7 < a0) = false := decide_eq_false c2
    clear c2
    obtain ⟨y116, hy116⟩ : ∃ y_ : List ByteArray, y_ = (([(⟨#[67, 79, 78, 78, 45, 80, 65, 82, 84, 78, 69, 82]⟩ : ByteArray), (⟨#[68, 69, 86, 73, 67, 69, 45, 73, 78, 45, 85, 83, 69]⟩ : ByteArray), (⟨#[73, 78, 86, 45, 65, 83, 83, 79, 67, 73, 65, 84, 69]⟩ : ByteArray), (⟨#[73, 78, 86, 45, 78, 65, 77, 69]⟩ : ByteArray), (⟨#[73, 78, 86, 45, 68, 69, 86, 73, 67, 69, 45, 84, 89, 80, 69]⟩ : ByteArray), (⟨#[84, 89, 80, 69, 45, 78, 65, 77, 69, 45, 69, 82, 82, 79, 82]⟩ : ByteArray), (⟨#[85, 78, 75, 78, 79, 87, 78, 45, 69, 82, 82, 79, 82]⟩ : ByteArray), (⟨#[85, 78, 83, 85, 80, 80, 79, 82, 84, 69, 68, 45, 82, 69, 81]⟩ : ByteArray)] : List ByteArray)) := ⟨_, rfl⟩
    replace H : (if 0 ≤ a0 then (if a0 < (y116.length : Int) then (some (rdOf ByteArray.empty y116 a0)) else (none)) else (none)) = some r := by first | (rw [hy116]; with_reducible exact H) | (have H2_ := (Option.bind_some _ _).symm.trans H; rw [hy116]; with_reducible exact H2_) | (have H2_ := (Option.bind_some _ _).symm.trans H; with_reducible exact H2_) | with_reducible exact H | (rw [hy116]; exact H) | exact H
    have Ny116 := Aside0.mk hy116
    clear hy116
    by_cases c3 : 0 ≤ a0
    · rw [if_pos c3] at H
      have c3b0 : decide (0 ≤ a0) = true := decide_eq_true c3
      clear c3
      by_cases c4 : a0 < (y116.length : Int)
      · rw [if_pos c4] at H
        have c4b0 : decide (a0 < (y116.length : Int)) = true := decide_eq_true c4
        clear c4
        obtain rfl := Option.some.inj H
        go_enter Tryd.func25, Tryd.ntmps25
        go_wp2_with (first | ((with_reducible refine gate_dst (N := 5) rfl ?_); refine Kd.R_lit Kd.string _ 9 ?hg (N := 5) ?hd (xs := ([(⟨#[67, 79, 78, 78, 45, 80, 65, 82, 84, 78, 69, 82]⟩ : ByteArray), (⟨#[68, 69, 86, 73, 67, 69, 45, 73, 78, 45, 85, 83, 69]⟩ : ByteArray), (⟨#[73, 78, 86, 45, 65, 83, 83, 79, 67, 73, 65, 84, 69]⟩ : ByteArray), (⟨#[73, 78, 86, 45, 78, 65, 77, 69]⟩ : ByteArray), (⟨#[73, 78, 86, 45, 68, 69, 86, 73, 67, 69, 45, 84, 89, 80, 69]⟩ : ByteArray), (⟨#[84, 89, 80, 69, 45, 78, 65, 77, 69, 45, 69, 82, 82, 79, 82]⟩ : ByteArray), (⟨#[85, 78, 75, 78, 79, 87, 78, 45, 69, 82, 82, 79, 82]⟩ : ByteArray), (⟨#[85, 78, 83, 85, 80, 80, 79, 82, 84, 69, 68, 45, 82, 69, 81]⟩ : ByteArray)] : List ByteArray)) (inner := [.string (⟨#[67, 79, 78, 78, 45, 80, 65, 82, 84, 78, 69, 82]⟩ : ByteArray), .string (⟨#[68, 69, 86, 73, 67, 69, 45, 73, 78, 45, 85, 83, 69]⟩ : ByteArray), .string (⟨#[73, 78, 86, 45, 65, 83, 83, 79, 67, 73, 65, 84, 69]⟩ : ByteArray), .string (⟨#[73, 78, 86, 45, 78, 65, 77, 69]⟩ : ByteArray), .string (⟨#[73, 78, 86, 45, 68, 69, 86, 73, 67, 69, 45, 84, 89, 80, 69]⟩ : ByteArray), .string (⟨#[84, 89, 80, 69, 45, 78, 65, 77, 69, 45, 69, 82, 82, 79, 82]⟩ : ByteArray), .string (⟨#[85, 78, 75, 78, 79, 87, 78, 45, 69, 82, 82, 79, 82]⟩ : ByteArray), .string (⟨#[85, 78, 83, 85, 80, 80, 79, 82, 84, 69, 68, 45, 82, 69, 81]⟩ : ByteArray)]) (ok := fun _ => True) (okp := fun _ => True) ?hr ?hp (fun _ hk => hk) trivial (Below.refl _ _) (Nat.le_refl _) (by simp) ?_; (case hd => rfl); (case hg => rfl); (case hr => first | (go_simp; done) | (go_simp; rfl)); (case hp => exact (Reps.one (show Kd.M Kd.string _ _ _ (⟨#[67, 79, 78, 78, 45, 80, 65, 82, 84, 78, 69, 82]⟩ : ByteArray) [.string (⟨#[67, 79, 78, 78, 45, 80, 65, 82, 84, 78, 69, 82]⟩ : ByteArray)] from rfl) (Reps.one (show Kd.M Kd.string _ _ _ (⟨#[68, 69, 86, 73, 67, 69, 45, 73, 78, 45, 85, 83, 69]⟩ : ByteArray) [.string (⟨#[68, 69, 86, 73, 67, 69, 45, 73, 78, 45, 85, 83, 69]⟩ : ByteArray)] from rfl) (Reps.one (show Kd.M Kd.string _ _ _ (⟨#[73, 78, 86, 45, 65, 83, 83, 79, 67, 73, 65, 84, 69]⟩ : ByteArray) [.string (⟨#[73, 78, 86, 45, 65, 83, 83, 79, 67, 73, 65, 84, 69]⟩ : ByteArray)] from rfl) (Reps.one (show Kd.M Kd.string _ _ _ (⟨#[73, 78, 86, 45, 78, 65, 77, 69]⟩ : ByteArray) [.string (⟨#[73, 78, 86, 45, 78, 65, 77, 69]⟩ : ByteArray)] from rfl) (Reps.one (show Kd.M Kd.string _ _ _ (⟨#[73, 78, 86, 45, 68, 69, 86, 73, 67, 69, 45, 84, 89, 80, 69]⟩ : ByteArray) [.string (⟨#[73, 78, 86, 45, 68, 69, 86, 73, 67, 69, 45, 84, 89, 80, 69]⟩ : ByteArray)] from rfl) (Reps.one (show Kd.M Kd.string _ _ _ (⟨#[84, 89, 80, 69, 45, 78, 65, 77, 69, 45, 69, 82, 82, 79, 82]⟩ : ByteArray) [.string (⟨#[84, 89, 80, 69, 45, 78, 65, 77, 69, 45, 69, 82, 82, 79, 82]⟩ : ByteArray)] from rfl) (Reps.one (show Kd.M Kd.string _ _ _ (⟨#[85, 78, 75, 78, 79, 87, 78, 45, 69, 82, 82, 79, 82]⟩ : ByteArray) [.string (⟨#[85, 78, 75, 78, 79, 87, 78, 45, 69, 82, 82, 79, 82]⟩ : ByteArray)] from rfl) (Reps.one (show Kd.M Kd.string _ _ _ (⟨#[85, 78, 83, 85, 80, 80, 79, 82, 84, 69, 68, 45, 82, 69, 81]⟩ : ByteArray) [.string (⟨#[85, 78, 83, 85, 80, 80, 79, 82, 84, 69, 68, 45, 82, 69, 81]⟩ : ByteArray)] from rfl) (Reps.none _ _)))))))))); intro v117 w5 ho6 hb hg_ hnew_; clear hg_ hnew_; (first | rw [← Ny116.out] at ho6 | (simp only [Int.reduceToNat] at ho6; rw [← Ny116.out] at ho6)); have n0_ := Aside0.mk (Kd.R_lower ho6 (below_size (by repeat (first | (with_reducible first | exact HB.out | apply below_alloc | apply pw_below_drewN | apply below_drew1) | exact HB.out)))); have n1_ := Aside0.mk (below_step (by repeat (first | (with_reducible first | exact HB.out | apply below_alloc | apply pw_below_drewN | apply below_drew1) | exact HB.out)) hb); clear HB; have HO118 := n0_; have HB := n1_; clear n0_ n1_; clear hb ho6; obtain ⟨Ao7, co7, eo7⟩ := Kd.R_slice HO118.out; subst eo7; have p119 : 0 ≤ (a0 : Int) := of_decide_eq_true (by first | (with_reducible assumption) | assumption); have q119 : a0 < (y116.length : Int) := of_decide_eq_true (by first | (with_reducible assumption) | assumption); obtain ⟨ad119, e119, hx119_0⟩ := Kd.at_string (Kd.R_reads' HO118.out).2.2 a0 p119 q119; cases e119; replace p119 := eq_true p119; replace q119 := eq_true q119))
        go_ret
        exact ⟨by first | rfl | (simp [errW_none, errW_some] <;> rfl) | (simp [*, errW_none, errW_some] <;> rfl), by repeat (first | (with_reducible first | exact HB.out | apply below_alloc | apply pw_below_drewN | apply below_drew1) | exact HB.out)⟩
      · rw [if_neg c4] at H
        exact absurd H (by simp)
    · rw [if_neg c3] at H
      exact absurd H (by simp)

end Go.Proofs.YtclpkbgjaiacpaaDoor.PNn
