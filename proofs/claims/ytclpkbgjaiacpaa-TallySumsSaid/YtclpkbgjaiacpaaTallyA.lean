/- What is proved: sync.Once, at a lone goroutine. Conditions: those that each theorem states. -/
import Derived.Test.YtclpkbgjaiacpaaPNegoAgreesx1
import Derived.Test.YtclpkbgjaiacpaaTallyW
import Derived.WalkSpells
import Derived.Lib.SliceRun
import Derived.Deep.DeepMust
import Derived.Deep.RegionHeld3
import Derived.StillTactics
import Derived.Defers
import Derived.Laws.Pointers
import Derived.Laws.LoneSync
import Derived.RegionTactic
import Derived.RegionCalls
import Derived.Maps.OwnSet
namespace Go.Proofs.Ytclpkbgjaiacpaa
open Go.RowKit Go.Proofs.YtclpkbgjaiacpaaW.PrintWords Go.Proofs.YtclpkbgjaiacpaaW.PrintLast Go.Proofs.YtclpkbgjaiacpaaW.PrintMore
open Go.Proofs.Ytclpkbgjaiacpaa.PNegoAgrees
set_option linter.unusedVariables false
set_option linter.unusedSimpArgs false
/-! ### sync.Once -/
theorem t_disable (w : World) : (callFunc 129 #[]).run Try.prog w = .ok (.value (.tuple #[])) w := run_call_mark0 Try.func129 (by kernel_rfl) (by kernel_rfl) (by kernel_rfl) .disable (by kernel_rfl) w
theorem t_enable (w : World) : (callFunc 131 #[]).run Try.prog w = .ok (.value (.tuple #[])) w := run_call_mark0 Try.func131 (by kernel_rfl) (by kernel_rfl) (by kernel_rfl) .enable (by kernel_rfl) w
theorem t_acquire (a : Addr) (w : World) : (callFunc 132 #[.pointer (some a)]).run Try.prog w = .ok (.value (.tuple #[])) w := run_call_marked Try.func132 (by kernel_rfl) (by kernel_rfl) (by kernel_rfl) .acquire (by kernel_rfl) a w
theorem t_releaseMerge (a : Addr) (w : World) : (callFunc 134 #[.pointer (some a)]).run Try.prog w = .ok (.value (.tuple #[])) w := run_call_marked Try.func134 (by kernel_rfl) (by kernel_rfl) (by kernel_rfl) .releaseMerge (by kernel_rfl) a w
theorem t_store_deferred (a : Addr) (x : Value) (u : FrameMode) (w : World) (hc : w.cell? a = some x) (hz : w.frozen? a = false) :
    CallsD Try.prog 107 #[.pointer (some a), .bool true] u w fun e u' w' => u' = u ∧ (e = .returned (.tuple #[]) ∧ w' = w.drew.setCell a (.int .u32 1)) := by
  have hc' : w.drew.cell? a = some x := by go_simp
  have hz' : w.drew.frozen? a = false := by go_simp
  have hst := run_call_store (P := Try.prog) Try.func121 (by kernel_rfl) (by kernel_rfl) (by kernel_rfl) (by kernel_rfl) (k := .u32) (y := 1) hc' hz'
  go_enter_d Try.func107, Try.ntmps107
  go_wp2
  go_region_calls
  all_goals (go_end0; exact ⟨rfl, rfl⟩)
set_option maxRecDepth 100000 in
theorem t_unlock_deferred (a : Addr) (u : FrameMode) (w : World) (hc : w.cell? a = some (.int .i32 1)) (hz : w.frozen? a = false) :
    CallsD Try.prog 106 #[.pointer (some a)] u w fun e u' w' => u' = u ∧ (e = .returned (.tuple #[]) ∧ w' = w.setCell a (.int .i32 0)) := by
  have hd := t_disable
  have he := t_enable
  have hr := t_releaseMerge
  have hadd := run_call_add (P := Try.prog) Try.func135 (by kernel_rfl) (by kernel_rfl) (by kernel_rfl) .i32 (by kernel_rfl) (y := -1) (s := 0) hc hz (by simp [go_sem]; rfl)
  have hcv := run_convert_to_unsafe (P := Try.prog) (src := 174) (dst := 178) Try.underlying174 Try.underlying178 (by kernel_rfl) hc
  go_enter_d Try.func106, Try.ntmps106
  go_wp2
  go_end0
  go_wp2
  go_end0
  exact ⟨rfl, rfl⟩
set_option maxRecDepth 100000 in
theorem t_lock_free (a : Addr) (w : World) (hc : w.cell? a = some (.int .i32 0)) (hz : w.frozen? a = false) :
    Calls Try.prog 105 #[.pointer (some a)] w fun e w' => e = .returned (.tuple #[]) ∧ w' = w.setCell a (.int .i32 1) := by
  have hd := t_disable
  have he := t_enable
  have ha := t_acquire
  have hcas := run_call_cas_hit (P := Try.prog) Try.func130 (by kernel_rfl) (by kernel_rfl) (by kernel_rfl) .i32 (by kernel_rfl) (y := 1) hc hz
  have hc' : (w.setCell a (.int .i32 1)).cell? a = some (.int .i32 1) := World.cell?_setCell_same w a _ hc
  have hcv := run_convert_to_unsafe (P := Try.prog) (src := 174) (dst := 178) Try.underlying174 Try.underlying178 (by kernel_rfl) hc'
  go_enter Try.func105, Try.ntmps105
  go_wp2
  first | go_end0 | (simp only [Exit.inBlock, Exit.then]; refine bodyPost_ret (results_none rfl _ _ _) rfl ?_) | refine bodyPost_ret (results_none rfl _ _ _) rfl ?_
  go_wp2
  go_end0
  exact ⟨rfl, rfl⟩
theorem t_load (a : Addr) (x : Int) (w : World) (hc : w.cell? a = some (.int .u32 x)) :
    Calls Try.prog 85 #[.pointer (some a)] w fun e w' => e = .returned (.bool (x != 0)) ∧ w' = w := by
  have hl := run_call_load (P := Try.prog) Try.func104 (by kernel_rfl) (by kernel_rfl) (by kernel_rfl) .u32 (by kernel_rfl) hc
  go_enter Try.func85, Try.ntmps85
  go_wp2
  go_ret
  exact ⟨rfl, rfl⟩
set_option maxRecDepth 100000 in
set_option maxHeartbeats 1600000 in
/-- (*sync.Once).doSlow, not yet done, the lock free: the function handed in is called once. -/
theorem t_slow (g : Nat) (w : World) (Post : World → Prop)
    (h0 : w.cell? ⟨g, 2, none⟩ = some (.int .u32 0)) (h1 : w.cell? ⟨g, 3, none⟩ = some (.int .i32 0)) (f0 : w.frozen? ⟨g, 2, none⟩ = false) (f1 : w.frozen? ⟨g, 3, none⟩ = false)
    (hcall : Calls Try.prog 70 #[.pointer (some ⟨g, 0, none⟩)] (w.setCell ⟨g, 3, none⟩ (.int .i32 1)) fun e w1 => e = .returned (.tuple #[]) ∧ Post w1)
    (hpost : ∀ w1, Post w1 → w1.cell? ⟨g, 2, none⟩ = some (.int .u32 0) ∧ w1.frozen? ⟨g, 2, none⟩ = false ∧ w1.cell? ⟨g, 3, none⟩ = some (.int .i32 1) ∧ w1.frozen? ⟨g, 3, none⟩ = false) :
    Calls Try.prog 86 #[.pointer (some ⟨g, 2, none⟩), .func (.func 70) #[.pointer (some ⟨g, 0, none⟩)] #[]] w fun e w' => e = .returned (.tuple #[]) ∧ ∃ w1, Post w1 ∧ w' = (w1.drew.setCell ⟨g, 2, none⟩ (.int .u32 1)).setCell ⟨g, 3, none⟩ (.int .i32 0) := by
  have hl := (World.cell?_setCell_other w ⟨g, 3, none⟩ ⟨g, 2, none⟩ (.int .i32 1) (by simp)).trans h0
  have hnot : ∀ (x : Bool) (w : World), (Op.unary .not (.bool x)).run Try.prog w = .ok (.bool (!x)) w := fun _ _ => rfl
  have HC := Aside0.mk hcall
  have HP := Aside0.mk hpost
  clear hcall hpost
  go_enter_defers Try.func86, Try.ntmps86
  go_wp2_with (first | (go_at_call 105; refine (t_lock_free ⟨g, 3, none⟩ _ (by go_simp) (by go_simp)).mono ?_; rintro e w' ⟨rfl, rfl⟩) | (go_at_call 85; refine (t_load ⟨g, 2, none⟩ 0 _ hl).mono ?_; rintro e w' ⟨rfl, rfl⟩) | (go_at_call 70; refine HC.out.mono ?_; rintro e w1 ⟨rfl, hp⟩; obtain ⟨a0, a1, a2, a3⟩ := HP.out w1 hp; have HPP := Aside0.mk hp; clear hp))
  refine leaves_cons (f := 107) (args := #[.pointer (some ⟨g, 2, none⟩), .bool true]) (by simp) (by simp [go_sem]) ?_
  refine (t_store_deferred ⟨g, 2, none⟩ (.int .u32 0) .returning _ a0 a1).mono ?_
  rintro e u' w'' ⟨rfl, rfl, rfl⟩
  refine leaves_cons (f := 106) (args := #[.pointer (some ⟨g, 3, none⟩)]) (by simp [settle]) (by simp [go_sem]) ?_
  refine (t_unlock_deferred ⟨g, 3, none⟩ _ _ ?_ (by simp [a3])).mono ?_
  · refine (World.cell?_setCell_other _ ⟨g, 2, none⟩ ⟨g, 3, none⟩ _ (by simp)).trans ?_
    rw [World.cell?_drew]
    exact a2
  rintro e u' w'' ⟨rfl, rfl, rfl⟩
  simp [Leaves, settle, results, Try.results86]
  exact ⟨w1, HPP.out, rfl⟩
set_option maxRecDepth 100000 in
theorem t_do_first (g : Nat) (w : World) (Post : World → Prop)
    (h0 : w.cell? ⟨g, 2, none⟩ = some (.int .u32 0)) (h1 : w.cell? ⟨g, 3, none⟩ = some (.int .i32 0)) (f0 : w.frozen? ⟨g, 2, none⟩ = false) (f1 : w.frozen? ⟨g, 3, none⟩ = false)
    (hcall : Calls Try.prog 70 #[.pointer (some ⟨g, 0, none⟩)] (w.setCell ⟨g, 3, none⟩ (.int .i32 1)) fun e w1 => e = .returned (.tuple #[]) ∧ Post w1)
    (hpost : ∀ w1, Post w1 → w1.cell? ⟨g, 2, none⟩ = some (.int .u32 0) ∧ w1.frozen? ⟨g, 2, none⟩ = false ∧ w1.cell? ⟨g, 3, none⟩ = some (.int .i32 1) ∧ w1.frozen? ⟨g, 3, none⟩ = false) :
    Calls Try.prog 69 #[.pointer (some ⟨g, 2, none⟩), .func (.func 70) #[.pointer (some ⟨g, 0, none⟩)] #[]] w fun e w' => e = .returned (.tuple #[]) ∧ ∃ w1, Post w1 ∧ w' = (w1.drew.setCell ⟨g, 2, none⟩ (.int .u32 1)).setCell ⟨g, 3, none⟩ (.int .i32 0) := by
  have HS := Aside0.mk (t_slow g w Post h0 h1 f0 f1 hcall hpost)
  have HL := Aside0.mk (t_load ⟨g, 2, none⟩ 0 w h0)
  clear h1 f0 f1 hcall hpost h0
  go_enter Try.func69, Try.ntmps69
  go_wp2_with (first | (go_at_call 85; go_must (refine HL.out.mono ?_; rintro e w' ⟨rfl, rfl⟩)) | (go_at_call 86; go_must (refine HS.out.mono ?_; rintro e w2 ⟨rfl, h⟩; have HH := Aside0.mk h; clear h)))
  go_end0
  exact ⟨rfl, HH.out⟩
set_option maxRecDepth 100000 in
theorem t_do_done (a : Addr) (w : World) (fv : Value) (h0 : w.cell? a = some (.int .u32 1)) :
    Calls Try.prog 69 #[.pointer (some a), fv] w fun e w' => e = .returned (.tuple #[]) ∧ w' = w := by
  have HL := Aside0.mk (t_load a 1 w h0)
  clear h0
  go_enter Try.func69, Try.ntmps69
  go_wp2_with (go_at_call 85; go_must (refine HL.out.mono ?_; rintro e w' ⟨rfl, rfl⟩))
  go_end0
  exact ⟨rfl, rfl⟩
end Go.Proofs.Ytclpkbgjaiacpaa
