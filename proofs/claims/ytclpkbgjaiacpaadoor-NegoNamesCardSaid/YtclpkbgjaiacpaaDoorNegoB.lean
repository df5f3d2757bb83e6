/- What is proved: the law NegoNames, walked; what a nil end answers. Conditions: those that each theorem states. -/
import Derived.Test.YtclpkbgjaiacpaaDoorNegoA
import Derived.WalkSpells
import Derived.Deep.DeepMust
import Derived.Deep.RegionHeld3
import Derived.StillTactics
namespace Go.Proofs.YtclpkbgjaiacpaaDoor
open Go.RowKit Go.Proofs.YtclpkbgjaiacpaaDoorW.PrintWords Go.Proofs.YtclpkbgjaiacpaaDoorW.PrintLast Go.Proofs.YtclpkbgjaiacpaaDoorW.PrintMore
open Go.Proofs.YtclpkbgjaiacpaaDoor.PNn
set_option linter.unusedVariables false
set_option linter.unusedSimpArgs false
/-! ### a nil end -/
theorem reset_nil (w : World) : Calls Tryd.prog 21 #[.pointer none] w fun e w' => e = .returned (.tuple #[]) ∧ w = w' := by
  go_enter Tryd.func21, Tryd.ntmps21
  go_wp2
  go_end0
  exact ⟨rfl, rfl⟩
theorem ready_nil (w : World) : Calls Tryd.prog 27 #[.pointer none] w fun e w' => e = .returned (.bool false) ∧ w = w' := by
  go_enter Tryd.func27, Tryd.ntmps27
  go_wp2_with (go_at_call 26; refine (state_nil _).mono ?_; rintro e w' ⟨rfl, rfl⟩)
  go_ret
  exact ⟨rfl, rfl⟩
theorem device_nil (w : World) : Calls Tryd.prog 28 #[.pointer none] w fun e w' => e = .returned (.string ⟨#[]⟩) ∧ w = w' := by
  go_enter Tryd.func28, Tryd.ntmps28
  go_wp2
  go_ret
  exact ⟨rfl, rfl⟩
theorem functions_nil (w : World) : Calls Tryd.prog 29 #[.pointer none] w fun e w' => e = .returned (.slice none 0 0) ∧ w = w' := by
  go_enter Tryd.func29, Tryd.ntmps29
  go_wp2_with (go_at_call 27; refine (ready_nil _).mono ?_; rintro e w' ⟨rfl, rfl⟩)
  go_ret
  exact ⟨rfl, rfl⟩
theorem has_nil (w : World) (cv : Int) : Calls Tryd.prog 30 #[.pointer none, .int .u8 cv] w fun e w' => e = .returned (.bool false) ∧ w = w' := by
  go_enter Tryd.func30, Tryd.ntmps30
  go_wp2_with (first | (go_at_call 29; refine (functions_nil _).mono ?_; rintro e w' ⟨rfl, rfl⟩) | (go_at_call 67; refine (Tryd.bytes_IndexByte_nil cv _).mono ?_; rintro e w' ⟨rfl, rfl⟩))
  go_ret
  exact ⟨rfl, rfl⟩
/-! ### reasons -/
def reasonL : List ByteArray := [⟨#[67, 79, 78, 78, 45, 80, 65, 82, 84, 78, 69, 82]⟩, ⟨#[68, 69, 86, 73, 67, 69, 45, 73, 78, 45, 85, 83, 69]⟩, ⟨#[73, 78, 86, 45, 65, 83, 83, 79, 67, 73, 65, 84, 69]⟩, ⟨#[73, 78, 86, 45, 78, 65, 77, 69]⟩, ⟨#[73, 78, 86, 45, 68, 69, 86, 73, 67, 69, 45, 84, 89, 80, 69]⟩, ⟨#[84, 89, 80, 69, 45, 78, 65, 77, 69, 45, 69, 82, 82, 79, 82]⟩, ⟨#[85, 78, 75, 78, 79, 87, 78, 45, 69, 82, 82, 79, 82]⟩, ⟨#[85, 78, 83, 85, 80, 80, 79, 82, 84, 69, 68, 45, 82, 69, 81]⟩]
def reasonS (code : Int) : ByteArray := if code > 7 then ⟨#[]⟩ else rdOf ByteArray.empty reasonL code
theorem refReason_f (code : Int) (h : 0 ≤ code) : vitrineref10_Reason.f code = some (reasonS code) := by
  unfold vitrineref10_Reason.f reasonS
  by_cases h7 : code > 7
  · rw [if_pos h7, if_pos h7]
  · rw [if_neg h7, if_neg h7]
    simp only [Option.bind_some]
    rw [if_pos h, if_pos (by simp; omega)]
    rfl
theorem reason_any (w : World) (code : Int) (h : 0 ≤ code) (hlt : code < 256) (hG : ∀ i : Nat, i < 8 → w.cell? ⟨0, i, none⟩ = some (.string (rdOf ByteArray.empty reasonL (i : Int)))) :
    Calls Tryd.prog 24 #[.int .u8 code] w fun e w' => e = .returned (.string (reasonS code)) ∧ w = w' := by
  by_cases h7 : code > 7
  · have hS : reasonS code = ⟨#[]⟩ := by unfold reasonS; rw [if_pos h7]
    rw [hS]
    have h8 : 8 ≤ code := by omega
    clear hG hS h7
    have hcv : ∀ W, (convert 5 3 (.int .u8 code)).run Tryd.prog W = .ok (.int .i64 code) W := fun W => by
      have e : IntKind.i64.wrap code = code := by
        have e1 : IntKind.i64.bits = 64 := rfl
        unfold IntKind.wrap
        rw [e1]
        simp
        omega
      simp [convert, run_underlying Tryd.underlying5, run_underlying Tryd.underlying3, Conv.intToInt, e]
    go_enter Tryd.func24, Tryd.ntmps24
    go_wp2
    go_ret
    exact ⟨rfl, rfl⟩
  · have hS : reasonS code = rdOf ByteArray.empty reasonL code := by unfold reasonS; rw [if_neg h7]
    rw [hS]
    have h0 : code = 0 ∨ code = 1 ∨ code = 2 ∨ code = 3 ∨ code = 4 ∨ code = 5 ∨ code = 6 ∨ code = 7 := by omega
    clear hS h7 h
    rcases h0 with rfl | rfl | rfl | rfl | rfl | rfl | rfl | rfl
    · have x := hG 0 (by omega)
      clear hG hlt
      go_enter Tryd.func24, Tryd.ntmps24
      go_wp2
      go_ret
      exact ⟨rfl, rfl⟩
    · have x := hG 1 (by omega)
      clear hG hlt
      go_enter Tryd.func24, Tryd.ntmps24
      go_wp2
      go_ret
      exact ⟨rfl, rfl⟩
    · have x := hG 2 (by omega)
      clear hG hlt
      go_enter Tryd.func24, Tryd.ntmps24
      go_wp2
      go_ret
      exact ⟨rfl, rfl⟩
    · have x := hG 3 (by omega)
      clear hG hlt
      go_enter Tryd.func24, Tryd.ntmps24
      go_wp2
      go_ret
      exact ⟨rfl, rfl⟩
    · have x := hG 4 (by omega)
      clear hG hlt
      go_enter Tryd.func24, Tryd.ntmps24
      go_wp2
      go_ret
      exact ⟨rfl, rfl⟩
    · have x := hG 5 (by omega)
      clear hG hlt
      go_enter Tryd.func24, Tryd.ntmps24
      go_wp2
      go_ret
      exact ⟨rfl, rfl⟩
    · have x := hG 6 (by omega)
      clear hG hlt
      go_enter Tryd.func24, Tryd.ntmps24
      go_wp2
      go_ret
      exact ⟨rfl, rfl⟩
    · have x := hG 7 (by omega)
      clear hG hlt
      go_enter Tryd.func24, Tryd.ntmps24
      go_wp2
      go_ret
      exact ⟨rfl, rfl⟩
/-! ### the law -/
theorem cutText_60 (s : ByteArray) : vitrineref01_CutText.f s 60 = some (cutS s 60) := cutText_f s 60
set_option maxHeartbeats 4000000 in
theorem names_walk (w : World) (s : ByteArray) (code : Int) (h : 0 ≤ code) (hlt : code < 256) (A : Option Addr) (n c : Nat) (l : List Int) (hr : Kd.C (Kd.int .u8) w A n l) (hc : n ≤ c)
    (hG : ∀ i : Nat, i < 8 → w.cell? ⟨0, i, none⟩ = some (.string (rdOf ByteArray.empty reasonL (i : Int)))) :
    Calls Tryd.prog 5 #[.string s, .int .u8 code, .slice A n c] w fun e w' => e = .returned (.bool true) ∧ Below w.heap.size w w' := by
  obtain rfl : l.length = n := hr.1
  obtain ⟨t, et⟩ : ∃ t, t = cutS s 60 := ⟨_, rfl⟩
  have hcut := cutText_60 s
  have hsz := cutS_size s 60
  rw [← et] at hcut hsz
  have n1 := name_f t (by omega)
  have n2 := refName_f t (by omega)
  obtain ⟨kn, ekn⟩ : ∃ k, k = t.size + 1 := ⟨_, rfl⟩
  rw [← ekn] at n1 n2
  have HCUT := Aside0.mk hcut
  have HN := Aside0.mk (And.intro n1 n2)
  have HR := Aside0.mk (And.intro hr hc)
  have hz : 0 < w.heap.size := World.block_lt_of_cell? w _ (hG 0 (by omega))
  have HG := Aside0.mk (fun (W : World) (hb : Below w.heap.size w W) => reason_any W code h hlt (fun i hi => (hb.cell (p := ⟨0, i, none⟩) hz).trans (hG i hi)))
  have HRF := Aside0.mk (refReason_f code h)
  clear et hcut n1 n2 ekn hr hc hG h hlt hsz
  generalize reasonS code = rs at *
  generalize nameB t = nb at *
  go_enter Tryd.func5, Tryd.ntmps5
  go_wp2_with (first | (go_at_call 18; go_must (refine (awake_any _).mono ?_; rintro e w1 ⟨rfl, hb1⟩; have HB := Aside0.mk hb1; clear hb1)) | (go_at_call 19; go_must (refine (vitrineref01_CutText.calls _ 60 _ _ HCUT.out).mono ?_; rintro e w3 ⟨rfl, ⟨q3, rfl⟩⟩)) | (go_at_call 15; go_must (refine (vitrineref01_Cut.calls A c l 50 (l.take 50) _ (Kd.C_drewN (Kd.C_below HR.out.1 HB.out) _) HR.out.2 (cut_f l 50 (by decide))).mono ?_; rintro e w4 ⟨v4, rfl, ho4, hb4⟩; have HB4 := Aside0.mk ((pw_below_drewN HB.out q3).trans (hb4.mono (pw_below_drewN HB.out q3).size)); obtain ⟨A4, c4, rfl⟩ := OwnB.slice ho4; clear ho4 hb4)) | (go_at_call 20; go_must (refine (hear_nil _ _ _).mono ?_; rintro e w5 ⟨rfl, rfl⟩)) | (go_at_call 21; go_must (refine (reset_nil _).mono ?_; rintro e w5 ⟨rfl, rfl⟩)) | (go_at_call 22; go_must (refine (nego_Name.calls kn t _ _ HN.out.1).mono ?_; rintro e w5 ⟨rfl, ⟨q5, rfl⟩⟩)) | (go_at_call 23; go_must (refine (vitrineref10_Name.calls kn t _ _ HN.out.2).mono ?_; rintro e w5 ⟨rfl, ⟨q6, rfl⟩⟩)) | (go_at_call 24; go_must (refine (HG.out _ (pw_below_drewN HB4.out _)).mono ?_; rintro e w5 ⟨rfl, rfl⟩)) | (go_at_call 25; go_must (refine (vitrineref10_Reason.calls code rs _ HRF.out).mono ?_; rintro e w6 ⟨rfl, hb6⟩; have HB6 := Aside0.mk ((pw_below_drewN HB4.out _).trans (hb6.mono (pw_below_drewN HB4.out _).size)); clear hb6)) | (go_at_call 26; go_must (refine (state_nil _).mono ?_; rintro e w5 ⟨rfl, rfl⟩)) | (go_at_call 27; go_must (refine (ready_nil _).mono ?_; rintro e w5 ⟨rfl, rfl⟩)) | (go_at_call 28; go_must (refine (device_nil _).mono ?_; rintro e w5 ⟨rfl, rfl⟩)) | (go_at_call 29; go_must (refine (functions_nil _).mono ?_; rintro e w5 ⟨rfl, rfl⟩)) | (go_at_call 30; go_must (refine (has_nil _ _).mono ?_; rintro e w5 ⟨rfl, rfl⟩)))
  go_ret
  exact ⟨rfl, HB6.out⟩
end Go.Proofs.YtclpkbgjaiacpaaDoor
