/- What is proved: the reference's Hear, a road each. Conditions: those that each theorem states. -/
import Derived.Test.YtclpkbgjaiacpaaNegoI
import Derived.Test.YtclpkbgjaiacpaaPNpx2
import Derived.WalkSpells
import Derived.Deep.DeepMust
import Derived.Deep.RegionHeld3
import Derived.StillTactics
import Derived.Lib.SlBytesConst
namespace Go.Proofs.Ytclpkbgjaiacpaa
open Go.RowKit Go.Proofs.YtclpkbgjaiacpaaW.PrintWords Go.Proofs.YtclpkbgjaiacpaaW.PrintLast Go.Proofs.YtclpkbgjaiacpaaW.PrintMore
open Go.Proofs.Ytclpkbgjaiacpaa.PNegoAgrees Go.Proofs.Ytclpkbgjaiacpaa.PSrt
set_option linter.unusedVariables false
set_option linter.unusedSimpArgs false
/-! ### the reference's Hear, a road each -/
theorem C_apart78 {w : World} {A : Option Addr} {n : Nat} {l : List Int} (h : Kd.C (Kd.int .u8) w A n l) {g : Nat} {ty dev : ByteArray} {A2 : Option Addr} {n2 c2 : Nat} {st : Int} {d : ByteArray} {A3 : Option Addr} {n3 c3 : Nat} (hE : RefB w g ty dev (.slice A2 n2 c2) st d (.slice A3 n3 c3)) :
    ∀ ad, A = some ad → 0 < n → ¬ only g ad.block := by
  rintro ad rfl hn hg
  obtain ⟨ad', e, hx⟩ := cell0 h 0 hn
  cases e
  have hb : ad.block = g := hg
  have h2 : w.cell? ad = some (.int .u8 (rd l 0)) := hx
  obtain ⟨b, o, s⟩ := ad
  subst hb
  have hs : s = none := by simpa using World.cell?_spot h2
  subst hs
  have h3 := (blk_cell hE o).symm.trans h2
  have h5 : o < 6 := by
    have := (Array.getElem?_eq_some_iff.1 h3).1
    simpa using this
  match o, h5 with
  | 0, _ | 1, _ | 2, _ | 3, _ | 4, _ | 5, _ => simp at h3
set_option maxRecDepth 100000 in
set_option maxHeartbeats 2000000 in
theorem rh_form1 (w : World) (h : Nat) (A : Option Addr) (n c : Nat) (l : List Int) (s : ByteArray) (hs : s = Go.strOfNums l) (hr : Kd.C (Kd.int .u8) w A n l) (he : (s.toList == [1]) = false) :
    Calls Try.prog 42 #[.pointer (some ⟨h, 0, none⟩), .int .u8 24, .slice A n c] w fun e w' => e = .returned (.tuple #[.slice none 0 0, .int .i64 4]) ∧ w = w' := by
  have hcv : (convert 49 9 (.slice A n c)).run Try.prog w = .ok (.string s) w := by rw [hs]; exact Kd.C_string (P := Try.prog) Try.underlying49 Try.underlying5 Try.underlying9 hr
  clear hs
  go_enter Try.func42, Try.ntmps42
  go_wp2
  go_ret2
  exact ⟨rfl, rfl⟩
set_option maxRecDepth 100000 in
set_option maxHeartbeats 2000000 in
theorem rh_none (w : World) (h : Nat) (A : Option Addr) (n c : Nat) (l : List Int) (s : ByteArray) (hs : s = Go.strOfNums l) (hr : Kd.C (Kd.int .u8) w A n l) (op : Int) (h24 : (op == 24) = false) (h40 : (op == 40) = false) :
    Calls Try.prog 42 #[.pointer (some ⟨h, 0, none⟩), .int .u8 op, .slice A n c] w fun e w' => e = .returned (.tuple #[.slice none 0 0, .int .i64 5]) ∧ w = w' := by
  have hcv : (convert 49 9 (.slice A n c)).run Try.prog w = .ok (.string s) w := by rw [hs]; exact Kd.C_string (P := Try.prog) Try.underlying49 Try.underlying5 Try.underlying9 hr
  clear hs
  go_enter Try.func42, Try.ntmps42
  go_wp2
  go_ret2
  exact ⟨rfl, rfl⟩
set_option maxRecDepth 100000 in
set_option maxHeartbeats 2000000 in
theorem rh_ask4 (w : World) (h : Nat) (A : Option Addr) (n c : Nat) (l : List Int) (s : ByteArray) (hs : s = Go.strOfNums l) (hr : Kd.C (Kd.int .u8) w A n l) (ty dev : ByteArray) (F : Option Addr) (nf cf : Nat) (fl : List Int) (st : Int) (d : ByteArray) (G : Option Addr) (ng cg : Nat) (hE : RefB w h ty dev (.slice F nf cf) st d (.slice G ng cg)) (he : (s.toList == [8, 2]) = true) (h4 : st = 4) :
    Calls Try.prog 42 #[.pointer (some ⟨h, 0, none⟩), .int .u8 40, .slice A n c] w fun e w' => e = .returned (.tuple #[.slice none 0 0, .int .i64 6]) ∧ w = w' := by
  have hcv : (convert 49 9 (.slice A n c)).run Try.prog w = .ok (.string s) w := by rw [hs]; exact Kd.C_string (P := Try.prog) Try.underlying49 Try.underlying5 Try.underlying9 hr
  subst h4
  have hc3 : w.cell? ⟨h, 3, none⟩ = some (.int .i64 4) := blk_cell hE 3
  clear hE
  clear hs
  go_enter Try.func42, Try.ntmps42
  go_wp2
  go_ret2
  exact ⟨rfl, rfl⟩
set_option maxRecDepth 100000 in
set_option maxHeartbeats 2000000 in
theorem rh_short (w : World) (h : Nat) (A : Option Addr) (n c : Nat) (l : List Int) (s : ByteArray) (hs : s = Go.strOfNums l) (hr : Kd.C (Kd.int .u8) w A n l) (he : (s.toList == [8, 2]) = false) (hn : decide ((n : Int) < 2) = true) :
    Calls Try.prog 42 #[.pointer (some ⟨h, 0, none⟩), .int .u8 40, .slice A n c] w fun e w' => e = .returned (.tuple #[.slice none 0 0, .int .i64 4]) ∧ w = w' := by
  have hcv : (convert 49 9 (.slice A n c)).run Try.prog w = .ok (.string s) w := by rw [hs]; exact Kd.C_string (P := Try.prog) Try.underlying49 Try.underlying5 Try.underlying9 hr
  clear hs
  go_enter Try.func42, Try.ntmps42
  go_wp2
  go_ret2
  exact ⟨rfl, rfl⟩
set_option maxRecDepth 100000 in
set_option maxHeartbeats 2000000 in
theorem rh_other (w : World) (h : Nat) (A : Option Addr) (n c : Nat) (l : List Int) (s : ByteArray) (hs : s = Go.strOfNums l) (hr : Kd.C (Kd.int .u8) w A n l) (s2 : ByteArray) (hsl : ∀ W, (Instr.slice 9 (.string s) none (some (.int .i64 2)) none).run Try.prog W = .ok (.string s2) W) (he : (s.toList == [8, 2]) = false) (hn2 : 2 ≤ n) (hnc : n ≤ c) (q26 : (s2.toList == [2, 6]) = false) (q24 : (s2.toList == [2, 4]) = false) (q34 : (s2.toList == [3, 4]) = false) (q37 : (s2.toList == [3, 7]) = false) :
    Calls Try.prog 42 #[.pointer (some ⟨h, 0, none⟩), .int .u8 40, .slice A n c] w fun e w' => e = .returned (.tuple #[.slice none 0 0, .int .i64 4]) ∧ w = w' := by
  have hcv : (convert 49 9 (.slice A n c)).run Try.prog w = .ok (.string s) w := by rw [hs]; exact Kd.C_string (P := Try.prog) Try.underlying49 Try.underlying5 Try.underlying9 hr
  have hn : decide ((n : Int) < 2) = false := decide_eq_false (by omega)
  obtain ⟨A2, hd2, hD2⟩ : ∃ A2, (∀ W, (Instr.slice 49 (.slice A n c) (some (.int .i64 2)) none none).run Try.prog W = .ok (.slice A2 (n - 2) (c - 2)) W) ∧ Kd.C (Kd.int .u8) w A2 (n - 2) (l.drop 2) := ⟨_, fun W => slice_drop A n c 2 hn2 W, C_drop hr 2 c hn2 hnc⟩
  have HD2 := Aside0.mk hD2
  clear hD2
  clear hs
  go_enter Try.func42, Try.ntmps42
  go_wp2
  go_ret2
  exact ⟨rfl, rfl⟩
set_option maxRecDepth 100000 in
set_option maxHeartbeats 2000000 in
theorem rh_26len (w : World) (h : Nat) (A : Option Addr) (n c : Nat) (l : List Int) (s : ByteArray) (hs : s = Go.strOfNums l) (hr : Kd.C (Kd.int .u8) w A n l) (s2 : ByteArray) (hsl : ∀ W, (Instr.slice 9 (.string s) none (some (.int .i64 2)) none).run Try.prog W = .ok (.string s2) W) (he : (s.toList == [8, 2]) = false) (hn2 : 2 ≤ n) (hnc : n ≤ c) (q26 : (s2.toList == [2, 6]) = true) (hn4 : ((n : Int) != 4) = true) :
    Calls Try.prog 42 #[.pointer (some ⟨h, 0, none⟩), .int .u8 40, .slice A n c] w fun e w' => e = .returned (.tuple #[.slice none 0 0, .int .i64 4]) ∧ w = w' := by
  have hcv : (convert 49 9 (.slice A n c)).run Try.prog w = .ok (.string s) w := by rw [hs]; exact Kd.C_string (P := Try.prog) Try.underlying49 Try.underlying5 Try.underlying9 hr
  have hn : decide ((n : Int) < 2) = false := decide_eq_false (by omega)
  obtain ⟨A2, hd2, hD2⟩ : ∃ A2, (∀ W, (Instr.slice 49 (.slice A n c) (some (.int .i64 2)) none none).run Try.prog W = .ok (.slice A2 (n - 2) (c - 2)) W) ∧ Kd.C (Kd.int .u8) w A2 (n - 2) (l.drop 2) := ⟨_, fun W => slice_drop A n c 2 hn2 W, C_drop hr 2 c hn2 hnc⟩
  have HD2 := Aside0.mk hD2
  clear hD2
  clear hs
  go_enter Try.func42, Try.ntmps42
  go_wp2
  go_ret2
  exact ⟨rfl, rfl⟩
set_option maxRecDepth 100000 in
set_option maxHeartbeats 2000000 in
theorem rh_26form (w : World) (h : Nat) (A : Option Addr) (n c : Nat) (l : List Int) (s : ByteArray) (hs : s = Go.strOfNums l) (hr : Kd.C (Kd.int .u8) w A n l) (s2 : ByteArray) (hsl : ∀ W, (Instr.slice 9 (.string s) none (some (.int .i64 2)) none).run Try.prog W = .ok (.string s2) W) (he : (s.toList == [8, 2]) = false) (hn2 : 2 ≤ n) (hnc : n ≤ c) (q26 : (s2.toList == [2, 6]) = true) (hn4 : n = 4) (h5 : (rd l 2 == 5) = false) :
    Calls Try.prog 42 #[.pointer (some ⟨h, 0, none⟩), .int .u8 40, .slice A n c] w fun e w' => e = .returned (.tuple #[.slice none 0 0, .int .i64 4]) ∧ w = w' := by
  have hcv : (convert 49 9 (.slice A n c)).run Try.prog w = .ok (.string s) w := by rw [hs]; exact Kd.C_string (P := Try.prog) Try.underlying49 Try.underlying5 Try.underlying9 hr
  have hn : decide ((n : Int) < 2) = false := decide_eq_false (by omega)
  obtain ⟨A2, hd2, hD2⟩ : ∃ A2, (∀ W, (Instr.slice 49 (.slice A n c) (some (.int .i64 2)) none none).run Try.prog W = .ok (.slice A2 (n - 2) (c - 2)) W) ∧ Kd.C (Kd.int .u8) w A2 (n - 2) (l.drop 2) := ⟨_, fun W => slice_drop A n c 2 hn2 W, C_drop hr 2 c hn2 hnc⟩
  have HD2 := Aside0.mk hD2
  clear hD2
  subst hn4
  obtain ⟨ad, rfl, x2⟩ := cellN hr 2 (by omega) (by omega)
  replace x2 : w.cell? ⟨ad.block, ad.off + 2, none⟩ = some (.int .u8 (rd l 2)) := x2
  clear hs
  go_enter Try.func42, Try.ntmps42
  go_wp2
  go_ret2
  exact ⟨rfl, rfl⟩
set_option maxRecDepth 100000 in
set_option maxHeartbeats 2000000 in
theorem rh_26state (w : World) (h : Nat) (A : Option Addr) (n c : Nat) (l : List Int) (s : ByteArray) (hs : s = Go.strOfNums l) (hr : Kd.C (Kd.int .u8) w A n l) (ty dev : ByteArray) (F : Option Addr) (nf cf : Nat) (fl : List Int) (st : Int) (d : ByteArray) (G : Option Addr) (ng cg : Nat) (hE : RefB w h ty dev (.slice F nf cf) st d (.slice G ng cg)) (s2 : ByteArray) (hsl : ∀ W, (Instr.slice 9 (.string s) none (some (.int .i64 2)) none).run Try.prog W = .ok (.string s2) W) (he : (s.toList == [8, 2]) = false) (hn2 : 2 ≤ n) (hnc : n ≤ c) (q26 : (s2.toList == [2, 6]) = true) (hn4 : n = 4) (h5 : rd l 2 = 5) (h1 : (st == 1) = false) :
    Calls Try.prog 42 #[.pointer (some ⟨h, 0, none⟩), .int .u8 40, .slice A n c] w fun e w' => e = .returned (.tuple #[.slice none 0 0, .int .i64 6]) ∧ w = w' := by
  have hcv : (convert 49 9 (.slice A n c)).run Try.prog w = .ok (.string s) w := by rw [hs]; exact Kd.C_string (P := Try.prog) Try.underlying49 Try.underlying5 Try.underlying9 hr
  have hn : decide ((n : Int) < 2) = false := decide_eq_false (by omega)
  obtain ⟨A2, hd2, hD2⟩ : ∃ A2, (∀ W, (Instr.slice 49 (.slice A n c) (some (.int .i64 2)) none none).run Try.prog W = .ok (.slice A2 (n - 2) (c - 2)) W) ∧ Kd.C (Kd.int .u8) w A2 (n - 2) (l.drop 2) := ⟨_, fun W => slice_drop A n c 2 hn2 W, C_drop hr 2 c hn2 hnc⟩
  have HD2 := Aside0.mk hD2
  clear hD2
  subst hn4
  obtain ⟨ad, rfl, x2⟩ := cellN hr 2 (by omega) (by omega)
  replace x2 : w.cell? ⟨ad.block, ad.off + 2, none⟩ = some (.int .u8 5) := x2.trans (by rw [← h5]; rfl)
  have hc3 : w.cell? ⟨h, 3, none⟩ = some (.int .i64 st) := blk_cell hE 3
  clear hE
  clear hs
  go_enter Try.func42, Try.ntmps42
  go_wp2
  go_ret2
  exact ⟨rfl, rfl⟩
set_option maxRecDepth 100000 in
set_option maxHeartbeats 2000000 in
theorem rh_26 (w : World) (h : Nat) (A : Option Addr) (n c : Nat) (l : List Int) (s : ByteArray) (hs : s = Go.strOfNums l) (hr : Kd.C (Kd.int .u8) w A n l) (ty dev : ByteArray) (F : Option Addr) (nf cf : Nat) (fl : List Int) (st : Int) (d : ByteArray) (G : Option Addr) (ng cg : Nat) (hE : RefB w h ty dev (.slice F nf cf) st d (.slice G ng cg)) (s2 : ByteArray) (hsl : ∀ W, (Instr.slice 9 (.string s) none (some (.int .i64 2)) none).run Try.prog W = .ok (.string s2) W) (he : (s.toList == [8, 2]) = false) (hn2 : 2 ≤ n) (hnc : n ≤ c) (q26 : (s2.toList == [2, 6]) = true) (hn4 : n = 4) (h5 : rd l 2 = 5) (h1 : st = 1) :
    Calls Try.prog 42 #[.pointer (some ⟨h, 0, none⟩), .int .u8 40, .slice A n c] w fun e w' => e = .returned (.tuple #[.slice none 0 0, .int .i64 0]) ∧ RefB w' h ty dev (.slice F nf cf) 4 d (.slice G ng cg) ∧ Fr (only h) w w' := by
  have hcv : (convert 49 9 (.slice A n c)).run Try.prog w = .ok (.string s) w := by rw [hs]; exact Kd.C_string (P := Try.prog) Try.underlying49 Try.underlying5 Try.underlying9 hr
  have hn : decide ((n : Int) < 2) = false := decide_eq_false (by omega)
  obtain ⟨A2, hd2, hD2⟩ : ∃ A2, (∀ W, (Instr.slice 49 (.slice A n c) (some (.int .i64 2)) none none).run Try.prog W = .ok (.slice A2 (n - 2) (c - 2)) W) ∧ Kd.C (Kd.int .u8) w A2 (n - 2) (l.drop 2) := ⟨_, fun W => slice_drop A n c 2 hn2 W, C_drop hr 2 c hn2 hnc⟩
  have HD2 := Aside0.mk hD2
  clear hD2
  subst hn4
  obtain ⟨ad, rfl, x2⟩ := cellN hr 2 (by omega) (by omega)
  replace x2 : w.cell? ⟨ad.block, ad.off + 2, none⟩ = some (.int .u8 5) := x2.trans (by rw [← h5]; rfl)
  subst h1
  have hc3 : w.cell? ⟨h, 3, none⟩ = some (.int .i64 1) := blk_cell hE 3
  have hf3 := blk_frozen hE 3
  have HE := Aside0.mk hE
  clear hs hE
  go_enter Try.func42, Try.ntmps42
  go_wp2
  go_ret2
  exact ⟨rfl, blk_put HE.out 3 _ rfl, (Fr.refl (only h) w).setCell (p := ⟨h, 3, none⟩) (.inl rfl) _⟩
set_option maxRecDepth 100000 in
set_option maxHeartbeats 2000000 in
theorem rh_24form (w : World) (h : Nat) (A : Option Addr) (n c : Nat) (l : List Int) (s : ByteArray) (hs : s = Go.strOfNums l) (hr : Kd.C (Kd.int .u8) w A n l) (s2 : ByteArray) (hsl : ∀ W, (Instr.slice 9 (.string s) none (some (.int .i64 2)) none).run Try.prog W = .ok (.string s2) W) (he : (s.toList == [8, 2]) = false) (hn2 : 2 ≤ n) (hnc : n ≤ c) (q26 : (s2.toList == [2, 6]) = false) (q24 : (s2.toList == [2, 4]) = true) (hrng : ∀ x ∈ l, 0 ≤ x ∧ x < 256) (hm : n ≤ 1000000) (hb : gotB (l.drop 2) = false) :
    Calls Try.prog 42 #[.pointer (some ⟨h, 0, none⟩), .int .u8 40, .slice A n c] w fun e w' => e = .returned (.tuple #[.slice none 0 0, .int .i64 4]) ∧ Below w.heap.size w w' := by
  have hcv : (convert 49 9 (.slice A n c)).run Try.prog w = .ok (.string s) w := by rw [hs]; exact Kd.C_string (P := Try.prog) Try.underlying49 Try.underlying5 Try.underlying9 hr
  have hn : decide ((n : Int) < 2) = false := decide_eq_false (by omega)
  obtain ⟨A2, hd2, hD2⟩ : ∃ A2, (∀ W, (Instr.slice 49 (.slice A n c) (some (.int .i64 2)) none none).run Try.prog W = .ok (.slice A2 (n - 2) (c - 2)) W) ∧ Kd.C (Kd.int .u8) w A2 (n - 2) (l.drop 2) := ⟨_, fun W => slice_drop A n c 2 hn2 W, C_drop hr 2 c hn2 hnc⟩
  have HD2 := Aside0.mk hD2
  clear hD2
  have HRG := Aside0.mk (fun x (hx : x ∈ l.drop 2) => hrng x (List.mem_of_mem_drop hx))
  have HH := Aside0.mk (And.intro (show n - 2 ≤ c - 2 by omega) (show n - 2 ≤ 1000000 by omega))
  clear hrng hr hm
  generalize l.drop 2 = dl at *
  have HB := Aside0.mk hb
  clear hb
  clear hs
  go_enter Try.func42, Try.ntmps42
  go_wp2_with (first | (go_at_call 61; go_must (refine (names_any _ _ _ dl _ HD2.out HH.out.1 (by have := HH.out.2; omega) HRG.out).mono ?_; rw [HB.out]; rintro e w4 ⟨rfl, q4, rfl⟩)))
  go_ret2
  exact ⟨rfl, pw_below_drewN (Below.refl _ _) _⟩
set_option maxRecDepth 100000 in
set_option maxHeartbeats 2000000 in
theorem rh_24state (w : World) (h : Nat) (A : Option Addr) (n c : Nat) (l : List Int) (s : ByteArray) (hs : s = Go.strOfNums l) (hr : Kd.C (Kd.int .u8) w A n l) (ty dev : ByteArray) (F : Option Addr) (nf cf : Nat) (fl : List Int) (st : Int) (d : ByteArray) (G : Option Addr) (ng cg : Nat) (hE : RefB w h ty dev (.slice F nf cf) st d (.slice G ng cg)) (s2 : ByteArray) (hsl : ∀ W, (Instr.slice 9 (.string s) none (some (.int .i64 2)) none).run Try.prog W = .ok (.string s2) W) (he : (s.toList == [8, 2]) = false) (hn2 : 2 ≤ n) (hnc : n ≤ c) (q26 : (s2.toList == [2, 6]) = false) (q24 : (s2.toList == [2, 4]) = true) (hrng : ∀ x ∈ l, 0 ≤ x ∧ x < 256) (hm : n ≤ 1000000) (hb : gotB (l.drop 2) = true) (h1 : (st != 1) = true) :
    Calls Try.prog 42 #[.pointer (some ⟨h, 0, none⟩), .int .u8 40, .slice A n c] w fun e w' => e = .returned (.tuple #[.slice none 0 0, .int .i64 6]) ∧ Below w.heap.size w w' := by
  have hcv : (convert 49 9 (.slice A n c)).run Try.prog w = .ok (.string s) w := by rw [hs]; exact Kd.C_string (P := Try.prog) Try.underlying49 Try.underlying5 Try.underlying9 hr
  have hn : decide ((n : Int) < 2) = false := decide_eq_false (by omega)
  obtain ⟨A2, hd2, hD2⟩ : ∃ A2, (∀ W, (Instr.slice 49 (.slice A n c) (some (.int .i64 2)) none none).run Try.prog W = .ok (.slice A2 (n - 2) (c - 2)) W) ∧ Kd.C (Kd.int .u8) w A2 (n - 2) (l.drop 2) := ⟨_, fun W => slice_drop A n c 2 hn2 W, C_drop hr 2 c hn2 hnc⟩
  have HD2 := Aside0.mk hD2
  clear hD2
  have HRG := Aside0.mk (fun x (hx : x ∈ l.drop 2) => hrng x (List.mem_of_mem_drop hx))
  have HH := Aside0.mk (And.intro (show n - 2 ≤ c - 2 by omega) (show n - 2 ≤ 1000000 by omega))
  clear hrng hr hm
  generalize l.drop 2 = dl at *
  have HB := Aside0.mk hb
  have hc3 : w.cell? ⟨h, 3, none⟩ = some (.int .i64 st) := blk_cell hE 3
  clear hb hE
  clear hs
  go_enter Try.func42, Try.ntmps42
  go_wp2_with (first | (go_at_call 61; go_must (refine (names_any _ _ _ dl _ HD2.out HH.out.1 (by have := HH.out.2; omega) HRG.out).mono ?_; rw [HB.out]; rintro e w4 ⟨rfl, q4, rfl⟩)))
  go_ret2
  exact ⟨rfl, pw_below_drewN (Below.refl _ _) _⟩
set_option maxRecDepth 100000 in
set_option maxHeartbeats 2000000 in
theorem rh_24 (w : World) (h : Nat) (A : Option Addr) (n c : Nat) (l : List Int) (s : ByteArray) (hs : s = Go.strOfNums l) (hr : Kd.C (Kd.int .u8) w A n l) (ty dev : ByteArray) (F : Option Addr) (nf cf : Nat) (fl : List Int) (st : Int) (d : ByteArray) (G : Option Addr) (ng cg : Nat) (hE : RefB w h ty dev (.slice F nf cf) st d (.slice G ng cg)) (s2 : ByteArray) (hsl : ∀ W, (Instr.slice 9 (.string s) none (some (.int .i64 2)) none).run Try.prog W = .ok (.string s2) W) (he : (s.toList == [8, 2]) = false) (hn2 : 2 ≤ n) (hnc : n ≤ c) (q26 : (s2.toList == [2, 6]) = false) (q24 : (s2.toList == [2, 4]) = true) (hrng : ∀ x ∈ l, 0 ≤ x ∧ x < 256) (hm : n ≤ 1000000) (hF : Kd.C (Kd.int .u8) w F nf fl) (hcf : nf ≤ cf) (hnf : nf ≤ 1000000) (hrf : ∀ x ∈ fl, 0 ≤ x ∧ x < 256) (hb : gotB (l.drop 2) = true) (h1 : st = 1) :
    Calls Try.prog 42 #[.pointer (some ⟨h, 0, none⟩), .int .u8 40, .slice A n c] w fun e w' => ∃ v, e = .returned (.tuple #[v, .int .i64 0]) ∧ OwnB w' w.heap.size v ([3, 7] ++ fl) ∧ RefB w' h ty dev (.slice F nf cf) 2 (gotS (l.drop 2)) (.slice none 0 0) ∧ Fr (only h) w w' := by
  have hcv : (convert 49 9 (.slice A n c)).run Try.prog w = .ok (.string s) w := by rw [hs]; exact Kd.C_string (P := Try.prog) Try.underlying49 Try.underlying5 Try.underlying9 hr
  have hn : decide ((n : Int) < 2) = false := decide_eq_false (by omega)
  obtain ⟨A2, hd2, hD2⟩ : ∃ A2, (∀ W, (Instr.slice 49 (.slice A n c) (some (.int .i64 2)) none none).run Try.prog W = .ok (.slice A2 (n - 2) (c - 2)) W) ∧ Kd.C (Kd.int .u8) w A2 (n - 2) (l.drop 2) := ⟨_, fun W => slice_drop A n c 2 hn2 W, C_drop hr 2 c hn2 hnc⟩
  have HD2 := Aside0.mk hD2
  clear hD2
  have HRG := Aside0.mk (fun x (hx : x ∈ l.drop 2) => hrng x (List.mem_of_mem_drop hx))
  have HH := Aside0.mk (And.intro (show n - 2 ≤ c - 2 by omega) (show n - 2 ≤ 1000000 by omega))
  clear hrng hr hm
  generalize l.drop 2 = dl at *
  have HB := Aside0.mk hb
  subst h1
  have HAP := Aside0.mk (C_apart78 hF hE)
  have HFF := Aside0.mk (And.intro hF hnf)
  have hlt : h < w.heap.size := blk_lt hE
  have hc3 : w.cell? ⟨h, 3, none⟩ = some (.int .i64 1) := blk_cell hE 3
  have hc4 : w.cell? ⟨h, 4, none⟩ = some (.string d) := blk_cell hE 4
  have hc5 : w.cell? ⟨h, 5, none⟩ = some (.slice G ng cg) := blk_cell hE 5
  have hf3 := blk_frozen hE 3
  have hf4 := blk_frozen hE 4
  have hf5 := blk_frozen hE 5
  have HE := Aside0.mk hE
  clear hb hE hF hnf hrf
  obtain ⟨gS, hgs⟩ : ∃ t, gotS dl = t := ⟨_, rfl⟩
  rw [hgs]
  have HGS := Aside0.mk hgs
  clear hgs
  clear hs
  go_enter Try.func42, Try.ntmps42
  go_wp2_with (first | (go_at_call 61; go_must (refine (names_any _ _ _ dl _ HD2.out HH.out.1 (by have := HH.out.2; omega) HRG.out).mono ?_; rw [HB.out, HGS.out]; rintro e w4 ⟨rfl, q4, rfl⟩)) | ((with_reducible refine gate_dst (N := 123) rfl ?_); go_must (refine litE w.heap.size rfl (N := 123) rfl [3, 7] ?zr ?zb ?zl ?_; (case zr => first | (go_simp; done) | (go_simp; rfl)); (case zb => simp); (case zl => simp); intro v7 w7 ho7 hb7 hfr7; have BK : RefB w7 h ty dev (.slice F nf cf) 2 gS (.slice none 0 0) := blk_below (by exact blk_put (blk_put (blk_put (blk_drewN HE.out q4) 3 _ rfl) 4 _ rfl) 5 _ rfl) hb7; have HF7 := Aside0.mk (Fr.below (by exact ((((Fr.refl (only h) w).drewN q4).setCell (p := ⟨h, 3, none⟩) (.inl rfl) _).setCell (p := ⟨h, 4, none⟩) (.inl rfl) _).setCell (p := ⟨h, 5, none⟩) (.inl rfl) _) hb7 : Fr (only h) w w7); have y2 := (blk_cell BK 2).trans rfl; have HO7 := Aside0.mk ho7; have HB7 := Aside0.mk BK; have HK7 := Aside0.mk (own_ge ho7); clear ho7 hb7 hfr7 BK hc3 hc4 hc5 hf3 hf4 hf5)) | (at_builtin; go_must (refine appL w.heap.size rfl (.tmp 123) (.tmp 128) rfl _ [3, 7] fl F nf cf rfl rfl HO7.out (C_fr HFF.out.1 HF7.out HAP.out) HF7.out.size ?z4 ?_; (case z4 => (have h4 := HFF.out.2; simp only [List.length_cons, List.length_nil]; omega)); intro v8 w8 ho8 hg8; have BK8 := blk_grown HB7.out hg8 (fun e => Nat.lt_irrefl _ (Nat.lt_of_lt_of_le hlt (HK7.out h e.symm))); have HF8 := Aside0.mk (HF7.out.grown hg8 (fun i hi => .inr (HK7.out i hi))); obtain ⟨A8, m8, c8, rfl, _, _, _⟩ := OwnB.open ho8; have HO8 := Aside0.mk ho8; have HB8 := Aside0.mk (show RefB w8 h ty dev (.slice F nf cf) 2 gS (.slice none 0 0) from BK8); clear ho8 hg8 BK8)))
  go_ret2
  exact ⟨_, rfl, HO8.out, HB8.out, HF8.out⟩
set_option maxRecDepth 100000 in
set_option maxHeartbeats 2000000 in
theorem rh_34form (w : World) (h : Nat) (A : Option Addr) (n c : Nat) (l : List Int) (s : ByteArray) (hs : s = Go.strOfNums l) (hr : Kd.C (Kd.int .u8) w A n l) (ty dev : ByteArray) (F : Option Addr) (nf cf : Nat) (fl : List Int) (st : Int) (d : ByteArray) (G : Option Addr) (ng cg : Nat) (hE : RefB w h ty dev (.slice F nf cf) st d (.slice G ng cg)) (s2 : ByteArray) (hsl : ∀ W, (Instr.slice 9 (.string s) none (some (.int .i64 2)) none).run Try.prog W = .ok (.string s2) W) (he : (s.toList == [8, 2]) = false) (hn2 : 2 ≤ n) (hnc : n ≤ c) (q26 : (s2.toList == [2, 6]) = false) (q24 : (s2.toList == [2, 4]) = false) (q34 : (s2.toList == [3, 4]) = true) (hrng : ∀ x ∈ l, 0 ≤ x ∧ x < 256) (hm : n ≤ 1000000) (hF : Kd.C (Kd.int .u8) w F nf fl) (hcf : nf ≤ cf) (hnf : nf ≤ 1000000) (hrf : ∀ x ∈ fl, 0 ≤ x ∧ x < 256) (hb : onceB (l.drop 2) = false) :
    Calls Try.prog 42 #[.pointer (some ⟨h, 0, none⟩), .int .u8 40, .slice A n c] w fun e w' => e = .returned (.tuple #[.slice none 0 0, .int .i64 4]) ∧ Below w.heap.size w w' := by
  have hcv : (convert 49 9 (.slice A n c)).run Try.prog w = .ok (.string s) w := by rw [hs]; exact Kd.C_string (P := Try.prog) Try.underlying49 Try.underlying5 Try.underlying9 hr
  have hn : decide ((n : Int) < 2) = false := decide_eq_false (by omega)
  obtain ⟨A2, hd2, hD2⟩ : ∃ A2, (∀ W, (Instr.slice 49 (.slice A n c) (some (.int .i64 2)) none none).run Try.prog W = .ok (.slice A2 (n - 2) (c - 2)) W) ∧ Kd.C (Kd.int .u8) w A2 (n - 2) (l.drop 2) := ⟨_, fun W => slice_drop A n c 2 hn2 W, C_drop hr 2 c hn2 hnc⟩
  have HD2 := Aside0.mk hD2
  clear hD2
  have HRG := Aside0.mk (fun x (hx : x ∈ l.drop 2) => hrng x (List.mem_of_mem_drop hx))
  have HH := Aside0.mk (And.intro (show n - 2 ≤ c - 2 by omega) (show n - 2 ≤ 1000000 by omega))
  clear hrng hr hm
  generalize l.drop 2 = dl at *
  have hcm := common_any w h ty dev F nf cf fl st d (.slice G ng cg) hE hF hcf hnf hrf A2 (n - 2) (c - 2) dl HD2.out HH.out.1 HH.out.2 HRG.out
  rw [hb] at hcm
  have HCM := Aside0.mk hcm
  clear hcm
  have HAP := Aside0.mk (C_apart78 hF hE)
  have HFF := Aside0.mk (And.intro hF hnf)
  have HDP := Aside0.mk (C_apart78 HD2.out hE)
  have hlt : h < w.heap.size := blk_lt hE
  have HE := Aside0.mk hE
  clear hE hF hcf hnf hrf hb
  clear hs
  go_enter Try.func42, Try.ntmps42
  go_wp2_with (first | (go_at_call 62; go_must (refine HCM.out.mono ?_; rintro e w4 ⟨v4, rfl, ho4, hb4⟩; obtain ⟨A4, n4, c4, rfl, hc4', hC4, _⟩ := OwnB.open ho4; have HC4 := Aside0.mk hC4; have HB4 := Aside0.mk hb4; clear ho4 hb4 hc4' hC4)))
  go_ret2
  exact ⟨rfl, HB4.out⟩
set_option maxRecDepth 100000 in
set_option maxHeartbeats 2000000 in
theorem rh_37form (w : World) (h : Nat) (A : Option Addr) (n c : Nat) (l : List Int) (s : ByteArray) (hs : s = Go.strOfNums l) (hr : Kd.C (Kd.int .u8) w A n l) (ty dev : ByteArray) (F : Option Addr) (nf cf : Nat) (fl : List Int) (st : Int) (d : ByteArray) (G : Option Addr) (ng cg : Nat) (hE : RefB w h ty dev (.slice F nf cf) st d (.slice G ng cg)) (s2 : ByteArray) (hsl : ∀ W, (Instr.slice 9 (.string s) none (some (.int .i64 2)) none).run Try.prog W = .ok (.string s2) W) (he : (s.toList == [8, 2]) = false) (hn2 : 2 ≤ n) (hnc : n ≤ c) (q26 : (s2.toList == [2, 6]) = false) (q24 : (s2.toList == [2, 4]) = false) (q34 : (s2.toList == [3, 4]) = false) (q37 : (s2.toList == [3, 7]) = true) (hrng : ∀ x ∈ l, 0 ≤ x ∧ x < 256) (hm : n ≤ 1000000) (hF : Kd.C (Kd.int .u8) w F nf fl) (hcf : nf ≤ cf) (hnf : nf ≤ 1000000) (hrf : ∀ x ∈ fl, 0 ≤ x ∧ x < 256) (hb : onceB (l.drop 2) = false) :
    Calls Try.prog 42 #[.pointer (some ⟨h, 0, none⟩), .int .u8 40, .slice A n c] w fun e w' => e = .returned (.tuple #[.slice none 0 0, .int .i64 4]) ∧ Below w.heap.size w w' := by
  have hcv : (convert 49 9 (.slice A n c)).run Try.prog w = .ok (.string s) w := by rw [hs]; exact Kd.C_string (P := Try.prog) Try.underlying49 Try.underlying5 Try.underlying9 hr
  have hn : decide ((n : Int) < 2) = false := decide_eq_false (by omega)
  obtain ⟨A2, hd2, hD2⟩ : ∃ A2, (∀ W, (Instr.slice 49 (.slice A n c) (some (.int .i64 2)) none none).run Try.prog W = .ok (.slice A2 (n - 2) (c - 2)) W) ∧ Kd.C (Kd.int .u8) w A2 (n - 2) (l.drop 2) := ⟨_, fun W => slice_drop A n c 2 hn2 W, C_drop hr 2 c hn2 hnc⟩
  have HD2 := Aside0.mk hD2
  clear hD2
  have HRG := Aside0.mk (fun x (hx : x ∈ l.drop 2) => hrng x (List.mem_of_mem_drop hx))
  have HH := Aside0.mk (And.intro (show n - 2 ≤ c - 2 by omega) (show n - 2 ≤ 1000000 by omega))
  clear hrng hr hm
  generalize l.drop 2 = dl at *
  have hcm := common_any w h ty dev F nf cf fl st d (.slice G ng cg) hE hF hcf hnf hrf A2 (n - 2) (c - 2) dl HD2.out HH.out.1 HH.out.2 HRG.out
  rw [hb] at hcm
  have HCM := Aside0.mk hcm
  clear hcm
  have HAP := Aside0.mk (C_apart78 hF hE)
  have HFF := Aside0.mk (And.intro hF hnf)
  have HDP := Aside0.mk (C_apart78 HD2.out hE)
  have hlt : h < w.heap.size := blk_lt hE
  have HE := Aside0.mk hE
  clear hE hF hcf hnf hrf hb
  clear hs
  go_enter Try.func42, Try.ntmps42
  go_wp2_with (first | (go_at_call 62; go_must (refine HCM.out.mono ?_; rintro e w4 ⟨v4, rfl, ho4, hb4⟩; obtain ⟨A4, n4, c4, rfl, hc4', hC4, _⟩ := OwnB.open ho4; have HC4 := Aside0.mk hC4; have HB4 := Aside0.mk hb4; clear ho4 hb4 hc4' hC4)))
  go_ret2
  exact ⟨rfl, HB4.out⟩
set_option maxRecDepth 100000 in
set_option maxHeartbeats 2000000 in
theorem rh_34state (w : World) (h : Nat) (A : Option Addr) (n c : Nat) (l : List Int) (s : ByteArray) (hs : s = Go.strOfNums l) (hr : Kd.C (Kd.int .u8) w A n l) (ty dev : ByteArray) (F : Option Addr) (nf cf : Nat) (fl : List Int) (st : Int) (d : ByteArray) (G : Option Addr) (ng cg : Nat) (hE : RefB w h ty dev (.slice F nf cf) st d (.slice G ng cg)) (s2 : ByteArray) (hsl : ∀ W, (Instr.slice 9 (.string s) none (some (.int .i64 2)) none).run Try.prog W = .ok (.string s2) W) (he : (s.toList == [8, 2]) = false) (hn2 : 2 ≤ n) (hnc : n ≤ c) (q26 : (s2.toList == [2, 6]) = false) (q24 : (s2.toList == [2, 4]) = false) (q34 : (s2.toList == [3, 4]) = true) (hrng : ∀ x ∈ l, 0 ≤ x ∧ x < 256) (hm : n ≤ 1000000) (hF : Kd.C (Kd.int .u8) w F nf fl) (hcf : nf ≤ cf) (hnf : nf ≤ 1000000) (hrf : ∀ x ∈ fl, 0 ≤ x ∧ x < 256) (hb : onceB (l.drop 2) = true) (h2 : (st != 2) = true) :
    Calls Try.prog 42 #[.pointer (some ⟨h, 0, none⟩), .int .u8 40, .slice A n c] w fun e w' => e = .returned (.tuple #[.slice none 0 0, .int .i64 6]) ∧ Below w.heap.size w w' := by
  have hcv : (convert 49 9 (.slice A n c)).run Try.prog w = .ok (.string s) w := by rw [hs]; exact Kd.C_string (P := Try.prog) Try.underlying49 Try.underlying5 Try.underlying9 hr
  have hn : decide ((n : Int) < 2) = false := decide_eq_false (by omega)
  obtain ⟨A2, hd2, hD2⟩ : ∃ A2, (∀ W, (Instr.slice 49 (.slice A n c) (some (.int .i64 2)) none none).run Try.prog W = .ok (.slice A2 (n - 2) (c - 2)) W) ∧ Kd.C (Kd.int .u8) w A2 (n - 2) (l.drop 2) := ⟨_, fun W => slice_drop A n c 2 hn2 W, C_drop hr 2 c hn2 hnc⟩
  have HD2 := Aside0.mk hD2
  clear hD2
  have HRG := Aside0.mk (fun x (hx : x ∈ l.drop 2) => hrng x (List.mem_of_mem_drop hx))
  have HH := Aside0.mk (And.intro (show n - 2 ≤ c - 2 by omega) (show n - 2 ≤ 1000000 by omega))
  clear hrng hr hm
  generalize l.drop 2 = dl at *
  have hcm := common_any w h ty dev F nf cf fl st d (.slice G ng cg) hE hF hcf hnf hrf A2 (n - 2) (c - 2) dl HD2.out HH.out.1 HH.out.2 HRG.out
  rw [hb] at hcm
  have HCM := Aside0.mk hcm
  clear hcm
  have HAP := Aside0.mk (C_apart78 hF hE)
  have HFF := Aside0.mk (And.intro hF hnf)
  have HDP := Aside0.mk (C_apart78 HD2.out hE)
  have hlt : h < w.heap.size := blk_lt hE
  have HE := Aside0.mk hE
  clear hE hF hcf hnf hrf hb
  clear hs
  go_enter Try.func42, Try.ntmps42
  go_wp2_with (first | (go_at_call 62; go_must (refine HCM.out.mono ?_; rintro e w4 ⟨v4, rfl, ho4, hb4⟩; obtain ⟨A4, n4, c4, rfl, hc4', hC4, _⟩ := OwnB.open ho4; have HC4 := Aside0.mk hC4; have HB4 := Aside0.mk hb4; have hc3 : w4.cell? ⟨h, 3, none⟩ = some (.int .i64 st) := (blk_cell (blk_below HE.out HB4.out) 3).trans rfl; clear ho4 hb4 hc4' hC4)))
  go_ret2
  exact ⟨rfl, HB4.out⟩
set_option maxRecDepth 100000 in
set_option maxHeartbeats 2000000 in
theorem rh_37state (w : World) (h : Nat) (A : Option Addr) (n c : Nat) (l : List Int) (s : ByteArray) (hs : s = Go.strOfNums l) (hr : Kd.C (Kd.int .u8) w A n l) (ty dev : ByteArray) (F : Option Addr) (nf cf : Nat) (fl : List Int) (st : Int) (d : ByteArray) (G : Option Addr) (ng cg : Nat) (hE : RefB w h ty dev (.slice F nf cf) st d (.slice G ng cg)) (s2 : ByteArray) (hsl : ∀ W, (Instr.slice 9 (.string s) none (some (.int .i64 2)) none).run Try.prog W = .ok (.string s2) W) (he : (s.toList == [8, 2]) = false) (hn2 : 2 ≤ n) (hnc : n ≤ c) (q26 : (s2.toList == [2, 6]) = false) (q24 : (s2.toList == [2, 4]) = false) (q34 : (s2.toList == [3, 4]) = false) (q37 : (s2.toList == [3, 7]) = true) (hrng : ∀ x ∈ l, 0 ≤ x ∧ x < 256) (hm : n ≤ 1000000) (hF : Kd.C (Kd.int .u8) w F nf fl) (hcf : nf ≤ cf) (hnf : nf ≤ 1000000) (hrf : ∀ x ∈ fl, 0 ≤ x ∧ x < 256) (hb : onceB (l.drop 2) = true) (h2 : (st != 2) = true) (h3 : (st != 3) = true) :
    Calls Try.prog 42 #[.pointer (some ⟨h, 0, none⟩), .int .u8 40, .slice A n c] w fun e w' => e = .returned (.tuple #[.slice none 0 0, .int .i64 6]) ∧ Below w.heap.size w w' := by
  have hcv : (convert 49 9 (.slice A n c)).run Try.prog w = .ok (.string s) w := by rw [hs]; exact Kd.C_string (P := Try.prog) Try.underlying49 Try.underlying5 Try.underlying9 hr
  have hn : decide ((n : Int) < 2) = false := decide_eq_false (by omega)
  obtain ⟨A2, hd2, hD2⟩ : ∃ A2, (∀ W, (Instr.slice 49 (.slice A n c) (some (.int .i64 2)) none none).run Try.prog W = .ok (.slice A2 (n - 2) (c - 2)) W) ∧ Kd.C (Kd.int .u8) w A2 (n - 2) (l.drop 2) := ⟨_, fun W => slice_drop A n c 2 hn2 W, C_drop hr 2 c hn2 hnc⟩
  have HD2 := Aside0.mk hD2
  clear hD2
  have HRG := Aside0.mk (fun x (hx : x ∈ l.drop 2) => hrng x (List.mem_of_mem_drop hx))
  have HH := Aside0.mk (And.intro (show n - 2 ≤ c - 2 by omega) (show n - 2 ≤ 1000000 by omega))
  clear hrng hr hm
  generalize l.drop 2 = dl at *
  have hcm := common_any w h ty dev F nf cf fl st d (.slice G ng cg) hE hF hcf hnf hrf A2 (n - 2) (c - 2) dl HD2.out HH.out.1 HH.out.2 HRG.out
  rw [hb] at hcm
  have HCM := Aside0.mk hcm
  clear hcm
  have HAP := Aside0.mk (C_apart78 hF hE)
  have HFF := Aside0.mk (And.intro hF hnf)
  have HDP := Aside0.mk (C_apart78 HD2.out hE)
  have hlt : h < w.heap.size := blk_lt hE
  have HE := Aside0.mk hE
  clear hE hF hcf hnf hrf hb
  clear hs
  go_enter Try.func42, Try.ntmps42
  go_wp2_with (first | (go_at_call 62; go_must (refine HCM.out.mono ?_; rintro e w4 ⟨v4, rfl, ho4, hb4⟩; obtain ⟨A4, n4, c4, rfl, hc4', hC4, _⟩ := OwnB.open ho4; have HC4 := Aside0.mk hC4; have HB4 := Aside0.mk hb4; have hc3 : w4.cell? ⟨h, 3, none⟩ = some (.int .i64 st) := (blk_cell (blk_below HE.out HB4.out) 3).trans rfl; clear ho4 hb4 hc4' hC4)))
  go_ret2
  exact ⟨rfl, HB4.out⟩
set_option maxRecDepth 100000 in
set_option maxHeartbeats 2000000 in
theorem rh_34not (w : World) (h : Nat) (A : Option Addr) (n c : Nat) (l : List Int) (s : ByteArray) (hs : s = Go.strOfNums l) (hr : Kd.C (Kd.int .u8) w A n l) (ty dev : ByteArray) (F : Option Addr) (nf cf : Nat) (fl : List Int) (st : Int) (d : ByteArray) (G : Option Addr) (ng cg : Nat) (hE : RefB w h ty dev (.slice F nf cf) st d (.slice G ng cg)) (s2 : ByteArray) (hsl : ∀ W, (Instr.slice 9 (.string s) none (some (.int .i64 2)) none).run Try.prog W = .ok (.string s2) W) (he : (s.toList == [8, 2]) = false) (hn2 : 2 ≤ n) (hnc : n ≤ c) (q26 : (s2.toList == [2, 6]) = false) (q24 : (s2.toList == [2, 4]) = false) (q34 : (s2.toList == [3, 4]) = true) (hrng : ∀ x ∈ l, 0 ≤ x ∧ x < 256) (hm : n ≤ 1000000) (hF : Kd.C (Kd.int .u8) w F nf fl) (hcf : nf ≤ cf) (hnf : nf ≤ 1000000) (hrf : ∀ x ∈ fl, 0 ≤ x ∧ x < 256) (hb : onceB (l.drop 2) = true) (ha : allIn fl (l.drop 2) = false) (h2 : st = 2) :
    Calls Try.prog 42 #[.pointer (some ⟨h, 0, none⟩), .int .u8 40, .slice A n c] w fun e w' => e = .returned (.tuple #[.slice none 0 0, .int .i64 0]) ∧ RefB w' h ty dev (.slice F nf cf) 4 d (.slice G ng cg) ∧ Fr (only h) w w' := by
  have hcv : (convert 49 9 (.slice A n c)).run Try.prog w = .ok (.string s) w := by rw [hs]; exact Kd.C_string (P := Try.prog) Try.underlying49 Try.underlying5 Try.underlying9 hr
  have hn : decide ((n : Int) < 2) = false := decide_eq_false (by omega)
  obtain ⟨A2, hd2, hD2⟩ : ∃ A2, (∀ W, (Instr.slice 49 (.slice A n c) (some (.int .i64 2)) none none).run Try.prog W = .ok (.slice A2 (n - 2) (c - 2)) W) ∧ Kd.C (Kd.int .u8) w A2 (n - 2) (l.drop 2) := ⟨_, fun W => slice_drop A n c 2 hn2 W, C_drop hr 2 c hn2 hnc⟩
  have HD2 := Aside0.mk hD2
  clear hD2
  have HRG := Aside0.mk (fun x (hx : x ∈ l.drop 2) => hrng x (List.mem_of_mem_drop hx))
  have HH := Aside0.mk (And.intro (show n - 2 ≤ c - 2 by omega) (show n - 2 ≤ 1000000 by omega))
  clear hrng hr hm
  generalize l.drop 2 = dl at *
  have hcm := common_any w h ty dev F nf cf fl st d (.slice G ng cg) hE hF hcf hnf hrf A2 (n - 2) (c - 2) dl HD2.out HH.out.1 HH.out.2 HRG.out
  rw [hb, ha] at hcm
  have HCM := Aside0.mk hcm
  clear hcm
  have HAP := Aside0.mk (C_apart78 hF hE)
  have HFF := Aside0.mk (And.intro hF hnf)
  have HDP := Aside0.mk (C_apart78 HD2.out hE)
  have hlt : h < w.heap.size := blk_lt hE
  have HE := Aside0.mk hE
  clear hE hF hcf hnf hrf hb ha
  subst h2
  clear hs
  go_enter Try.func42, Try.ntmps42
  go_wp2_with (first | (go_at_call 62; go_must (refine HCM.out.mono ?_; rintro e w4 ⟨v4, rfl, ho4, hb4⟩; obtain ⟨A4, n4, c4, rfl, hc4', hC4, _⟩ := OwnB.open ho4; have HC4 := Aside0.mk hC4; have HB4 := Aside0.mk hb4; have hc3 : w4.cell? ⟨h, 3, none⟩ = some (.int .i64 2) := (blk_cell (blk_below HE.out HB4.out) 3).trans rfl; have hc5 : w4.cell? ⟨h, 5, none⟩ = some (.slice G ng cg) := (blk_cell (blk_below HE.out HB4.out) 5).trans rfl; have hf3 := blk_frozen (blk_below HE.out HB4.out) 3; have hf5 := blk_frozen (blk_below HE.out HB4.out) 5; clear ho4 hb4 hc4' hC4)))
  go_ret2
  exact ⟨rfl, blk_put (blk_below HE.out HB4.out) 3 _ rfl, ((Fr.refl (only h) w).below HB4.out).setCell (p := ⟨h, 3, none⟩) (.inl rfl) _⟩
set_option maxRecDepth 100000 in
set_option maxHeartbeats 2000000 in
theorem rh_34 (w : World) (h : Nat) (A : Option Addr) (n c : Nat) (l : List Int) (s : ByteArray) (hs : s = Go.strOfNums l) (hr : Kd.C (Kd.int .u8) w A n l) (ty dev : ByteArray) (F : Option Addr) (nf cf : Nat) (fl : List Int) (st : Int) (d : ByteArray) (G : Option Addr) (ng cg : Nat) (hE : RefB w h ty dev (.slice F nf cf) st d (.slice G ng cg)) (s2 : ByteArray) (hsl : ∀ W, (Instr.slice 9 (.string s) none (some (.int .i64 2)) none).run Try.prog W = .ok (.string s2) W) (he : (s.toList == [8, 2]) = false) (hn2 : 2 ≤ n) (hnc : n ≤ c) (q26 : (s2.toList == [2, 6]) = false) (q24 : (s2.toList == [2, 4]) = false) (q34 : (s2.toList == [3, 4]) = true) (hrng : ∀ x ∈ l, 0 ≤ x ∧ x < 256) (hm : n ≤ 1000000) (hF : Kd.C (Kd.int .u8) w F nf fl) (hcf : nf ≤ cf) (hnf : nf ≤ 1000000) (hrf : ∀ x ∈ fl, 0 ≤ x ∧ x < 256) (hb : onceB (l.drop 2) = true) (ha : allIn fl (l.drop 2) = true) (h2 : st = 2) :
    Calls Try.prog 42 #[.pointer (some ⟨h, 0, none⟩), .int .u8 40, .slice A n c] w fun e w' => ∃ u, e = .returned (.tuple #[.slice none 0 0, .int .i64 0]) ∧ OwnB w' w.heap.size u (sortedL (l.drop 2)) ∧ RefB w' h ty dev (.slice F nf cf) 3 d u ∧ Fr (only h) w w' := by
  have hcv : (convert 49 9 (.slice A n c)).run Try.prog w = .ok (.string s) w := by rw [hs]; exact Kd.C_string (P := Try.prog) Try.underlying49 Try.underlying5 Try.underlying9 hr
  have hn : decide ((n : Int) < 2) = false := decide_eq_false (by omega)
  obtain ⟨A2, hd2, hD2⟩ : ∃ A2, (∀ W, (Instr.slice 49 (.slice A n c) (some (.int .i64 2)) none none).run Try.prog W = .ok (.slice A2 (n - 2) (c - 2)) W) ∧ Kd.C (Kd.int .u8) w A2 (n - 2) (l.drop 2) := ⟨_, fun W => slice_drop A n c 2 hn2 W, C_drop hr 2 c hn2 hnc⟩
  have HD2 := Aside0.mk hD2
  clear hD2
  have HRG := Aside0.mk (fun x (hx : x ∈ l.drop 2) => hrng x (List.mem_of_mem_drop hx))
  have HH := Aside0.mk (And.intro (show n - 2 ≤ c - 2 by omega) (show n - 2 ≤ 1000000 by omega))
  clear hrng hr hm
  generalize l.drop 2 = dl at *
  have hcm := common_any w h ty dev F nf cf fl st d (.slice G ng cg) hE hF hcf hnf hrf A2 (n - 2) (c - 2) dl HD2.out HH.out.1 HH.out.2 HRG.out
  rw [hb, ha] at hcm
  have HCM := Aside0.mk hcm
  clear hcm
  have HAP := Aside0.mk (C_apart78 hF hE)
  have HFF := Aside0.mk (And.intro hF hnf)
  have HDP := Aside0.mk (C_apart78 HD2.out hE)
  have hlt : h < w.heap.size := blk_lt hE
  have HE := Aside0.mk hE
  clear hE hF hcf hnf hrf hb ha
  obtain ⟨ks, hks⟩ := (sorted_f dl HRG.out (by have := HD2.out.1; have := HH.out.2; omega)).some
  have HSR := Aside0.mk hks
  clear hks
  subst h2
  clear hs
  go_enter Try.func42, Try.ntmps42
  go_wp2_with (first | (go_at_call 62; go_must (refine HCM.out.mono ?_; rintro e w4 ⟨v4, rfl, ho4, hb4⟩; obtain ⟨A4, n4, c4, rfl, hc4', hC4, _⟩ := OwnB.open ho4; have HC4 := Aside0.mk hC4; have HB4 := Aside0.mk hb4; have hc3 : w4.cell? ⟨h, 3, none⟩ = some (.int .i64 2) := (blk_cell (blk_below HE.out HB4.out) 3).trans rfl; have hc5 : w4.cell? ⟨h, 5, none⟩ = some (.slice G ng cg) := (blk_cell (blk_below HE.out HB4.out) 5).trans rfl; have hf3 := blk_frozen (blk_below HE.out HB4.out) 3; have hf5 := blk_frozen (blk_below HE.out HB4.out) 5; clear ho4 hb4 hc4' hC4)) | (go_at_call 63; go_must (refine (refsorted_any ks _ _ _ _ dl _ (by exact C_fr HD2.out (((Fr.refl (only h) w).below HB4.out).setCell (p := ⟨h, 3, none⟩) (.inl rfl) _) HDP.out) HH.out.1 HSR.out).mono ?_; rintro e w5 ⟨v5, rfl, ho5, hb5⟩; have BK5 := blk_below (by exact blk_put (blk_below HE.out HB4.out) 3 _ rfl) hb5; have e3 := (blk_cell BK5 3).trans rfl; have e5 := (blk_cell BK5 5).trans rfl; have k3 := blk_frozen BK5 3; have k5 := blk_frozen BK5 5; have HX5 := Aside0.mk BK5; have HF5 := Aside0.mk (Fr.below (by exact ((Fr.refl (only h) w).below HB4.out).setCell (p := ⟨h, 3, none⟩) (.inl rfl) _ : Fr (only h) w _) hb5); have HO5 := Aside0.mk (ho5.lower (b' := w.heap.size) (by (have h1 := HB4.out.size; first | exact h1 | (simp [World.setCell]; omega)))); obtain ⟨A5, c5, rfl⟩ := HO5.out.slice; clear ho5 hb5 BK5)))
  go_ret2
  exact ⟨_, rfl, (HO5.out.store HX5.out (by decide) _ _).store (blk_put HX5.out 3 _ rfl) (by decide) _ _, blk_put (blk_put HX5.out 3 _ rfl) 5 _ rfl, (HF5.out.setCell (p := ⟨h, 3, none⟩) (.inl rfl) _).setCell (p := ⟨h, 5, none⟩) (.inl rfl) _⟩
set_option maxRecDepth 100000 in
set_option maxHeartbeats 2000000 in
theorem rh_37_2 (w : World) (h : Nat) (A : Option Addr) (n c : Nat) (l : List Int) (s : ByteArray) (hs : s = Go.strOfNums l) (hr : Kd.C (Kd.int .u8) w A n l) (ty dev : ByteArray) (F : Option Addr) (nf cf : Nat) (fl : List Int) (st : Int) (d : ByteArray) (G : Option Addr) (ng cg : Nat) (hE : RefB w h ty dev (.slice F nf cf) st d (.slice G ng cg)) (s2 : ByteArray) (hsl : ∀ W, (Instr.slice 9 (.string s) none (some (.int .i64 2)) none).run Try.prog W = .ok (.string s2) W) (he : (s.toList == [8, 2]) = false) (hn2 : 2 ≤ n) (hnc : n ≤ c) (q26 : (s2.toList == [2, 6]) = false) (q24 : (s2.toList == [2, 4]) = false) (q34 : (s2.toList == [3, 4]) = false) (q37 : (s2.toList == [3, 7]) = true) (hrng : ∀ x ∈ l, 0 ≤ x ∧ x < 256) (hm : n ≤ 1000000) (hF : Kd.C (Kd.int .u8) w F nf fl) (hcf : nf ≤ cf) (hnf : nf ≤ 1000000) (hrf : ∀ x ∈ fl, 0 ≤ x ∧ x < 256) (hb : onceB (l.drop 2) = true) (ha : allIn fl (l.drop 2) = true) (h2 : st = 2) :
    Calls Try.prog 42 #[.pointer (some ⟨h, 0, none⟩), .int .u8 40, .slice A n c] w fun e w' => ∃ u v, e = .returned (.tuple #[v, .int .i64 0]) ∧ OwnB w' w.heap.size u (sortedL (l.drop 2)) ∧ RefB w' h ty dev (.slice F nf cf) 3 d u ∧ Fr (only h) w w' ∧ OwnB w' w.heap.size v ([3, 4] ++ l.drop 2) ∧ (∀ k, v.ownBlock = some k → u.ownBlock ≠ some k) := by
  have hcv : (convert 49 9 (.slice A n c)).run Try.prog w = .ok (.string s) w := by rw [hs]; exact Kd.C_string (P := Try.prog) Try.underlying49 Try.underlying5 Try.underlying9 hr
  have hn : decide ((n : Int) < 2) = false := decide_eq_false (by omega)
  obtain ⟨A2, hd2, hD2⟩ : ∃ A2, (∀ W, (Instr.slice 49 (.slice A n c) (some (.int .i64 2)) none none).run Try.prog W = .ok (.slice A2 (n - 2) (c - 2)) W) ∧ Kd.C (Kd.int .u8) w A2 (n - 2) (l.drop 2) := ⟨_, fun W => slice_drop A n c 2 hn2 W, C_drop hr 2 c hn2 hnc⟩
  have HD2 := Aside0.mk hD2
  clear hD2
  have HRG := Aside0.mk (fun x (hx : x ∈ l.drop 2) => hrng x (List.mem_of_mem_drop hx))
  have HH := Aside0.mk (And.intro (show n - 2 ≤ c - 2 by omega) (show n - 2 ≤ 1000000 by omega))
  clear hrng hr hm
  generalize l.drop 2 = dl at *
  have hcm := common_any w h ty dev F nf cf fl st d (.slice G ng cg) hE hF hcf hnf hrf A2 (n - 2) (c - 2) dl HD2.out HH.out.1 HH.out.2 HRG.out
  rw [hb, ha] at hcm
  have HCM := Aside0.mk hcm
  clear hcm
  have HAP := Aside0.mk (C_apart78 hF hE)
  have HFF := Aside0.mk (And.intro hF hnf)
  have HDP := Aside0.mk (C_apart78 HD2.out hE)
  have hlt : h < w.heap.size := blk_lt hE
  have HE := Aside0.mk hE
  clear hE hF hcf hnf hrf hb ha
  obtain ⟨ks, hks⟩ := (sorted_f dl HRG.out (by have := HD2.out.1; have := HH.out.2; omega)).some
  have HSR := Aside0.mk hks
  clear hks
  subst h2
  clear hs
  go_enter Try.func42, Try.ntmps42
  go_wp2_with (first | (go_at_call 62; go_must (refine HCM.out.mono ?_; rintro e w4 ⟨v4, rfl, ho4, hb4⟩; obtain ⟨A4, n4, c4, rfl, hc4', hC4, _⟩ := OwnB.open ho4; have HC4 := Aside0.mk hC4; have HB4 := Aside0.mk hb4; have hc3 : w4.cell? ⟨h, 3, none⟩ = some (.int .i64 2) := (blk_cell (blk_below HE.out HB4.out) 3).trans rfl; have hc5 : w4.cell? ⟨h, 5, none⟩ = some (.slice G ng cg) := (blk_cell (blk_below HE.out HB4.out) 5).trans rfl; have hf3 := blk_frozen (blk_below HE.out HB4.out) 3; have hf5 := blk_frozen (blk_below HE.out HB4.out) 5; clear ho4 hb4 hc4' hC4)) | (go_at_call 63; go_must (refine (refsorted_any ks _ _ _ _ dl _ (by exact C_fr HD2.out ((Fr.refl (only h) w).below HB4.out) HDP.out) HH.out.1 HSR.out).mono ?_; rintro e w5 ⟨v5, rfl, ho5, hb5⟩; have BK5 := blk_below (by exact blk_below HE.out HB4.out) hb5; have e3 := (blk_cell BK5 3).trans rfl; have e5 := (blk_cell BK5 5).trans rfl; have k3 := blk_frozen BK5 3; have k5 := blk_frozen BK5 5; have HX5 := Aside0.mk BK5; have HF5 := Aside0.mk (Fr.below (by exact (Fr.refl (only h) w).below HB4.out : Fr (only h) w _) hb5); have HU5 := Aside0.mk (own_lt (own_nums ho5)); have HO5 := Aside0.mk (ho5.lower (b' := w.heap.size) (by (have h1 := HB4.out.size; first | exact h1 | (simp [World.setCell]; omega)))); obtain ⟨A5, c5, rfl⟩ := HO5.out.slice; clear ho5 hb5 BK5)) | ((with_reducible refine gate_dst (N := 190) rfl ?_); go_must (refine litE w5.heap.size rfl (N := 190) rfl [3, 4] ?zr ?zb ?zl ?_; (case zr => first | (go_simp; done) | (go_simp; rfl)); (case zb => simp [World.setCell]); (case zl => simp); intro v7 w7 ho7 hb7 hfr7; have HO7 := Aside0.mk ho7; have HB7 := Aside0.mk hb7; have HK7 := Aside0.mk (own_ge ho7); clear ho7 hb7 hfr7)) | (at_builtin; go_must (refine appL w5.heap.size rfl (.tmp 190) (.tmp 191) rfl _ [3, 4] dl A2 (n - 2) (c - 2) rfl rfl HO7.out (Kd.C_below (C_fr HD2.out (by exact (HF5.out.setCell (p := ⟨h, 3, none⟩) (.inl rfl) _).setCell (p := ⟨h, 5, none⟩) (.inl rfl) _) HDP.out) HB7.out) ?zb2 ?z4 ?_; (case zb2 => (have h1 := HB7.out.size; simpa [World.setCell] using h1)); (case z4 => (have h1 := HD2.out.1; have h2 := HH.out.2; simp only [List.length_cons, List.length_nil]; omega)); intro v8 w8 ho8 hg8; have HB8 := Aside0.mk (grown_below HB7.out hg8 (fun i hi => by (have h1 := HK7.out i hi; simpa [World.setCell] using h1))); have HO8 := Aside0.mk ho8; obtain ⟨A8, m8, c8, rfl, _, _, _⟩ := OwnB.open ho8; clear ho8 hg8)))
  go_ret2
  exact ⟨_, _, rfl, ((HO5.out.store HX5.out (by decide) _ _).store (blk_put HX5.out 3 _ rfl) (by decide) _ _).below HB8.out, blk_below (blk_put (blk_put HX5.out 3 _ rfl) 5 _ rfl) HB8.out, ((HF5.out.setCell (p := ⟨h, 3, none⟩) (.inl rfl) _).setCell (p := ⟨h, 5, none⟩) (.inl rfl) _).below HB8.out, HO8.out.lower HF5.out.size, fun k hk hk2 => by (have h1 := own_ge HO8.out k hk; have h2 := HU5.out k hk2; omega)⟩
set_option maxRecDepth 100000 in
set_option maxHeartbeats 2000000 in
theorem rh_37not_2 (w : World) (h : Nat) (A : Option Addr) (n c : Nat) (l : List Int) (s : ByteArray) (hs : s = Go.strOfNums l) (hr : Kd.C (Kd.int .u8) w A n l) (ty dev : ByteArray) (F : Option Addr) (nf cf : Nat) (fl : List Int) (st : Int) (d : ByteArray) (G : Option Addr) (ng cg : Nat) (hE : RefB w h ty dev (.slice F nf cf) st d (.slice G ng cg)) (s2 : ByteArray) (hsl : ∀ W, (Instr.slice 9 (.string s) none (some (.int .i64 2)) none).run Try.prog W = .ok (.string s2) W) (he : (s.toList == [8, 2]) = false) (hn2 : 2 ≤ n) (hnc : n ≤ c) (q26 : (s2.toList == [2, 6]) = false) (q24 : (s2.toList == [2, 4]) = false) (q34 : (s2.toList == [3, 4]) = false) (q37 : (s2.toList == [3, 7]) = true) (hrng : ∀ x ∈ l, 0 ≤ x ∧ x < 256) (hm : n ≤ 1000000) (hF : Kd.C (Kd.int .u8) w F nf fl) (hcf : nf ≤ cf) (hnf : nf ≤ 1000000) (hrf : ∀ x ∈ fl, 0 ≤ x ∧ x < 256) (hb : onceB (l.drop 2) = true) (ha : allIn fl (l.drop 2) = false) (h2 : st = 2) :
    Calls Try.prog 42 #[.pointer (some ⟨h, 0, none⟩), .int .u8 40, .slice A n c] w fun e w' => ∃ v, e = .returned (.tuple #[v, .int .i64 0]) ∧ RefB w' h ty dev (.slice F nf cf) 2 d (.slice none 0 0) ∧ Fr (only h) w w' ∧ OwnB w' w.heap.size v ([3, 7] ++ commonL fl (l.drop 2)) := by
  have hcv : (convert 49 9 (.slice A n c)).run Try.prog w = .ok (.string s) w := by rw [hs]; exact Kd.C_string (P := Try.prog) Try.underlying49 Try.underlying5 Try.underlying9 hr
  have hn : decide ((n : Int) < 2) = false := decide_eq_false (by omega)
  obtain ⟨A2, hd2, hD2⟩ : ∃ A2, (∀ W, (Instr.slice 49 (.slice A n c) (some (.int .i64 2)) none none).run Try.prog W = .ok (.slice A2 (n - 2) (c - 2)) W) ∧ Kd.C (Kd.int .u8) w A2 (n - 2) (l.drop 2) := ⟨_, fun W => slice_drop A n c 2 hn2 W, C_drop hr 2 c hn2 hnc⟩
  have HD2 := Aside0.mk hD2
  clear hD2
  have HRG := Aside0.mk (fun x (hx : x ∈ l.drop 2) => hrng x (List.mem_of_mem_drop hx))
  have HH := Aside0.mk (And.intro (show n - 2 ≤ c - 2 by omega) (show n - 2 ≤ 1000000 by omega))
  clear hrng hr hm
  generalize l.drop 2 = dl at *
  have hcm := common_any w h ty dev F nf cf fl st d (.slice G ng cg) hE hF hcf hnf hrf A2 (n - 2) (c - 2) dl HD2.out HH.out.1 HH.out.2 HRG.out
  rw [hb, ha] at hcm
  have HCM := Aside0.mk hcm
  clear hcm
  have HAP := Aside0.mk (C_apart78 hF hE)
  have HFF := Aside0.mk (And.intro hF hnf)
  have HDP := Aside0.mk (C_apart78 HD2.out hE)
  have hlt : h < w.heap.size := blk_lt hE
  have HE := Aside0.mk hE
  clear hE hF hcf hnf hrf hb ha
  subst h2
  clear hs
  go_enter Try.func42, Try.ntmps42
  go_wp2_with (first | (go_at_call 62; go_must (refine HCM.out.mono ?_; rintro e w4 ⟨v4, rfl, ho4, hb4⟩; obtain ⟨A4, n4, c4, rfl, hc4', hC4, _⟩ := OwnB.open ho4; have HC4 := Aside0.mk hC4; have HB4 := Aside0.mk hb4; have hc3 : w4.cell? ⟨h, 3, none⟩ = some (.int .i64 2) := (blk_cell (blk_below HE.out HB4.out) 3).trans rfl; have hc5 : w4.cell? ⟨h, 5, none⟩ = some (.slice G ng cg) := (blk_cell (blk_below HE.out HB4.out) 5).trans rfl; have hf3 := blk_frozen (blk_below HE.out HB4.out) 3; have hf5 := blk_frozen (blk_below HE.out HB4.out) 5; have HA4 := Aside0.mk (C_apart78 hC4 (blk_below HE.out HB4.out)); clear ho4 hb4 hc4' hC4)) | ((with_reducible refine gate_dst (N := 199) rfl ?_); go_must (refine litE w4.heap.size rfl (N := 199) rfl [3, 7] ?zr ?zb ?zl ?_; (case zr => first | (go_simp; done) | (go_simp; rfl)); (case zb => simp [World.setCell]); (case zl => simp); intro v7 w7 ho7 hb7 hfr7; have HO7 := Aside0.mk ho7; have HB7 := Aside0.mk hb7; have HK7 := Aside0.mk (own_ge ho7); clear ho7 hb7 hfr7)) | (at_builtin; go_must (refine appL w4.heap.size rfl (.tmp 199) (.tmp 200) rfl _ [3, 7] (commonL fl dl) A4 n4 c4 rfl rfl HO7.out (Kd.C_below (C_fr HC4.out (by exact ((Fr.refl (only h) w4).setCell (p := ⟨h, 3, none⟩) (.inl rfl) _).setCell (p := ⟨h, 5, none⟩) (.inl rfl) _) HA4.out) HB7.out) ?zb2 ?z4 ?_; (case zb2 => (have h1 := HB7.out.size; simpa [World.setCell] using h1)); (case z4 => (have h1 := HC4.out.1; have h2 := commonL_len fl dl; have h3 := HD2.out.1; have h5 := HH.out.2; simp only [List.length_cons, List.length_nil]; omega)); intro v8 w8 ho8 hg8; have HB8 := Aside0.mk (grown_below HB7.out hg8 (fun i hi => by (have h1 := HK7.out i hi; simpa [World.setCell] using h1))); have HO8 := Aside0.mk ho8; obtain ⟨A8, m8, c8, rfl, _, _, _⟩ := OwnB.open ho8; clear ho8 hg8)))
  go_ret2
  exact ⟨_, rfl, blk_below (blk_put (blk_put (blk_below HE.out HB4.out) 3 _ rfl) 5 _ rfl) HB8.out, ((((Fr.refl (only h) w).below HB4.out).setCell (p := ⟨h, 3, none⟩) (.inl rfl) _).setCell (p := ⟨h, 5, none⟩) (.inl rfl) _).below HB8.out, HO8.out.lower HB4.out.size⟩
set_option maxRecDepth 100000 in
set_option maxHeartbeats 2000000 in
theorem rh_37_3 (w : World) (h : Nat) (A : Option Addr) (n c : Nat) (l : List Int) (s : ByteArray) (hs : s = Go.strOfNums l) (hr : Kd.C (Kd.int .u8) w A n l) (ty dev : ByteArray) (F : Option Addr) (nf cf : Nat) (fl : List Int) (st : Int) (d : ByteArray) (G : Option Addr) (ng cg : Nat) (hE : RefB w h ty dev (.slice F nf cf) st d (.slice G ng cg)) (s2 : ByteArray) (hsl : ∀ W, (Instr.slice 9 (.string s) none (some (.int .i64 2)) none).run Try.prog W = .ok (.string s2) W) (he : (s.toList == [8, 2]) = false) (hn2 : 2 ≤ n) (hnc : n ≤ c) (q26 : (s2.toList == [2, 6]) = false) (q24 : (s2.toList == [2, 4]) = false) (q34 : (s2.toList == [3, 4]) = false) (q37 : (s2.toList == [3, 7]) = true) (hrng : ∀ x ∈ l, 0 ≤ x ∧ x < 256) (hm : n ≤ 1000000) (hF : Kd.C (Kd.int .u8) w F nf fl) (hcf : nf ≤ cf) (hnf : nf ≤ 1000000) (hrf : ∀ x ∈ fl, 0 ≤ x ∧ x < 256) (hb : onceB (l.drop 2) = true) (ha : allIn fl (l.drop 2) = true) (h2 : st = 3) :
    Calls Try.prog 42 #[.pointer (some ⟨h, 0, none⟩), .int .u8 40, .slice A n c] w fun e w' => ∃ u v, e = .returned (.tuple #[v, .int .i64 0]) ∧ OwnB w' w.heap.size u (sortedL (l.drop 2)) ∧ RefB w' h ty dev (.slice F nf cf) 3 d u ∧ Fr (only h) w w' ∧ OwnB w' w.heap.size v ([3, 4] ++ l.drop 2) ∧ (∀ k, v.ownBlock = some k → u.ownBlock ≠ some k) := by
  have hcv : (convert 49 9 (.slice A n c)).run Try.prog w = .ok (.string s) w := by rw [hs]; exact Kd.C_string (P := Try.prog) Try.underlying49 Try.underlying5 Try.underlying9 hr
  have hn : decide ((n : Int) < 2) = false := decide_eq_false (by omega)
  obtain ⟨A2, hd2, hD2⟩ : ∃ A2, (∀ W, (Instr.slice 49 (.slice A n c) (some (.int .i64 2)) none none).run Try.prog W = .ok (.slice A2 (n - 2) (c - 2)) W) ∧ Kd.C (Kd.int .u8) w A2 (n - 2) (l.drop 2) := ⟨_, fun W => slice_drop A n c 2 hn2 W, C_drop hr 2 c hn2 hnc⟩
  have HD2 := Aside0.mk hD2
  clear hD2
  have HRG := Aside0.mk (fun x (hx : x ∈ l.drop 2) => hrng x (List.mem_of_mem_drop hx))
  have HH := Aside0.mk (And.intro (show n - 2 ≤ c - 2 by omega) (show n - 2 ≤ 1000000 by omega))
  clear hrng hr hm
  generalize l.drop 2 = dl at *
  have hcm := common_any w h ty dev F nf cf fl st d (.slice G ng cg) hE hF hcf hnf hrf A2 (n - 2) (c - 2) dl HD2.out HH.out.1 HH.out.2 HRG.out
  rw [hb, ha] at hcm
  have HCM := Aside0.mk hcm
  clear hcm
  have HAP := Aside0.mk (C_apart78 hF hE)
  have HFF := Aside0.mk (And.intro hF hnf)
  have HDP := Aside0.mk (C_apart78 HD2.out hE)
  have hlt : h < w.heap.size := blk_lt hE
  have HE := Aside0.mk hE
  clear hE hF hcf hnf hrf hb ha
  obtain ⟨ks, hks⟩ := (sorted_f dl HRG.out (by have := HD2.out.1; have := HH.out.2; omega)).some
  have HSR := Aside0.mk hks
  clear hks
  subst h2
  clear hs
  go_enter Try.func42, Try.ntmps42
  go_wp2_with (first | (go_at_call 62; go_must (refine HCM.out.mono ?_; rintro e w4 ⟨v4, rfl, ho4, hb4⟩; obtain ⟨A4, n4, c4, rfl, hc4', hC4, _⟩ := OwnB.open ho4; have HC4 := Aside0.mk hC4; have HB4 := Aside0.mk hb4; have hc3 : w4.cell? ⟨h, 3, none⟩ = some (.int .i64 3) := (blk_cell (blk_below HE.out HB4.out) 3).trans rfl; have hc5 : w4.cell? ⟨h, 5, none⟩ = some (.slice G ng cg) := (blk_cell (blk_below HE.out HB4.out) 5).trans rfl; have hf3 := blk_frozen (blk_below HE.out HB4.out) 3; have hf5 := blk_frozen (blk_below HE.out HB4.out) 5; clear ho4 hb4 hc4' hC4)) | (go_at_call 63; go_must (refine (refsorted_any ks _ _ _ _ dl _ (by exact C_fr HD2.out ((Fr.refl (only h) w).below HB4.out) HDP.out) HH.out.1 HSR.out).mono ?_; rintro e w5 ⟨v5, rfl, ho5, hb5⟩; have BK5 := blk_below (by exact blk_below HE.out HB4.out) hb5; have e3 := (blk_cell BK5 3).trans rfl; have e5 := (blk_cell BK5 5).trans rfl; have k3 := blk_frozen BK5 3; have k5 := blk_frozen BK5 5; have HX5 := Aside0.mk BK5; have HF5 := Aside0.mk (Fr.below (by exact (Fr.refl (only h) w).below HB4.out : Fr (only h) w _) hb5); have HU5 := Aside0.mk (own_lt (own_nums ho5)); have HO5 := Aside0.mk (ho5.lower (b' := w.heap.size) (by (have h1 := HB4.out.size; first | exact h1 | (simp [World.setCell]; omega)))); obtain ⟨A5, c5, rfl⟩ := HO5.out.slice; clear ho5 hb5 BK5)) | ((with_reducible refine gate_dst (N := 190) rfl ?_); go_must (refine litE w5.heap.size rfl (N := 190) rfl [3, 4] ?zr ?zb ?zl ?_; (case zr => first | (go_simp; done) | (go_simp; rfl)); (case zb => simp [World.setCell]); (case zl => simp); intro v7 w7 ho7 hb7 hfr7; have HO7 := Aside0.mk ho7; have HB7 := Aside0.mk hb7; have HK7 := Aside0.mk (own_ge ho7); clear ho7 hb7 hfr7)) | (at_builtin; go_must (refine appL w5.heap.size rfl (.tmp 190) (.tmp 191) rfl _ [3, 4] dl A2 (n - 2) (c - 2) rfl rfl HO7.out (Kd.C_below (C_fr HD2.out (by exact (HF5.out.setCell (p := ⟨h, 3, none⟩) (.inl rfl) _).setCell (p := ⟨h, 5, none⟩) (.inl rfl) _) HDP.out) HB7.out) ?zb2 ?z4 ?_; (case zb2 => (have h1 := HB7.out.size; simpa [World.setCell] using h1)); (case z4 => (have h1 := HD2.out.1; have h2 := HH.out.2; simp only [List.length_cons, List.length_nil]; omega)); intro v8 w8 ho8 hg8; have HB8 := Aside0.mk (grown_below HB7.out hg8 (fun i hi => by (have h1 := HK7.out i hi; simpa [World.setCell] using h1))); have HO8 := Aside0.mk ho8; obtain ⟨A8, m8, c8, rfl, _, _, _⟩ := OwnB.open ho8; clear ho8 hg8)))
  go_ret2
  exact ⟨_, _, rfl, ((HO5.out.store HX5.out (by decide) _ _).store (blk_put HX5.out 3 _ rfl) (by decide) _ _).below HB8.out, blk_below (blk_put (blk_put HX5.out 3 _ rfl) 5 _ rfl) HB8.out, ((HF5.out.setCell (p := ⟨h, 3, none⟩) (.inl rfl) _).setCell (p := ⟨h, 5, none⟩) (.inl rfl) _).below HB8.out, HO8.out.lower HF5.out.size, fun k hk hk2 => by (have h1 := own_ge HO8.out k hk; have h2 := HU5.out k hk2; omega)⟩
set_option maxRecDepth 100000 in
set_option maxHeartbeats 2000000 in
theorem rh_37not_3 (w : World) (h : Nat) (A : Option Addr) (n c : Nat) (l : List Int) (s : ByteArray) (hs : s = Go.strOfNums l) (hr : Kd.C (Kd.int .u8) w A n l) (ty dev : ByteArray) (F : Option Addr) (nf cf : Nat) (fl : List Int) (st : Int) (d : ByteArray) (G : Option Addr) (ng cg : Nat) (hE : RefB w h ty dev (.slice F nf cf) st d (.slice G ng cg)) (s2 : ByteArray) (hsl : ∀ W, (Instr.slice 9 (.string s) none (some (.int .i64 2)) none).run Try.prog W = .ok (.string s2) W) (he : (s.toList == [8, 2]) = false) (hn2 : 2 ≤ n) (hnc : n ≤ c) (q26 : (s2.toList == [2, 6]) = false) (q24 : (s2.toList == [2, 4]) = false) (q34 : (s2.toList == [3, 4]) = false) (q37 : (s2.toList == [3, 7]) = true) (hrng : ∀ x ∈ l, 0 ≤ x ∧ x < 256) (hm : n ≤ 1000000) (hF : Kd.C (Kd.int .u8) w F nf fl) (hcf : nf ≤ cf) (hnf : nf ≤ 1000000) (hrf : ∀ x ∈ fl, 0 ≤ x ∧ x < 256) (hb : onceB (l.drop 2) = true) (ha : allIn fl (l.drop 2) = false) (h2 : st = 3) :
    Calls Try.prog 42 #[.pointer (some ⟨h, 0, none⟩), .int .u8 40, .slice A n c] w fun e w' => ∃ v, e = .returned (.tuple #[v, .int .i64 0]) ∧ RefB w' h ty dev (.slice F nf cf) 2 d (.slice none 0 0) ∧ Fr (only h) w w' ∧ OwnB w' w.heap.size v ([3, 7] ++ commonL fl (l.drop 2)) := by
  have hcv : (convert 49 9 (.slice A n c)).run Try.prog w = .ok (.string s) w := by rw [hs]; exact Kd.C_string (P := Try.prog) Try.underlying49 Try.underlying5 Try.underlying9 hr
  have hn : decide ((n : Int) < 2) = false := decide_eq_false (by omega)
  obtain ⟨A2, hd2, hD2⟩ : ∃ A2, (∀ W, (Instr.slice 49 (.slice A n c) (some (.int .i64 2)) none none).run Try.prog W = .ok (.slice A2 (n - 2) (c - 2)) W) ∧ Kd.C (Kd.int .u8) w A2 (n - 2) (l.drop 2) := ⟨_, fun W => slice_drop A n c 2 hn2 W, C_drop hr 2 c hn2 hnc⟩
  have HD2 := Aside0.mk hD2
  clear hD2
  have HRG := Aside0.mk (fun x (hx : x ∈ l.drop 2) => hrng x (List.mem_of_mem_drop hx))
  have HH := Aside0.mk (And.intro (show n - 2 ≤ c - 2 by omega) (show n - 2 ≤ 1000000 by omega))
  clear hrng hr hm
  generalize l.drop 2 = dl at *
  have hcm := common_any w h ty dev F nf cf fl st d (.slice G ng cg) hE hF hcf hnf hrf A2 (n - 2) (c - 2) dl HD2.out HH.out.1 HH.out.2 HRG.out
  rw [hb, ha] at hcm
  have HCM := Aside0.mk hcm
  clear hcm
  have HAP := Aside0.mk (C_apart78 hF hE)
  have HFF := Aside0.mk (And.intro hF hnf)
  have HDP := Aside0.mk (C_apart78 HD2.out hE)
  have hlt : h < w.heap.size := blk_lt hE
  have HE := Aside0.mk hE
  clear hE hF hcf hnf hrf hb ha
  subst h2
  clear hs
  go_enter Try.func42, Try.ntmps42
  go_wp2_with (first | (go_at_call 62; go_must (refine HCM.out.mono ?_; rintro e w4 ⟨v4, rfl, ho4, hb4⟩; obtain ⟨A4, n4, c4, rfl, hc4', hC4, _⟩ := OwnB.open ho4; have HC4 := Aside0.mk hC4; have HB4 := Aside0.mk hb4; have hc3 : w4.cell? ⟨h, 3, none⟩ = some (.int .i64 3) := (blk_cell (blk_below HE.out HB4.out) 3).trans rfl; have hc5 : w4.cell? ⟨h, 5, none⟩ = some (.slice G ng cg) := (blk_cell (blk_below HE.out HB4.out) 5).trans rfl; have hf3 := blk_frozen (blk_below HE.out HB4.out) 3; have hf5 := blk_frozen (blk_below HE.out HB4.out) 5; have HA4 := Aside0.mk (C_apart78 hC4 (blk_below HE.out HB4.out)); clear ho4 hb4 hc4' hC4)) | ((with_reducible refine gate_dst (N := 199) rfl ?_); go_must (refine litE w4.heap.size rfl (N := 199) rfl [3, 7] ?zr ?zb ?zl ?_; (case zr => first | (go_simp; done) | (go_simp; rfl)); (case zb => simp [World.setCell]); (case zl => simp); intro v7 w7 ho7 hb7 hfr7; have HO7 := Aside0.mk ho7; have HB7 := Aside0.mk hb7; have HK7 := Aside0.mk (own_ge ho7); clear ho7 hb7 hfr7)) | (at_builtin; go_must (refine appL w4.heap.size rfl (.tmp 199) (.tmp 200) rfl _ [3, 7] (commonL fl dl) A4 n4 c4 rfl rfl HO7.out (Kd.C_below (C_fr HC4.out (by exact ((Fr.refl (only h) w4).setCell (p := ⟨h, 3, none⟩) (.inl rfl) _).setCell (p := ⟨h, 5, none⟩) (.inl rfl) _) HA4.out) HB7.out) ?zb2 ?z4 ?_; (case zb2 => (have h1 := HB7.out.size; simpa [World.setCell] using h1)); (case z4 => (have h1 := HC4.out.1; have h2 := commonL_len fl dl; have h3 := HD2.out.1; have h5 := HH.out.2; simp only [List.length_cons, List.length_nil]; omega)); intro v8 w8 ho8 hg8; have HB8 := Aside0.mk (grown_below HB7.out hg8 (fun i hi => by (have h1 := HK7.out i hi; simpa [World.setCell] using h1))); have HO8 := Aside0.mk ho8; obtain ⟨A8, m8, c8, rfl, _, _, _⟩ := OwnB.open ho8; clear ho8 hg8)))
  go_ret2
  exact ⟨_, rfl, blk_below (blk_put (blk_put (blk_below HE.out HB4.out) 3 _ rfl) 5 _ rfl) HB8.out, ((((Fr.refl (only h) w).below HB4.out).setCell (p := ⟨h, 3, none⟩) (.inl rfl) _).setCell (p := ⟨h, 5, none⟩) (.inl rfl) _).below HB8.out, HO8.out.lower HB4.out.size⟩
set_option maxRecDepth 100000 in
set_option maxHeartbeats 2000000 in
theorem rh_type (w : World) (h : Nat) (A : Option Addr) (n c : Nat) (l : List Int) (s : ByteArray) (hs : s = Go.strOfNums l) (hr : Kd.C (Kd.int .u8) w A n l) (ty dev : ByteArray) (F : Option Addr) (nf cf : Nat) (fl : List Int) (st : Int) (d : ByteArray) (G : Option Addr) (ng cg : Nat) (hE : RefB w h ty dev (.slice F nf cf) st d (.slice G ng cg)) (hty : ty.size ≤ 1000) (he : (s.toList == [1]) = true) :
    Calls Try.prog 42 #[.pointer (some ⟨h, 0, none⟩), .int .u8 24, .slice A n c] w fun e w' => ∃ v, e = .returned (.tuple #[v, .int .i64 0]) ∧ OwnB w' w.heap.size v ([0] ++ bytesOf ty) ∧ Below w.heap.size w w' := by
  have hcv : (convert 49 9 (.slice A n c)).run Try.prog w = .ok (.string s) w := by rw [hs]; exact Kd.C_string (P := Try.prog) Try.underlying49 Try.underlying5 Try.underlying9 hr
  have HE := Aside0.mk hE
  have HT := Aside0.mk hty
  clear hs hr hE hty
  go_enter Try.func42, Try.ntmps42
  go_wp2_with (first | ((with_reducible refine gate_dst (N := 25) rfl ?_); go_must (refine litE w.heap.size rfl (N := 25) rfl [0] ?zr ?zb ?zl ?_; (case zr => first | (go_simp; done) | (go_simp; rfl)); (case zb => exact Nat.le_refl _); (case zl => simp); intro v7 w7 ho7 hb7 hfr7; have BK := blk_below HE.out hb7; have y0 := (blk_cell BK 0).trans rfl; have HO7 := Aside0.mk ho7; have HB7 := Aside0.mk hb7; clear ho7 hb7 hfr7 BK)) | (at_builtin; go_must (refine appS w.heap.size rfl (.tmp 25) (.tmp 30) rfl _ [0] ty rfl rfl HO7.out HB7.out.size ?z4 ?_; (case z4 => (have h4 := HT.out; simp only [List.length_cons, List.length_nil]; omega)); intro v8 w8 ho8 hg8; have HB8 := Aside0.mk (grown_below HB7.out hg8 (own_ge HO7.out)); have HO8 := Aside0.mk ho8; obtain ⟨A8, c8, rfl⟩ := HO8.out.slice; clear ho8 hg8)))
  go_ret2
  exact ⟨_, rfl, HO8.out, HB8.out⟩
set_option maxRecDepth 100000 in
set_option maxHeartbeats 2000000 in
theorem rh_asks_bare (w : World) (h : Nat) (A : Option Addr) (n c : Nat) (l : List Int) (s : ByteArray) (hs : s = Go.strOfNums l) (hr : Kd.C (Kd.int .u8) w A n l) (ty dev : ByteArray) (F : Option Addr) (nf cf : Nat) (fl : List Int) (st : Int) (d : ByteArray) (G : Option Addr) (ng cg : Nat) (hE : RefB w h ty dev (.slice F nf cf) st d (.slice G ng cg)) (hty : ty.size ≤ 1000) (hdv : dev.size ≤ 1000) (he : (s.toList == [8, 2]) = true) (h4 : (st == 4) = false) (hd : (dev.toList == []) = true) :
    Calls Try.prog 42 #[.pointer (some ⟨h, 0, none⟩), .int .u8 40, .slice A n c] w fun e w' => ∃ v, e = .returned (.tuple #[v, .int .i64 0]) ∧ OwnB w' w.heap.size v ([2, 7] ++ bytesOf ty) ∧ RefB w' h ty dev (.slice F nf cf) 1 (⟨#[]⟩ : ByteArray) (.slice none 0 0) ∧ Fr (only h) w w' := by
  have hcv : (convert 49 9 (.slice A n c)).run Try.prog w = .ok (.string s) w := by rw [hs]; exact Kd.C_string (P := Try.prog) Try.underlying49 Try.underlying5 Try.underlying9 hr
  have hc3 : w.cell? ⟨h, 3, none⟩ = some (.int .i64 st) := blk_cell hE 3
  have hc4 : w.cell? ⟨h, 4, none⟩ = some (.string d) := blk_cell hE 4
  have hc5 : w.cell? ⟨h, 5, none⟩ = some (.slice G ng cg) := blk_cell hE 5
  have hf3 := blk_frozen hE 3
  have hf4 := blk_frozen hE 4
  have hf5 := blk_frozen hE 5
  have hc0 : w.cell? ⟨h, 0, none⟩ = some (.string ty) := blk_cell hE 0
  have hc1 : w.cell? ⟨h, 1, none⟩ = some (.string dev) := blk_cell hE 1
  have hf3 := blk_frozen hE 3
  have hf4 := blk_frozen hE 4
  have hf5 := blk_frozen hE 5
  have hlt : h < w.heap.size := blk_lt hE
  have HT := Aside0.mk (And.intro hty hdv)
  have H := Aside0.mk hE
  clear hs hr hE hty hdv
  go_enter Try.func42, Try.ntmps42
  go_wp2_with (first | ((with_reducible refine gate_dst (N := 50) rfl ?_); go_must (refine litE w.heap.size rfl (N := 50) rfl [2, 7] ?zr ?zb ?zl ?_; (case zr => first | (go_simp; done) | (go_simp; rfl)); (case zb => simp); (case zl => simp); intro v1 w1 ho hb hfr; have BK : w1.heap[h]? = some (.cells #[.string ty, .string dev, .slice F nf cf, .int .i64 1, .string ⟨#[]⟩, .slice none 0 0] 78 (0, 0)) := blk_below (by exact blk_put (blk_put (blk_put H.out 3 _ rfl) 4 _ rfl) 5 _ rfl) hb; have HF : Fr (only h) w w1 := Fr.below (by exact (((Fr.refl (only h) w).setCell (p := ⟨h, 3, none⟩) (.inl rfl) _).setCell (p := ⟨h, 4, none⟩) (.inl rfl) _).setCell (p := ⟨h, 5, none⟩) (.inl rfl) _) hb; have x0 := (blk_cell BK 0).trans rfl; have HO := Aside0.mk ho; have HB := Aside0.mk BK; have HFF := Aside0.mk HF; have HG := own_ge ho; have hz := HF.size; have hk : ∀ k, v1.ownBlock = some k → only h k ∨ w.heap.size ≤ k := fun k hk => .inr (HG k hk); have hne : some h ≠ v1.ownBlock := fun e => Nat.lt_irrefl _ (Nat.lt_of_lt_of_le hlt (HG h e.symm)); have HK := Aside0.mk hk; have HNE := Aside0.mk hne; clear hk hne HG ho BK HF hb hfr hc0 hc1 hc3 hc4 hc5 hf3 hf4 hf5)) | (at_builtin; (with_reducible refine gate_builtin (b := .append) (xs := #[.tmp 50, .tmp 55]) rfl ?_); go_must (refine appS w.heap.size rfl (.tmp 50) (.tmp 55) rfl _ [2, 7] ty rfl rfl HO.out hz ?z4 ?_; (case z4 => have h4 := HT.out.1; simp only [List.length_cons, List.length_nil]; omega); intro v2 w2 ho2 hg2; have BK2 := blk_grown HB.out hg2 HNE.out; have x1 := (blk_cell BK2 1).trans rfl; have HF2 := Aside0.mk (HFF.out.grown hg2 (fun i hi => HK.out i hi)); obtain ⟨A1, c1, rfl⟩ := ho2.slice; have HO2 := Aside0.mk ho2; have HB2 := Aside0.mk BK2; clear ho2 BK2 hg2)))
  go_ret2
  exact ⟨_, rfl, HO2.out, HB2.out, HF2.out⟩
set_option maxRecDepth 100000 in
set_option maxHeartbeats 2000000 in
theorem rh_asks_dev (w : World) (h : Nat) (A : Option Addr) (n c : Nat) (l : List Int) (s : ByteArray) (hs : s = Go.strOfNums l) (hr : Kd.C (Kd.int .u8) w A n l) (ty dev : ByteArray) (F : Option Addr) (nf cf : Nat) (fl : List Int) (st : Int) (d : ByteArray) (G : Option Addr) (ng cg : Nat) (hE : RefB w h ty dev (.slice F nf cf) st d (.slice G ng cg)) (hty : ty.size ≤ 1000) (hdv : dev.size ≤ 1000) (he : (s.toList == [8, 2]) = true) (h4 : (st == 4) = false) (hd : (dev.toList == []) = false) :
    Calls Try.prog 42 #[.pointer (some ⟨h, 0, none⟩), .int .u8 40, .slice A n c] w fun e w' => ∃ v, e = .returned (.tuple #[v, .int .i64 0]) ∧ OwnB w' w.heap.size v (([2, 7] ++ bytesOf ty ++ [1]) ++ bytesOf dev) ∧ RefB w' h ty dev (.slice F nf cf) 1 (⟨#[]⟩ : ByteArray) (.slice none 0 0) ∧ Fr (only h) w w' := by
  have hcv : (convert 49 9 (.slice A n c)).run Try.prog w = .ok (.string s) w := by rw [hs]; exact Kd.C_string (P := Try.prog) Try.underlying49 Try.underlying5 Try.underlying9 hr
  have hc3 : w.cell? ⟨h, 3, none⟩ = some (.int .i64 st) := blk_cell hE 3
  have hc4 : w.cell? ⟨h, 4, none⟩ = some (.string d) := blk_cell hE 4
  have hc5 : w.cell? ⟨h, 5, none⟩ = some (.slice G ng cg) := blk_cell hE 5
  have hf3 := blk_frozen hE 3
  have hf4 := blk_frozen hE 4
  have hf5 := blk_frozen hE 5
  have hc0 : w.cell? ⟨h, 0, none⟩ = some (.string ty) := blk_cell hE 0
  have hc1 : w.cell? ⟨h, 1, none⟩ = some (.string dev) := blk_cell hE 1
  have hf3 := blk_frozen hE 3
  have hf4 := blk_frozen hE 4
  have hf5 := blk_frozen hE 5
  have hlt : h < w.heap.size := blk_lt hE
  have HT := Aside0.mk (And.intro hty hdv)
  have H := Aside0.mk hE
  clear hs hr hE hty hdv
  go_enter Try.func42, Try.ntmps42
  go_wp2_with (first | ((with_reducible refine gate_dst (N := 50) rfl ?_); go_must (refine litE w.heap.size rfl (N := 50) rfl [2, 7] ?zr ?zb ?zl ?_; (case zr => first | (go_simp; done) | (go_simp; rfl)); (case zb => simp); (case zl => simp); intro v1 w1 ho hb hfr; have BK : w1.heap[h]? = some (.cells #[.string ty, .string dev, .slice F nf cf, .int .i64 1, .string ⟨#[]⟩, .slice none 0 0] 78 (0, 0)) := blk_below (by exact blk_put (blk_put (blk_put H.out 3 _ rfl) 4 _ rfl) 5 _ rfl) hb; have HF : Fr (only h) w w1 := Fr.below (by exact (((Fr.refl (only h) w).setCell (p := ⟨h, 3, none⟩) (.inl rfl) _).setCell (p := ⟨h, 4, none⟩) (.inl rfl) _).setCell (p := ⟨h, 5, none⟩) (.inl rfl) _) hb; have x0 := (blk_cell BK 0).trans rfl; have HO := Aside0.mk ho; have HB := Aside0.mk BK; have HFF := Aside0.mk HF; have HG := own_ge ho; have hz := HF.size; have hk : ∀ k, v1.ownBlock = some k → only h k ∨ w.heap.size ≤ k := fun k hk => .inr (HG k hk); have hne : some h ≠ v1.ownBlock := fun e => Nat.lt_irrefl _ (Nat.lt_of_lt_of_le hlt (HG h e.symm)); have HK := Aside0.mk hk; have HNE := Aside0.mk hne; clear hk hne HG ho BK HF hb hfr hc0 hc1 hc3 hc4 hc5 hf3 hf4 hf5)) | (at_builtin; (with_reducible refine gate_builtin (b := .append) (xs := #[.tmp 50, .tmp 55]) rfl ?_); go_must (refine appS w.heap.size rfl (.tmp 50) (.tmp 55) rfl _ [2, 7] ty rfl rfl HO.out hz ?z4 ?_; (case z4 => have h4 := HT.out.1; simp only [List.length_cons, List.length_nil]; omega); intro v2 w2 ho2 hg2; have BK2 := blk_grown HB.out hg2 HNE.out; have x1 := (blk_cell BK2 1).trans rfl; have HF2 := Aside0.mk (HFF.out.grown hg2 (fun i hi => HK.out i hi)); obtain ⟨A1, c1, rfl⟩ := ho2.slice; have HO2 := Aside0.mk ho2; have HB2 := Aside0.mk BK2; clear ho2 BK2 hg2)))
  have hz2 := HF2.out.size
  clear hz
  have hne2 : ∀ k, (Value.slice A1 ([2, 7] ++ bytesOf ty).length c1).ownBlock = some k → w.heap.size ≤ k := own_ge HO2.out
  have HNE2 := Aside0.mk hne2
  clear hne2
  go_region_held3 (fun w' => w'.cell? ⟨h, 1, none⟩ = some (.string dev)) (first | go_keep | assumption) (first | ((with_reducible refine appL_step w.heap.size ?zw (.tmp 63) (.tmp 64) rfl _ ([2, 7] ++ bytesOf ty) [1] (some ⟨w2.heap.size, 0, none⟩) 1 1 rfl rfl ?zo ?zc ?zb ?zl ?_); go_must ((case zw => rfl); (case zo => exact HO2.out.below (below_drew (below_alloc (Below.refl _ _) _))); (case zc => exact Kd.C_drew (lit_C w2 [1] (by simp))); (case zb => simp; omega); (case zl => have h4 := HT.out.1; simp only [List.length_append, lenBytes, List.length_cons, List.length_nil]; omega); intro v3 w3 ho3 hg3; have BK3 := blk_grown (blk_drew (blk_alloc HB2.out _)) hg3 (fun e => Nat.lt_irrefl _ (Nat.lt_of_lt_of_le hlt (HNE2.out h e.symm))); have x1 := (blk_cell BK3 1).trans rfl; have HF3 := Aside0.mk (Fr.grown (Fr.drew (Fr.alloc HF2.out _)) hg3 (fun i hi => .inr (HNE2.out i hi))); obtain ⟨A3, c3, rfl⟩ := ho3.slice; have HO3 := Aside0.mk ho3; have HB3 := Aside0.mk BK3; have hz3 := HF3.out.size; clear ho3 BK3 hg3)) | ((refine appS_step w.heap.size ?zw (.tmp 65) (.tmp 70) rfl _ (([2, 7] ++ bytesOf ty) ++ [1]) dev rfl rfl ?zo ?zb ?zl ?_); (case zw => rfl); (case zo => exact HO3.out); (case zb => exact hz3); (case zl => have h4 := HT.out; simp only [List.length_append, lenBytes, List.length_cons, List.length_nil]; omega); intro v4 w4 ho4 hg4; have BK4 := blk_grown HB3.out hg4 (fun e => Nat.lt_irrefl _ (Nat.lt_of_lt_of_le hlt (own_ge HO3.out h e.symm))); have x14 := (blk_cell BK4 1).trans rfl; have HF4 := Aside0.mk (HF3.out.grown hg4 (fun i hi => .inr (own_ge HO3.out i hi))); obtain ⟨A4, c4, rfl⟩ := ho4.slice; have HO4 := Aside0.mk ho4; have HB4 := Aside0.mk BK4; clear ho4 BK4 hg4))
  go_wp2
  go_ret2
  exact ⟨_, rfl, by simpa using HO4.out, HB4.out, HF4.out⟩
end Go.Proofs.Ytclpkbgjaiacpaa
