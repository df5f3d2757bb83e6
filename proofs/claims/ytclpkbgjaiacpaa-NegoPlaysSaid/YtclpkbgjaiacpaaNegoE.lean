/- What is proved: agree, and what heardDevice and heardFunctions do where an end agrees. Conditions: those that each theorem states. -/
import Derived.Test.YtclpkbgjaiacpaaNegoD
import Derived.WalkSpells
import Derived.Deep.DeepMust
import Derived.Deep.RegionHeld3
import Derived.StillTactics
namespace Go.Proofs.Ytclpkbgjaiacpaa
open Go.RowKit Go.Proofs.YtclpkbgjaiacpaaW.PrintWords Go.Proofs.YtclpkbgjaiacpaaW.PrintLast Go.Proofs.YtclpkbgjaiacpaaW.PrintMore
open Go.Proofs.Ytclpkbgjaiacpaa.PNegoAgrees Go.Proofs.Ytclpkbgjaiacpaa.PSrt
set_option linter.unusedVariables false
set_option linter.unusedSimpArgs false
/-! ### agree -/
theorem collect_any (w : World) (Bs : Nat) (A : Option Addr) (n c : Nat) (l : List Int) (hm : n ≤ 1000000) (hBs : Bs < w.heap.size)
    (hc : w.cell? ⟨Bs, 0, none⟩ = some (.slice A n c)) (hC : Kd.C (Kd.int .u8) w A n l) :
    Calls Try.prog 110 #[.func (.func 112) #[] #[.pointer (some ⟨Bs, 0, none⟩)]] w fun e w' => ∃ v, e = .returned v ∧ OwnB w' w.heap.size v l ∧ Below w.heap.size w w' := by
  have HA := Aside0.mk (callsIn_wide.1 (appendSeq_in Fence.wide 3 trivial trivial rfl (Nat.le_refl _) Bs A n c l hm w hBs hc hC))
  clear hm hBs hc hC
  go_enter Try.func110, Try.ntmps110
  go_wp2_with (go_at_call 126; go_must (refine HA.out.mono ?_; rintro e w1 ⟨v, rfl, ho, hb⟩; have HO := Aside0.mk (of_nums ho); obtain ⟨A1, c1, rfl⟩ := HO.out.slice; have HB := Aside0.mk hb; clear ho hb))
  go_ret
  exact ⟨_, rfl, HO.out, HB.out⟩
theorem sorted_any (w : World) (Bs : Nat) (A : Option Addr) (n c : Nat) (l : List Int) (hm : n ≤ 12) (hBs : Bs < w.heap.size)
    (hc : w.cell? ⟨Bs, 0, none⟩ = some (.slice A n c)) (hC : Kd.C (Kd.int .u8) w A n l) :
    Calls Try.prog 90 #[.func (.func 112) #[] #[.pointer (some ⟨Bs, 0, none⟩)]] w fun e w' => ∃ v r, e = .returned v ∧ OwnB w' w.heap.size v r ∧ r.Perm l ∧ SortedTo r n ∧ Below w.heap.size w w' := by
  obtain rfl : l.length = n := hC.1
  obtain ⟨k, r, hf, hp, hs, hl⟩ := ins_f l (by omega)
  have HA := Aside0.mk (collect_any w Bs A _ c l (by omega) hBs hc hC)
  have HS := Aside0.mk (And.intro hf (And.intro hp (And.intro hs (And.intro hl hm))))
  clear hm hBs hc hC hf hp hs hl
  go_enter Try.func90, Try.ntmps90
  go_wp2_with (first | (go_at_call 110; go_must (refine HA.out.mono ?_; rintro e w1 ⟨v, rfl, ho, hb⟩; have HO := Aside0.mk ho; obtain ⟨A1, c1, rfl⟩ := HO.out.slice; have HB := Aside0.mk hb; clear ho hb)) | (go_at_call 111; go_must (refine (sort_small w w1 A1 _ c1 l r k HB.out HO.out HS.out.2.2.2.2 rfl HS.out.1).mono ?_; rintro e w2 ⟨rfl, ho2, hb2, hk2⟩; have HO2 := Aside0.mk ho2; have HB2 := Aside0.mk hb2; clear ho2 hb2 hk2)))
  go_ret
  exact ⟨_, r, rfl, HO2.out, HS.out.2.1, HS.out.2.2.1, HB2.out⟩
theorem agree_any (w : World) (g : Nat) (ty dev : ByteArray) (fs : Value) (st : Int) (d : ByteArray) (ag : Value) (h : EndB w g ty dev fs st d ag)
    (B : Option Addr) (m cm : Nat) (l : List Int) (hl : Kd.C (Kd.int .u8) w B m l) (hm : m ≤ 12) :
    Calls Try.prog 79 #[.pointer (some ⟨g, 0, none⟩), .slice B m cm] w fun e w' => ∃ v r, e = .returned (.tuple #[]) ∧ OwnB w' w.heap.size v r ∧ r.Perm l ∧ SortedTo r m ∧ EndB w' g ty dev fs 3 d v ∧ Fr (only g) w w' := by
  have hlt : g < w.heap.size := blk_lt h
  have HA := Aside0.mk (sorted_any (w.alloc (.cells #[.slice B m cm] 49)) w.heap.size B m cm l hm (by simp) ((blk_cell (blk_new w _) 0).trans rfl) (Kd.C_alloc hl _))
  have H := Aside0.mk h
  clear h hl hm
  have hmf : ∀ (fn : Fn) (first cap : Array Value) (w : World), (Instr.makeFunc fn first cap).run Try.prog w = .ok (.func fn first cap) w := fun _ _ _ _ => rfl
  have HV := Aside0.mk (show ∀ W : World, Calls Try.prog 91 #[.slice B m cm] W fun e w' => e = .returned (.func (.func 112) #[] #[.pointer (some ⟨W.heap.size, 0, none⟩)]) ∧ w' = W.alloc (.cells #[.slice B m cm] 49) from fun W => by
    go_enter Try.func91, Try.ntmps91
    go_wp2
    go_ret
    exact ⟨rfl, rfl⟩)
  go_enter Try.func79, Try.ntmps79
  go_wp2_with (first | (go_at_call 91; go_must (refine (HV.out _).mono ?_; rintro e w1 ⟨rfl, rfl⟩)) | (go_at_call 90; go_must (refine HA.out.mono ?_; rintro e w2 ⟨v, r, rfl, ho, hp, hs, hb⟩; have BK := blk_below (blk_alloc H.out _) hb; have hc3 := (blk_cell BK 3).trans rfl; have hc5 := (blk_cell BK 5).trans rfl; have hf3 := blk_frozen BK 3; have hf5 := blk_frozen BK 5; have HO := Aside0.mk (ho.lower (b' := w.heap.size) (by simp)); obtain ⟨A1, c1, rfl⟩ := HO.out.slice; have HB := Aside0.mk BK; have HF := Aside0.mk (((Fr.refl (only g) w).alloc _).below hb); have HP := Aside0.mk (And.intro hp hs); clear ho hb hp hs BK)))
  go_end0
  refine ⟨_, r, rfl, ?_, HP.out.1, HP.out.2, blk_put (blk_put HB.out 5 _ rfl) 3 _ rfl, (HF.out.setCell (p := ⟨g, 5, none⟩) (.inl rfl) _).setCell (p := ⟨g, 3, none⟩) (.inl rfl) _⟩
  exact (HO.out.store HB.out (by decide) _ _).store (blk_put HB.out 5 _ rfl) (by decide) _ _
theorem functions_ready (w : World) (g : Nat) (ty dev : ByteArray) (fs : Value) (d : ByteArray) (A : Option Addr) (n c : Nat) (l : List Int) (h : EndB w g ty dev fs 3 d (.slice A n c)) (hl : Kd.C (Kd.int .u8) w A n l) (hn : n ≤ 140737488355328) :
    Calls Try.prog 32 #[.pointer (some ⟨g, 0, none⟩)] w fun e w' => ∃ v, e = .returned v ∧ OwnB w' w.heap.size v l ∧ Below w.heap.size w w' := by
  obtain rfl : l.length = n := hl.1
  have hc5 : w.cell? ⟨g, 5, none⟩ = some (.slice A l.length c) := blk_cell h 5
  have HC := Aside0.mk (clone_any w A l c hl hn)
  clear hl hn
  go_enter Try.func32, Try.ntmps32
  go_wp2_with (first | (go_at_call 31; refine (ready_at _ _ _ _ _ _ _ _ h).mono ?_; rintro e w' ⟨rfl, rfl⟩) | (go_at_call 56; go_must (refine HC.out.mono ?_; rintro e w1 ⟨v, rfl, ho, hb⟩; have HO := Aside0.mk ho; obtain ⟨A1, c1, rfl⟩ := HO.out.slice; have HB := Aside0.mk hb; clear ho hb)))
  go_ret
  exact ⟨_, rfl, HO.out, HB.out⟩
/-! ### heardDevice where it is given one -/
theorem dev_ok (w : World) (g : Nat) (ty dev : ByteArray) (F : Option Addr) (nf cf : Nat) (fl : List Int) (d : ByteArray) (G : Option Addr) (ng cg : Nat) (h : EndB w g ty dev (.slice F nf cf) 1 d (.slice G ng cg)) (hF : Kd.C (Kd.int .u8) w F nf fl) (hnf : nf ≤ 1000000)
    (A : Option Addr) (l : List Int) (n c : Nat)
    (hr : Kd.C (Kd.int .u8) w A n l) (hc : n ≤ c) (hm : n ≤ 140737488355328) (hn : 1 ≤ n) (h4 : rd l 0 = 4) (hb : gotB (l.drop 1) = true) :
    Calls Try.prog 59 #[.pointer (some ⟨g, 0, none⟩), .slice A n c] w fun e w' => ∃ v, e = .returned (.tuple #[v, .int .i64 0]) ∧ OwnB w' w.heap.size v ([3, 7] ++ fl) ∧ EndB w' g ty dev (.slice F nf cf) 2 (gotS (l.drop 1)) (.slice none 0 0) ∧ Fr (only g) w w' := by
  obtain ⟨ad, rfl, x0⟩ := cell00 hr (by omega)
  rw [h4] at x0
  have hlt : g < w.heap.size := blk_lt h
  have hs : ∀ W, (Instr.slice 49 (.slice (some ad) n c) (some (.int .i64 1)) none none).run Try.prog W = .ok (.slice (if c = 1 then some ad else (some ad).map (·.add 1)) (n - 1) (c - 1)) W := fun W => slice_drop (some ad) n c 1 hn W
  have HD := Aside0.mk (C_drop hr 1 c hn hc)
  have hz : (if c = 1 then some ad else (some ad).map (·.add 1)) = none → c - 1 = 0 := by split <;> simp
  have HH := Aside0.mk (And.intro hz (And.intro (show n - 1 ≤ c - 1 by omega) (show n - 1 ≤ 140737488355328 by omega)))
  have HL := Aside0.mk hb
  have HAP := Aside0.mk (C_apart hF h)
  have HBK := Aside0.mk h
  have HFF := Aside0.mk (And.intro hF hnf)
  generalize (if c = 1 then some ad else (some ad).map (·.add 1)) = A2 at *
  generalize l.drop 1 = dl at *
  have hp : (0 : Int) < (n : Int) := by omega
  have h1' : decide ((n : Int) < 1) = false := decide_eq_false (by omega)
  clear hr hz hb h h4 hF hnf
  have h3 : ((n : Int) == 3) = true ∨ ((n : Int) == 3) = false := by cases ((n : Int) == 3) <;> simp
  rcases h3 with h3 | h3
  all_goals
    go_enter Try.func59, Try.ntmps59
    go_wp2_with (first | (go_at_call 75; go_must (refine (got_any _ _ _ dl _ HD.out HH.out.2.1 HH.out.2.2 HH.out.1).mono ?_; rw [HL.out]; rintro e w1 ⟨rfl, hb1⟩; have BK := blk_below HBK.out hb1; have x2 := (blk_cell BK 2).trans rfl; have x3 := (blk_cell BK 3).trans rfl; have x4 := (blk_cell BK 4).trans rfl; have f4 := blk_frozen BK 4; have HB := Aside0.mk hb1; have HBK2 := Aside0.mk BK; clear hb1 BK)) | (go_at_call 76; go_must (refine (offer_any _ g ty dev F nf cf 1 (gotS dl) G ng cg (by exact blk_put HBK2.out 4 _ rfl) F nf cf fl (by exact C_fr HFF.out.1 (((Fr.refl (only g) w).below HB.out).setCell (p := ⟨g, 4, none⟩) (.inl rfl) _) HAP.out) HFF.out.2).mono ?_; rintro e w2 ⟨v, rfl, ho, hE, hf⟩; have HO := Aside0.mk (ho.lower (b' := w.heap.size) (by (have h1 := HB.out.size; simpa using h1))); obtain ⟨A1, c1, rfl⟩ := HO.out.slice; have HE2 := Aside0.mk hE; have HF2 := Aside0.mk ((((Fr.refl (only g) w).below HB.out).setCell (p := ⟨g, 4, none⟩) (.inl rfl) _).then_ hf (fun i hi => .inl hi)); clear ho hE hf)))
    go_ret2
    exact ⟨_, rfl, HO.out, HE2.out, HF2.out⟩
/-! ### heardFunctions where it agrees or is refused -/
theorem fun_is (w : World) (g : Nat) (ty dev : ByteArray) (F : Option Addr) (nf cf : Nat) (fl : List Int) (d : ByteArray) (ag : Value) (h : EndB w g ty dev (.slice F nf cf) 2 d ag) (hF : Kd.C (Kd.int .u8) w F nf fl) (hzf : F = none → cf = 0)
    (A : Option Addr) (l : List Int) (n c : Nat)
    (hr : Kd.C (Kd.int .u8) w A n l) (hc : n ≤ c) (hm : n ≤ 140737488355328) (hn : 1 ≤ n) (h4 : rd l 0 = 4) (ho : onceB (l.drop 1) = true) (hown : allIn fl (l.drop 1) = true) (hn13 : n ≤ 13) :
    Calls Try.prog 60 #[.pointer (some ⟨g, 0, none⟩), .slice A n c] w fun e w' => ∃ v r, e = .returned (.tuple #[.slice none 0 0, .int .i64 0]) ∧ OwnB w' w.heap.size v r ∧ r.Perm (l.drop 1) ∧ SortedTo r (n - 1) ∧ EndB w' g ty dev (.slice F nf cf) 3 d v ∧ Fr (only g) w w' := by
  obtain ⟨ad, rfl, x0⟩ := cell00 hr (by omega)
  rw [h4] at x0
  have hlt : g < w.heap.size := blk_lt h
  have hs : ∀ W, (Instr.slice 49 (.slice (some ad) n c) (some (.int .i64 1)) none none).run Try.prog W = .ok (.slice (if c = 1 then some ad else (some ad).map (·.add 1)) (n - 1) (c - 1)) W := fun W => slice_drop (some ad) n c 1 hn W
  have HD := Aside0.mk (C_drop hr 1 c hn hc)
  have hz : (if c = 1 then some ad else (some ad).map (·.add 1)) = none → c - 1 = 0 := by split <;> simp
  have HH := Aside0.mk (And.intro hz (And.intro (show n - 1 ≤ c - 1 by omega) (And.intro (show n - 1 ≤ 140737488355328 by omega) (show n - 1 ≤ 12 by omega))))
  have HO := Aside0.mk (And.intro ho hown)
  have HBK := Aside0.mk h
  have HFF := Aside0.mk (And.intro hF hzf)
  have hc3 : w.cell? ⟨g, 3, none⟩ = some (.int .i64 2) := blk_cell h 3
  have hx0 := World.block_lt_of_cell? w ad x0
  generalize (if c = 1 then some ad else (some ad).map (·.add 1)) = A2 at *
  generalize l.drop 1 = dl at *
  have hp : (0 : Int) < (n : Int) := by omega
  have h1' : decide ((n : Int) < 1) = false := decide_eq_false (by omega)
  clear hr hz ho hown h h4 hF hzf hm
  go_enter Try.func60, Try.ntmps60
  go_wp2_with (first | (go_at_call 77; go_must (refine (once_any _ _ _ dl _ HD.out HH.out.2.1 HH.out.2.2.1 HH.out.1).mono ?_; rw [HO.out.1]; rintro e w1 ⟨rfl, rfl⟩)) | (go_at_call 78; go_must (refine (own_any _ g ty dev F nf cf fl _ _ _ HBK.out HFF.out.2 HFF.out.1 _ _ _ dl HD.out HH.out.2.2.1).mono ?_; rw [HO.out.2]; rintro e w2 ⟨rfl, hb2⟩; have HB2 := Aside0.mk hb2; clear hb2)) | (go_at_call 79; go_must (refine (agree_any _ g ty dev _ _ _ _ (blk_below HBK.out HB2.out) _ _ _ dl (Kd.C_below HD.out HB2.out) HH.out.2.2.2).mono ?_; rintro e w3 ⟨v, r, rfl, hov, hp3, hs3, hE, hf⟩; have H3 := Aside0.mk (And.intro hov (And.intro hp3 (And.intro hs3 (And.intro hE hf)))); clear hov hp3 hs3 hE hf)))
  go_ret2
  exact ⟨v, r, rfl, H3.out.1.lower HB2.out.size, H3.out.2.1, H3.out.2.2.1, H3.out.2.2.2.1, ((Fr.refl (only g) w).below HB2.out).then_ H3.out.2.2.2.2 (fun i hi => .inl hi)⟩
theorem fun_is_not (w : World) (g : Nat) (ty dev : ByteArray) (F : Option Addr) (nf cf : Nat) (fl : List Int) (d : ByteArray) (ag : Value) (h : EndB w g ty dev (.slice F nf cf) 2 d ag) (hF : Kd.C (Kd.int .u8) w F nf fl) (hzf : F = none → cf = 0)
    (A : Option Addr) (l : List Int) (n c : Nat)
    (hr : Kd.C (Kd.int .u8) w A n l) (hc : n ≤ c) (hm : n ≤ 140737488355328) (hn : 1 ≤ n) (h4 : rd l 0 = 4) (ho : onceB (l.drop 1) = true) (hown : allIn fl (l.drop 1) = false) :
    Calls Try.prog 60 #[.pointer (some ⟨g, 0, none⟩), .slice A n c] w fun e w' => e = .returned (.tuple #[.slice none 0 0, .int .i64 0]) ∧ EndB w' g ty dev (.slice F nf cf) 4 d ag ∧ Fr (only g) w w' := by
  obtain ⟨ad, rfl, x0⟩ := cell00 hr (by omega)
  rw [h4] at x0
  have hlt : g < w.heap.size := blk_lt h
  have hs : ∀ W, (Instr.slice 49 (.slice (some ad) n c) (some (.int .i64 1)) none none).run Try.prog W = .ok (.slice (if c = 1 then some ad else (some ad).map (·.add 1)) (n - 1) (c - 1)) W := fun W => slice_drop (some ad) n c 1 hn W
  have HD := Aside0.mk (C_drop hr 1 c hn hc)
  have hz : (if c = 1 then some ad else (some ad).map (·.add 1)) = none → c - 1 = 0 := by split <;> simp
  have HH := Aside0.mk (And.intro hz (And.intro (show n - 1 ≤ c - 1 by omega) (show n - 1 ≤ 140737488355328 by omega)))
  have HO := Aside0.mk (And.intro ho hown)
  have HBK := Aside0.mk h
  have HFF := Aside0.mk (And.intro hF hzf)
  have hc3 : w.cell? ⟨g, 3, none⟩ = some (.int .i64 2) := blk_cell h 3
  have hx0 := World.block_lt_of_cell? w ad x0
  generalize (if c = 1 then some ad else (some ad).map (·.add 1)) = A2 at *
  generalize l.drop 1 = dl at *
  have hp : (0 : Int) < (n : Int) := by omega
  have h1' : decide ((n : Int) < 1) = false := decide_eq_false (by omega)
  clear hr hz ho hown h h4 hF hzf hm
  go_enter Try.func60, Try.ntmps60
  go_wp2_with (first | (go_at_call 77; go_must (refine (once_any _ _ _ dl _ HD.out HH.out.2.1 HH.out.2.2 HH.out.1).mono ?_; rw [HO.out.1]; rintro e w1 ⟨rfl, rfl⟩)) | (go_at_call 78; go_must (refine (own_any _ g ty dev F nf cf fl _ _ _ HBK.out HFF.out.2 HFF.out.1 _ _ _ dl HD.out HH.out.2.2).mono ?_; rw [HO.out.2]; rintro e w2 ⟨rfl, hb2⟩; have BK := blk_below HBK.out hb2; have y3 := blk_frozen BK 3; have y4 := (blk_cell BK 3).trans rfl; have hy0 := (pw_cell_below hb2 x0); have HB2 := Aside0.mk hb2; have HBK2 := Aside0.mk BK; clear hb2 BK)))
  go_ret2
  exact ⟨rfl, blk_put HBK2.out 3 _ rfl, ((Fr.refl (only g) w).below HB2.out).setCell (p := ⟨g, 3, none⟩) (.inl rfl) _⟩
/-! ### heardFunctions where the host asks -/
theorem fun_asks (w : World) (g : Nat) (ty dev : ByteArray) (F : Option Addr) (nf cf : Nat) (fl : List Int) (st : Int) (d : ByteArray) (G : Option Addr) (ng cg : Nat) (h : EndB w g ty dev (.slice F nf cf) st d (.slice G ng cg)) (hst : st = 2 ∨ st = 3) (hF : Kd.C (Kd.int .u8) w F nf fl) (hzf : F = none → cf = 0)
    (A : Option Addr) (l : List Int) (n c : Nat)
    (hr : Kd.C (Kd.int .u8) w A n l) (hc : n ≤ c) (hm : n ≤ 140737488355328) (hn : 1 ≤ n) (h4 : rd l 0 = 7) (ho : onceB (l.drop 1) = true) (hown : allIn fl (l.drop 1) = true) (hn13 : n ≤ 13) :
    Calls Try.prog 60 #[.pointer (some ⟨g, 0, none⟩), .slice A n c] w fun e w' => ∃ v r u, e = .returned (.tuple #[u, .int .i64 0]) ∧ OwnB w' w.heap.size v r ∧ r.Perm (l.drop 1) ∧ SortedTo r (n - 1) ∧ EndB w' g ty dev (.slice F nf cf) 3 d v ∧ Fr (only g) w w' ∧ OwnB w' w.heap.size u ([3, 4] ++ l.drop 1) := by
  obtain ⟨ad, rfl, x0⟩ := cell00 hr (by omega)
  rw [h4] at x0
  have hlt : g < w.heap.size := blk_lt h
  have hs : ∀ W, (Instr.slice 49 (.slice (some ad) n c) (some (.int .i64 1)) none none).run Try.prog W = .ok (.slice (if c = 1 then some ad else (some ad).map (·.add 1)) (n - 1) (c - 1)) W := fun W => slice_drop (some ad) n c 1 hn W
  have HD := Aside0.mk (C_drop hr 1 c hn hc)
  have hz : (if c = 1 then some ad else (some ad).map (·.add 1)) = none → c - 1 = 0 := by split <;> simp
  have HH := Aside0.mk (And.intro hz (And.intro (show n - 1 ≤ c - 1 by omega) (And.intro (show n - 1 ≤ 140737488355328 by omega) (show n - 1 ≤ 12 by omega))))
  have HO := Aside0.mk (And.intro ho hown)
  have HBK := Aside0.mk h
  have HFF := Aside0.mk (And.intro hF hzf)
  have hc3 : w.cell? ⟨g, 3, none⟩ = some (.int .i64 st) := blk_cell h 3
  have hx0 := World.block_lt_of_cell? w ad x0
  generalize (if c = 1 then some ad else (some ad).map (·.add 1)) = A2 at *
  have HAP := Aside0.mk (show ∀ e, A2 = some e → 0 < n - 1 → ¬ only g e.block from C_apart HD.out h)
  generalize l.drop 1 = dl at *
  have hp : (0 : Int) < (n : Int) := by omega
  have h1' : decide ((n : Int) < 1) = false := decide_eq_false (by omega)
  clear hr hz ho hown h h4 hF hzf hm
  rcases hst with rfl | rfl
  all_goals
    go_enter Try.func60, Try.ntmps60
    go_wp2_with (first | (go_at_call 77; go_must (refine (once_any _ _ _ dl _ HD.out HH.out.2.1 HH.out.2.2.1 HH.out.1).mono ?_; rw [HO.out.1]; rintro e w1 ⟨rfl, rfl⟩)) | (go_at_call 78; go_must (refine (own_any _ g ty dev F nf cf fl _ _ _ HBK.out HFF.out.2 HFF.out.1 _ _ _ dl HD.out HH.out.2.2.1).mono ?_; rw [HO.out.2]; rintro e w2 ⟨rfl, hb2⟩; have hy0 := (pw_cell_below hb2 x0); have HB2 := Aside0.mk hb2; clear hb2)) | (go_at_call 79; go_must (refine (agree_any _ g ty dev _ _ _ _ (blk_below HBK.out HB2.out) _ _ _ dl (Kd.C_below HD.out HB2.out) HH.out.2.2.2).mono ?_; rintro e w3 ⟨v, r, rfl, hov, hp3, hs3, hE, hf⟩; have H3 := Aside0.mk (And.intro hov (And.intro hp3 (And.intro hs3 (And.intro hE hf)))); clear hov hp3 hs3 hE hf)) | ((with_reducible refine gate_dst (N := 80) rfl ?_); go_must (refine litE w3.heap.size rfl (N := 80) rfl [3, 4] ?zr ?zb ?zl ?_; (case zr => first | (go_simp; done) | (go_simp; rfl)); (case zb => simp); (case zl => simp); intro v4 w4 ho4 hb4 hfr4; have HO4 := Aside0.mk ho4; have HB4 := Aside0.mk hb4; have HG4 := Aside0.mk (own_ge ho4); clear ho4 hb4 hfr4)) | (at_builtin; go_must (refine appL w3.heap.size rfl (.tmp 80) (.tmp 81) rfl _ [3, 4] dl A2 (n - 1) (c - 1) rfl rfl HO4.out (Kd.C_below (C_fr (Kd.C_below HD.out HB2.out) H3.out.2.2.2.2 HAP.out) HB4.out) ?zb2 ?z4 ?_; (case zb2 => exact HB4.out.size); (case z4 => have h4 := HH.out.2.2.2; simp only [List.length_cons, List.length_nil]; omega); intro v5 w5 ho5 hg5; have HO5 := Aside0.mk ho5; have HG5 := Aside0.mk hg5; obtain ⟨A5, m5, c5, rfl, _, _, _⟩ := OwnB.open ho5; clear ho5 hg5)))
    go_ret2
    have hb : Below w3.heap.size w3 w5 := (((Fr.of_below (S := nothing) HB4.out).grown HG5.out (fun i hi => .inr (HG4.out i hi)))).to_below (fun _ h => h.elim)
    exact ⟨v, r, _, rfl, (H3.out.1.below hb).lower HB2.out.size, H3.out.2.1, H3.out.2.2.1, blk_below H3.out.2.2.2.1 hb, ((Fr.refl (only g) w).below HB2.out |>.then_ H3.out.2.2.2.2 (fun i hi => .inl hi)).below hb, HO5.out.lower (Nat.le_trans HB2.out.size H3.out.2.2.2.2.size)⟩
def commonL (lf l : List Int) : List Int := l.filter fun x => decide (0 ≤ at1 lf x)
theorem allIn_one (lf : List Int) (x : Int) : allIn lf [x] = decide (0 ≤ at1 lf x) := by simp [allIn]
theorem commonL_succ (lf l : List Int) (k : Nat) (hk : k < l.length) : commonL lf (l.take (k + 1)) = commonL lf (l.take k) ++ (if decide (0 ≤ at1 lf (rd l k)) then [rd l k] else []) := by
  unfold commonL
  rw [List.take_succ_eq_append_getElem hk, List.filter_append, rd_get l k hk]
  congr 1
  rw [List.filter_cons, List.filter_nil]
theorem commonL_len (lf l : List Int) : (commonL lf l).length ≤ l.length := List.length_filter_le _ _
set_option maxHeartbeats 1000000 in
theorem fun_cuts (w : World) (g : Nat) (ty dev : ByteArray) (F : Option Addr) (nf cf : Nat) (fl : List Int) (st : Int) (d : ByteArray) (G : Option Addr) (ng cg : Nat) (h : EndB w g ty dev (.slice F nf cf) st d (.slice G ng cg)) (hst : st = 2 ∨ st = 3) (hF : Kd.C (Kd.int .u8) w F nf fl) (hzf : F = none → cf = 0)
    (A : Option Addr) (l : List Int) (n c : Nat)
    (hr : Kd.C (Kd.int .u8) w A n l) (hc : n ≤ c) (hm : n ≤ 1000000) (hn : 1 ≤ n) (h4 : rd l 0 = 7) (ho : onceB (l.drop 1) = true) (hown : allIn fl (l.drop 1) = false) :
    Calls Try.prog 60 #[.pointer (some ⟨g, 0, none⟩), .slice A n c] w fun e w' => ∃ u, e = .returned (.tuple #[u, .int .i64 0]) ∧ EndB w' g ty dev (.slice F nf cf) 2 d (.slice none 0 0) ∧ Fr (only g) w w' ∧ OwnB w' w.heap.size u ([3, 7] ++ commonL fl (l.drop 1)) := by
  obtain ⟨ad, rfl, x0⟩ := cell00 hr (by omega)
  rw [h4] at x0
  have hlt : g < w.heap.size := blk_lt h
  have hs : ∀ W, (Instr.slice 49 (.slice (some ad) n c) (some (.int .i64 1)) none none).run Try.prog W = .ok (.slice (if c = 1 then some ad else (some ad).map (·.add 1)) (n - 1) (c - 1)) W := fun W => slice_drop (some ad) n c 1 hn W
  have HD := Aside0.mk (C_drop hr 1 c hn hc)
  have hz : (if c = 1 then some ad else (some ad).map (·.add 1)) = none → c - 1 = 0 := by split <;> simp
  have HH := Aside0.mk (And.intro hz (And.intro (show n - 1 ≤ c - 1 by omega) (And.intro (show n - 1 ≤ 140737488355328 by omega) (show n - 1 ≤ 1000000 by omega))))
  have HO := Aside0.mk (And.intro ho hown)
  have HBK := Aside0.mk h
  have HFF := Aside0.mk (And.intro hF hzf)
  have hc3 : w.cell? ⟨g, 3, none⟩ = some (.int .i64 st) := blk_cell h 3
  have hx0 := World.block_lt_of_cell? w ad x0
  generalize (if c = 1 then some ad else (some ad).map (·.add 1)) = A2 at *
  generalize l.drop 1 = dl at *
  have hp : (0 : Int) < (n : Int) := by omega
  have h1' : decide ((n : Int) < 1) = false := decide_eq_false (by omega)
  have hdl := HD.out.1
  obtain ⟨m, hmn⟩ : ∃ m, m = n - 1 := ⟨_, rfl⟩
  rw [← hmn] at HH HD hs hdl
  have hm1 := HH.out.2.2.2
  clear hr hz ho hown h h4 hF hzf hm hmn
  rcases hst with rfl | rfl
  all_goals
    go_enter Try.func60, Try.ntmps60
    go_wp2_with (first | (go_at_call 77; go_must (refine (once_any _ _ _ dl _ HD.out HH.out.2.1 HH.out.2.2.1 HH.out.1).mono ?_; rw [HO.out.1]; rintro e w1 ⟨rfl, rfl⟩)) | (go_at_call 78; go_must (refine (own_any _ g ty dev F nf cf fl _ _ _ HBK.out HFF.out.2 HFF.out.1 _ _ _ dl HD.out HH.out.2.2.1).mono ?_; rw [HO.out.2]; rintro e w2 ⟨rfl, hb2⟩; have hy0 := (pw_cell_below hb2 x0); have HB2 := Aside0.mk hb2; clear hb2)))
    go_loopw [7, 85] (fun cv i wr => ∃ k : Nat, k ≤ m ∧ i = .int .i64 k ∧ Aside0 (OwnB wr w.heap.size cv (commonL fl (dl.take k))) ∧ Aside0 (Below w.heap.size w wr)) (fun _ i _ => m - (intOf i).toNat)
    case atStart => exact ⟨0, Nat.zero_le _, rfl, ⟨by (have h1 : OwnB w2 w.heap.size (.slice none 0 0) [] := Kd.R_nil _ _ _ _ _); exact h1⟩, HB2⟩
    case round =>
      obtain ⟨k, hk, rfl, HC, HB⟩ := hrel
      clear hy0
      by_cases hlt : k < m
      · obtain ⟨a2, e, hx⟩ := cell0 (Kd.C_below HD.out HB.out) k hlt
        have hsu := commonL_succ fl dl k (by omega)
        subst e
        have hk0 : (0 : Int) ≤ (k : Int) := Int.natCast_nonneg k
        have hk1 : (k : Int) < (m : Int) := Int.ofNat_lt.2 hlt
        generalize rd dl k = x at *
        have HSU := Aside0.mk hsu
        clear hsu
        by_cases hin : 0 ≤ at1 fl x
        · have HIN := Aside0.mk (show allIn fl [x] = true by rw [allIn_one]; exact decide_eq_true hin)
          have HS2 := Aside0.mk (show commonL fl (dl.take (k + 1)) = commonL fl (dl.take k) ++ [x] by rw [HSU.out, decide_eq_true hin, if_pos rfl])
          have hlen := Nat.le_trans (commonL_len fl (dl.take k)) (List.length_take_le k dl)
          have HLEN := Aside0.mk hlen
          clear hin HSU hlen
          generalize commonL fl (dl.take k) = cl at *
          go_wp2_with (first | (go_at_call 78; go_must (refine (own_any _ g ty dev F nf cf fl _ _ _ (blk_alloc (blk_below HBK.out HB.out) _) HFF.out.2 (Kd.C_alloc (Kd.C_below HFF.out.1 HB.out) _) _ _ _ [x] (lit_C _ [x] (by simp)) (by simp)).mono ?_; rw [HIN.out]; rintro e w4 ⟨rfl, hb4⟩; have HB4 := Aside0.mk (below_alloc (Below.refl _ _) _ |>.trans (hb4.mono (by simp))); clear hb4)) | (at_builtin; go_must (refine appL w.heap.size rfl (.tmp 93) (.tmp 95) rfl _ cl [x] (some ⟨w4.heap.size, 0, none⟩) 1 1 rfl rfl ((HC.out.below HB4.out).below (below_alloc (Below.refl _ _) _)) (lit_C w4 [x] (by simp)) ?zb2 ?z4 ?_; (case zb2 => exact (show w.heap.size ≤ (w4.alloc (.cells #[.int .u8 x] 5)).heap.size from (by rw [World.size_alloc]; exact Nat.le_succ_of_le (Nat.le_trans HB.out.size HB4.out.size)))); (case z4 => (have h1 := HLEN.out; omega)); intro v5 w5 ho5 hg5; have HO5 := Aside0.mk ho5; have HB5 := Aside0.mk (((HB.out.trans (HB4.out.mono HB.out.size)).alloc (by (have h1 := HB.out.size; have h2 := HB4.out.size; omega)) _).grown hg5 (by (have h1 := HB.out.size; have h2 := HB4.out.size; first | omega | (simp; omega))) (own_ge HC.out)); clear ho5 hg5)))
          go_roundw
          case rel => exact ⟨k + 1, hlt, by go_num, ⟨by rw [HS2.out]; exact HO5.out⟩, HB5⟩
          case measure => simp [intOf]; omega
        · have HIN := Aside0.mk (show allIn fl [x] = false by rw [allIn_one]; exact decide_eq_false hin)
          have HS2 := Aside0.mk (show commonL fl (dl.take (k + 1)) = commonL fl (dl.take k) by rw [HSU.out, decide_eq_false hin, if_neg (by simp), List.append_nil])
          clear hin HSU
          go_wp2_with (go_at_call 78; go_must (refine (own_any _ g ty dev F nf cf fl _ _ _ (blk_alloc (blk_below HBK.out HB.out) _) HFF.out.2 (Kd.C_alloc (Kd.C_below HFF.out.1 HB.out) _) _ _ _ [x] (lit_C _ [x] (by simp)) (by simp)).mono ?_; rw [HIN.out]; rintro e w4 ⟨rfl, hb4⟩; have HB4 := Aside0.mk (below_alloc (Below.refl _ _) _ |>.trans (hb4.mono (by simp))); clear hb4))
          go_roundw
          case rel => exact ⟨k + 1, hlt, by go_num, ⟨by rw [HS2.out]; exact HC.out.below HB4.out⟩, ⟨HB.out.trans (HB4.out.mono HB.out.size)⟩⟩
          case measure => simp [intOf]; omega
      · obtain rfl : k = m := by omega
        have HE := Aside0.mk (show OwnB wr w.heap.size u7 (commonL fl dl) by have h1 := HC.out; rwa [List.take_of_length_le (by omega)] at h1)
        have HLEN := Aside0.mk (show (commonL fl dl).length ≤ 1000000 by have h1 := commonL_len fl dl; omega)
        clear HC
        obtain ⟨A3, n3, c3, rfl, hc3', hC3, hn3⟩ := HE.out.open
        have HCC := Aside0.mk hC3
        have HLN := Aside0.mk (show n3 ≤ 1000000 by have h1 := hC3.1; have h2 := HLEN.out; omega)
        clear hc3' hC3 hn3
        go_wp2_with (go_at_call 76; go_must (refine (offer_any _ g ty dev F nf cf _ d G ng cg (blk_below HBK.out HB.out) A3 n3 c3 _ HCC.out HLN.out).mono ?_; rintro e w5 ⟨u, rfl, hou, hE5, hf5⟩; have H5 := Aside0.mk (And.intro hou (And.intro hE5 hf5)); clear hou hE5 hf5))
        go_ret2
        exact ⟨_, rfl, H5.out.2.1, ((Fr.refl (only g) w).below HB.out).then_ H5.out.2.2 (fun i hi => .inl hi), H5.out.1.lower HB.out.size⟩
end Go.Proofs.Ytclpkbgjaiacpaa
