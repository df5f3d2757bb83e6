import Derived.RangeFuncKeeps
import Derived.RangeFuncNested
import Derived.ControlIn
namespace Go.Proofs.Ytclpkbgjaiacpaa
open Go Go.RowKit
set_option linter.unusedVariables false
/-! ### a range over a function whose iterator writes, too -/
/-- What an iterator called in a later world does: between two rounds it goes by Cl alone; it leans on it that a round keeps Kp. -/
def SeqR {α : Type} (F : Fence) (n : Nat) (P : Program) (gf : Nat) (lb : Array Value) (encs : α → Array Value) (Cl Kp : World → World → Prop) (S Sp : List α → World → Prop) (T : List α → α → Prop) (w : World) : Prop :=
  ∀ (l : Nat) (J Jx : List α → World → Prop) (W : World), Below w.heap.size w W → (∀ s A B, Cl A B → J s A → J s B) → (∀ s A B, Cl A B → Jx s A → Jx s B) →
    (∀ pre x W1, J pre W1 → T pre x → YieldAt F (n - 1) P l (encs x) W1 fun e W' =>
      (e = .returned (.bool true) ∧ J (pre ++ [x]) W' ∧ Kp W1 W') ∨ (e = .returned (.bool false) ∧ Jx (pre ++ [x]) W' ∧ Kp W1 W')) →
    J [] W →
    CallsIn F n P gf (#[.func (.yield l) #[] #[]] ++ lb) W fun e W' => (∃ v, e = .returned v) ∧ ((∃ xs, S xs W' ∧ J xs W') ∨ (∃ pre, Sp pre W' ∧ Jx pre W'))
/-- How a round's body may be left. -/
def postR {α : Type} (B : Nat) (Kp : World → World → Prop) (I : List α → World → Prop) (Ix : Code → List α → World → Prop) (xs : List α) (W : World) : Exit → Act → World → Prop
  | .normal, _, W' => KeepsFrom B W W' ∧ Kp W W' ∧ I xs W'
  | .ret, _, W' => KeepsFrom B W W' ∧ Kp W W' ∧ Ix .ret xs W'
  | .exit id, _, W' => KeepsFrom B W W' ∧ Kp W W' ∧ Ix (.exit id) xs W'
  | .goto t, _, W' => KeepsFrom B W W' ∧ Kp W W' ∧ Ix (.goto t) xs W'
  | .panic _, _, _ => False
  | .outgrown, _, _ => False
/-- The loop's own record is turned, nothing else. -/
def BookR (B : Nat) (W2 W : World) : Prop := ∃ l r o', B ≤ l ∧ W2.heap[l]? = some (.loop r) ∧ W = W2.putObj l o'
/-- What a loop's own book-keeping leaves as it is. -/
structure LoopOk {β : Type} (B : Nat) (I : β → World → Prop) : Prop where
  alloc : ∀ {s W} (o : Obj), I s W → I s (W.alloc o)
  put : ∀ {s W l r} (o' : Obj), B ≤ l → W.heap[l]? = some (.loop r) → I s W → I s (W.putObj l o')
theorem LoopOk.of_own {β : Type} {B : Nat} {I : β → World → Prop} (h : OwnFrom B I) : LoopOk B I := ⟨fun o hs => h.alloc o hs, fun o' hB hl hs => h.putObj o' hs hB hl rfl⟩
theorem LoopOk.and {β : Type} {B : Nat} {I I' : β → World → Prop} (h : LoopOk B I) (h' : LoopOk B I') : LoopOk B (fun s W => I s W ∧ I' s W) :=
  ⟨fun o hs => ⟨h.alloc o hs.1, h'.alloc o hs.2⟩, fun o' hB hl hs => ⟨h.put o' hB hl hs.1, h'.put o' hB hl hs.2⟩⟩
variable {F : Fence} {n : Nat} {P : Program}
theorem wpIn_rangeR {α : Type} {g : Operand} {ps : Array Tmp} {assign body : Code} {Q : Exit → Act → World → Prop} {a : Act} {w : World}
    (hro : F.round = none) (h1 : 1 ≤ n) {gf : Nat} {lb : Array Value} (hg : a.eval g = .func (.func gf) #[] lb) (hFg : F.fn gf) (eg : ∀ args w, (callFunc gf args).run P w = .ok (.enter gf args) w)
    {encs : α → Array Value} {Cl Kp : World → World → Prop} {S Sp : List α → World → Prop} {T : List α → α → Prop} (hseq : SeqR F (n - 1) P gf lb encs Cl Kp S Sp T w)
    (hCl : ∀ A B k o, Cl A B → w.heap.size ≤ k → A.heap[k]? = some o → o.isCells = false → B.heap[k]? = some o)
    (hKt : ∀ {A B C : World}, Kp A B → Kp B C → Kp A C) (hKb : ∀ (W : World) (l : Nat) (r : Loop) (o' : Obj), w.heap.size ≤ l → W.heap[l]? = some (.loop r) → Kp W (W.putObj l o'))
    (hps : ∀ x, (encs x).size = ps.size)
    (I : List α → World → Prop) (Ix : Code → List α → World → Prop) (hI : LoopOk w.heap.size I) (hIx : ∀ c, LoopOk w.heap.size (Ix c)) (hIc : ∀ s A B, Cl A B → I s A → I s B) (hIxc : ∀ c s A B, Cl A B → Ix c s A → Ix c s B) (h0 : I [] w) (a₁ : α → Act)
    (hassign : ∀ (l : Nat) (x : α) (W : World) (K : Act → World → Prop), K (a₁ x) W →
      assign.wpIn (F.inRound l) (n - 1 - 1) P (Exit.then K (fun _ _ _ => False)) { tmps := (ps.zip (encs x)).foldl (fun t (p, v) => t.setIfInBounds p v) a.tmps, defers := [] } W)
    (hbody : ∀ (l : Nat) (pre : List α) (x : α) (W : World), I pre W → T pre x → body.wpIn (F.inRound l) (n - 1 - 1) P (postR w.heap.size Kp I Ix (pre ++ [x]) W) (a₁ x) W)
    (hdone : ∀ (D : Nat) (xs : List α) (W2 W : World), w.heap.size ≤ D → S xs W2 → I xs W → BookR w.heap.size W2 W → W.heap[D]? = some (.deferred (some [])) → Q .normal { a with defers := { target := .collected D, args := #[] } :: a.defers } W)
    (hstop : ∀ (D : Nat) (c : Code) (pre : List α) (W2 W : World), w.heap.size ≤ D → Sp pre W2 → Ix c pre W → BookR w.heap.size W2 W → W.heap[D]? = some (.deferred (some [])) → c.wpIn F n P Q { a with defers := { target := .collected D, args := #[] } :: a.defers } W) :
    (Code.rangeFunc g ps assign body).wpIn F n P Q a w := by
  refine wpIn_rangeFunc ?_
  intro fn hfn
  rw [hro]
  obtain ⟨rec, hrec⟩ : ∃ rec : LoopState → Option Code → Loop, rec = fun st pe => { state := st, pending := pe, fn, tmps := a.tmps, params := ps, assign, body, defers := w.heap.size } := ⟨_, rfl⟩
  obtain ⟨W1, hW1⟩ : ∃ W1, (w.alloc (.deferred (some []))).alloc (.loop (rec .ready none)) = W1 := ⟨_, rfl⟩
  have hL1 : W1.heap[w.heap.size + 1]? = some (.loop (rec .ready none)) := by
    rw [← hW1]; have := World.alloc_heap_new (w.alloc (.deferred (some []))) (.loop (rec .ready none)); rwa [World.size_alloc] at this
  have hK1 : W1.heap[w.heap.size]? = some (.deferred (some [])) := by
    rw [← hW1]; exact (Below.heap_alloc _ _ _ (by simp)).trans (World.alloc_heap_new w _)
  have hI1 : I [] W1 := by rw [← hW1]; exact hI.alloc _ (hI.alloc _ h0)
  have hb1 : Below w.heap.size w W1 := by
    rw [← hW1]; exact ((Below.refl _ w).alloc (Nat.le_refl _) _).alloc (by simp) _
  refine ⟨w.heap.size + 1, [{ target := .collected w.heap.size, args := #[] }], W1, { target := .fn (.func gf) lb, args := #[.func (.yield (w.heap.size + 1)) #[] #[]] }, W1, gf,
    #[.func (.yield (w.heap.size + 1)) #[] #[]] ++ lb, W1, ?_, ?_, ?_, ?_, fun _ => h1, ?_⟩
  · rw [← hW1, hrec]; exact run_enterLoop_outer _ _ _ _ _
  · simp only [resolve, hg]
    simp [go_sem]
  · intro f' hf'; simp [Target.leads] at hf'; subst hf'; exact hFg
  · simp [invoke, go_sem, eg]
  · refine (hseq (w.heap.size + 1)
      (fun pre W => I pre W ∧ W.heap[w.heap.size + 1]? = some (.loop (rec .ready none)) ∧ W.heap[w.heap.size]? = some (.deferred (some [])))
      (fun pre W => ∃ c, Ix c pre W ∧ W.heap[w.heap.size + 1]? = some (.loop (rec .done (some c))) ∧ W.heap[w.heap.size]? = some (.deferred (some [])))
      W1 hb1
      (fun s A B hc hs => ⟨hIc s A B hc hs.1, hCl A B _ _ hc (by omega) hs.2.1 rfl, hCl A B _ _ hc (Nat.le_refl _) hs.2.2 rfl⟩)
      (fun s A B hc hs => by
        obtain ⟨c, h2, hl, hk⟩ := hs
        exact ⟨c, hIxc c s A B hc h2, hCl A B _ _ hc (by omega) hl rfl, hCl A B _ _ hc (Nat.le_refl _) hk rfl⟩)
      ?_ ⟨hI1, hL1, hK1⟩).mono ?_
    · rintro pre x W ⟨hi, hl, hk⟩ hlen
      have hlt : w.heap.size + 1 < W.heap.size := (Array.getElem?_eq_some_iff.1 hl).1
      have hy := run_yield (P := P) (args := encs x) hl (by rw [hrec]; exact hps x)
      rw [hrec] at hy
      refine ⟨fn, _, assign, body, hy, roundIn_of_wpIn hfn (hassign _ x W _ ⟨_, run_beginRound hl (by rw [hrec]), ?_⟩)⟩
      have hl2 : (W.putObj (w.heap.size + 1) (.loop { rec .ready none with state := .busy })).heap[w.heap.size + 1]? = some (.loop { rec .ready none with state := .busy }) := World.putObj_heap_same hlt
      have hk2 : (W.putObj (w.heap.size + 1) (.loop { rec .ready none with state := .busy })).heap[w.heap.size]? = some (.deferred (some [])) := (World.putObj_heap_other (by omega)).trans hk
      have hw2 : Kp W (W.putObj (w.heap.size + 1) (.loop { rec .ready none with state := .busy })) := hKb _ _ _ _ (by omega) hl
      refine wpIn_mono (hbody _ pre x _ (hI.put _ (by omega) hl hi) hlen) ?_
      have fin : ∀ (jump : Option Code) (W3 : World), KeepsFrom w.heap.size (W.putObj (w.heap.size + 1) (.loop { rec .ready none with state := .busy })) W3 →
          (Instr.endRound (w.heap.size + 1) jump).run P W3 = .ok (.bool jump.isNone) (W3.putObj (w.heap.size + 1) (.loop (rec (if jump.isNone then .ready else .done) jump))) ∧
          W3.heap[w.heap.size + 1]? = some (.loop { rec .ready none with state := .busy }) ∧
          (W3.putObj (w.heap.size + 1) (.loop (rec (if jump.isNone then .ready else .done) jump))).heap[w.heap.size + 1]? = some (.loop (rec (if jump.isNone then .ready else .done) jump)) ∧
          (W3.putObj (w.heap.size + 1) (.loop (rec (if jump.isNone then .ready else .done) jump))).heap[w.heap.size]? = some (.deferred (some [])) := fun jump W3 hk3 => by
        have hl3 := hk3.same _ _ (by omega) hl2 rfl
        have := run_endRound (P := P) jump hl3
        rw [hrec] at this ⊢
        exact ⟨this, by rw [hrec] at hl3; exact hl3, World.putObj_heap_same (Array.getElem?_eq_some_iff.1 hl3).1, (World.putObj_heap_other (by omega)).trans (hk3.same _ _ (Nat.le_refl _) hk2 rfl)⟩
      have out : ∀ (c : Code) (W3 : World), KeepsFrom w.heap.size (W.putObj (w.heap.size + 1) (.loop { rec .ready none with state := .busy })) W3 → Kp (W.putObj (w.heap.size + 1) (.loop { rec .ready none with state := .busy })) W3 → Ix c (pre ++ [x]) W3 →
          ∃ W4, (Instr.endRound (w.heap.size + 1) (some c)).run P W3 = .ok (.bool false) W4 ∧ (∃ c, Ix c (pre ++ [x]) W4 ∧ W4.heap[w.heap.size + 1]? = some (.loop (rec .done (some c))) ∧ W4.heap[w.heap.size]? = some (.deferred (some []))) ∧ Kp W W4 := fun c W3 hk3 hkp3 hi3 => by
        obtain ⟨hr, hl3, hl4, hk4⟩ := fin (some c) W3 hk3
        exact ⟨_, hr, ⟨c, (hIx _).put _ (by omega) hl3 hi3, hl4, hk4⟩, hKt (hKt hw2 hkp3) (hKb _ _ _ _ (by omega) hl3)⟩
      rintro e a3 W3 hp
      cases e with
      | normal =>
        obtain ⟨hk3, hkp3, hi3⟩ := hp
        obtain ⟨hr, hl3, hl4, hk4⟩ := fin none W3 hk3
        exact ⟨_, _, hr, .inl ⟨rfl, ⟨hI.put _ (by omega) hl3 hi3, hl4, hk4⟩, hKt (hKt hw2 hkp3) (hKb _ _ _ _ (by omega) hl3)⟩⟩
      | ret =>
        obtain ⟨W4, hr, h5, h6⟩ := out _ W3 hp.1 hp.2.1 hp.2.2
        exact ⟨_, _, hr, .inr ⟨rfl, h5, h6⟩⟩
      | exit id =>
        obtain ⟨W4, hr, h5, h6⟩ := out _ W3 hp.1 hp.2.1 hp.2.2
        exact ⟨_, _, hr, .inr ⟨rfl, h5, h6⟩⟩
      | goto t =>
        obtain ⟨W4, hr, h5, h6⟩ := out _ W3 hp.1 hp.2.1 hp.2.2
        exact ⟨_, _, hr, .inr ⟨rfl, h5, h6⟩⟩
      | panic ch => exact hp.elim
      | outgrown => exact hp.elim
    · rintro e W2 ⟨⟨v, rfl⟩, (⟨xs, hS, hi, hl, hk⟩ | ⟨pre, hSp, c, hi, hl, hk⟩)⟩
      · exact ⟨none, _, by have := run_endLoop (P := P) hl (by rw [hrec]; simp); rw [hrec] at this; exact this, hdone _ xs W2 _ (Nat.le_refl _) hS (hI.put _ (by omega) hl hi) ⟨_, _, _, by omega, hl, rfl⟩ ((World.putObj_heap_other (by omega)).trans hk)⟩
      · exact ⟨some c, _, by have := run_endLoop (P := P) hl (by rw [hrec]; simp); rw [hrec] at this; exact this, hstop _ c pre W2 _ (Nat.le_refl _) hSp ((hIx c).put _ (by omega) hl hi) ⟨_, _, _, by omega, hl, rfl⟩ ((World.putObj_heap_other (by omega)).trans hk)⟩
end Go.Proofs.Ytclpkbgjaiacpaa
