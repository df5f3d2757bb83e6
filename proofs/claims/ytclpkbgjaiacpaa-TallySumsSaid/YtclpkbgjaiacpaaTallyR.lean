/- What is proved: two tallies side by side. Conditions: those that each theorem states. -/
import Derived.Test.YtclpkbgjaiacpaaTallyO
import Derived.Test.YtclpkbgjaiacpaaRangeR
import Derived.Test.YtclpkbgjaiacpaaPRfx2
import Derived.WalkSpells
import Derived.RegionCalls
import Derived.Deep.DeepMust
import Derived.Deep.RegionHeld3
import Derived.StillTactics
import Derived.RangeFuncBox
import Derived.RangeFuncLeaves
import Derived.RangeFuncNested
import Derived.RangeFuncCalls
import Derived.Shelf.Abstract
import Derived.OwnWalkIn
import Derived.TacticsInMore
import Derived.LoopNIn
import Derived.LoopIn
import Derived.Maps.AppendAt
namespace Go.Proofs.Ytclpkbgjaiacpaa
open Go.RowKit Go.Proofs.YtclpkbgjaiacpaaW.PrintWords Go.Proofs.YtclpkbgjaiacpaaW.PrintLast Go.Proofs.YtclpkbgjaiacpaaW.PrintMore
open Go.Proofs.Ytclpkbgjaiacpaa.PRf
set_option linter.unusedVariables false
set_option linter.unusedSimpArgs false
/-! ### two tallies side by side -/
structure TD where
  g : Nat
  l : Nat
  N : Option Addr
  c : Nat
  ns : List ByteArray
  v : Value
def TwoD (w0 w : World) (d : TD) (xs ys : List Int) : Prop := Two w0 w w d.g d.l d.N d.c d.v d.ns xs ys
def TD.mine (d : TD) (i : Nat) : Prop := i = d.g ∨ i = d.l ∨ some i = d.v.ownBlock
structure Dis (a b : TD) : Prop where
  ab : ∀ i, a.mine i → i ≠ b.g ∧ i ≠ b.l ∧ (∀ ad, b.N = some ad → 0 < b.ns.length → ad.block ≠ i) ∧ some i ≠ b.v.ownBlock
  ba : ∀ i, b.mine i → i ≠ a.g ∧ i ≠ a.l ∧ (∀ ad, a.N = some ad → 0 < a.ns.length → ad.block ≠ i) ∧ some i ≠ a.v.ownBlock
theorem Dis.symm {a b : TD} (h : Dis a b) : Dis b a := ⟨h.ba, h.ab⟩
theorem Dis.apart {a b : TD} (h : Dis a b) : Apart a.g a.l a.N a.ns b.g b.l b.N b.ns :=
  ⟨(h.ab _ (.inl rfl)).1, (h.ab _ (.inl rfl)).2.1, (h.ab _ (.inr (.inl rfl))).1, (h.ab _ (.inr (.inl rfl))).2.1,
   fun ad hN hp => ⟨(h.ab _ (.inl rfl)).2.2.1 ad hN hp, (h.ab _ (.inr (.inl rfl))).2.2.1 ad hN hp⟩, fun ad hN hp => ⟨(h.ba _ (.inl rfl)).2.2.1 ad hN hp, (h.ba _ (.inr (.inl rfl))).2.2.1 ad hN hp⟩⟩
theorem mine_cells {w0 wS w : World} {d : TD} {xs ys : List Int} (h : Two w0 wS w d.g d.l d.N d.c d.v d.ns xs ys) {i : Nat} (hi : d.mine i) : ∃ cs t, w.heap[i]? = some (.cells cs t (0, 0)) := by
  rcases hi with rfl | rfl | e
  · obtain ⟨dd, mo, hB, _⟩ := h.t.t
    exact ⟨_, _, hB⟩
  · exact ⟨_, _, h.t.c⟩
  · rcases h.r.2 with ⟨h1, _⟩ | ⟨g', cap, cur, h1, _, h2, _⟩
    · rw [h1] at e
      simp [Value.ownBlock] at e
    · rw [h1] at e
      have e2 : i = g' := by simpa [Value.ownBlock] using e
      subst e2
      exact ⟨_, _, h2⟩
/-- What happens to the one leaves the other. -/
theorem TwoD.other {w0 w w' : World} {a b : TD} {xa ya xb yb : List Int} (ha : TwoD w0 w a xa ya) (hb : TwoD w0 w b xb yb) (hd : Dis a b) (hf : Fr a.mine w w') (hbel : Below w0.heap.size w0 w') : TwoD w0 w' b xb yb := by
  refine ⟨hb.t.keep fun k o ho hor => (hf.block k (blk_lt ho) (fun e => ?_)).trans ho, own_fr hb.r hf (fun k hk e => (hd.ab k e).2.2.2 hk.symm), hbel, hb.g_, hb.l_, hb.nb, Fr.refl _ _⟩
  have h1 := hd.ab k e
  rcases hor with rfl | rfl | ⟨es, c, rfl⟩ | ⟨ad, hN, hpos, rfl⟩
  · exact h1.1 rfl
  · exact h1.2.1 rfl
  · obtain ⟨cs, t, hc⟩ := mine_cells ha e
    rw [hc] at ho
    cases ho
  · exact h1.2.2.1 ad hN hpos rfl
structure Sum2 (w0 w : World) (a b : TD) (xa ya xb yb : List Int) : Prop where
  ta : TwoD w0 w a xa ya
  tb : TwoD w0 w b xb yb
  d : Dis a b
  na : a.ns.Nodup
  nb : b.ns.Nodup
  la : a.ns.length ≤ 64
  lb : b.ns.length ≤ 64
namespace Sum2
variable {w0 w w1 : World} {a b : TD} {xa ya xb yb za wa : List Int}
theorem symm (h : Sum2 w0 w a b xa ya xb yb) : Sum2 w0 w b a xb yb xa ya := ⟨h.tb, h.ta, h.d.symm, h.nb, h.na, h.lb, h.la⟩
theorem below (h : Sum2 w0 w a b xa ya xb yb) (hb : Below w.heap.size w w1) : Sum2 w0 w1 a b xa ya xb yb := ⟨(Two.below h.ta hb).here, (Two.below h.tb hb).here, h.d, h.na, h.nb, h.la, h.lb⟩
theorem alloc (h : Sum2 w0 w a b xa ya xb yb) (o : Obj) : Sum2 w0 (w.alloc o) a b xa ya xb yb := h.below (below_alloc (Below.refl _ _) o)
theorem step (h : Sum2 w0 w a b xa ya xb yb) (k : Two w0 w w1 a.g a.l a.N a.c a.v a.ns za wa) : Sum2 w0 w1 a b za wa xb yb :=
  ⟨k.here, h.ta.other h.tb h.d k.fr k.b, h.d, h.na, h.nb, h.la, h.lb⟩
theorem doA (h : Sum2 w0 w a b xa xa xb yb) (a1 : Int) (s : ByteArray) (y : Int) (h0 : 0 ≤ a1) :
    Calls Try.prog 13 #[.pointer (some ⟨a.g, 0, none⟩), a.v, .agg #[.int .u8 a1, .string s, .int .u64 y]] w fun e w' => e = .returned (.bool true) ∧ ∃ x', Sum2 w0 w' a b x' x' xb yb :=
  (do_any w0 w w a.g a.l a.N a.c a.v a.ns xa h.ta h.na a1 s y h0).mono fun e w' ⟨he, x', k⟩ => ⟨he, x', h.step k⟩
theorem doB (h : Sum2 w0 w a b xa ya xb xb) (a1 : Int) (s : ByteArray) (y : Int) (h0 : 0 ≤ a1) :
    Calls Try.prog 13 #[.pointer (some ⟨b.g, 0, none⟩), b.v, .agg #[.int .u8 a1, .string s, .int .u64 y]] w fun e w' => e = .returned (.bool true) ∧ ∃ x', Sum2 w0 w' a b xa ya x' x' :=
  (h.symm.doA a1 s y h0).mono fun e w' ⟨he, x', k⟩ => ⟨he, x', k.symm⟩
theorem allA (h : Sum2 w0 w a b xa ya xb yb) :
    Calls Try.prog 15 #[.pointer (some ⟨a.g, 0, none⟩), .int .i64 1000] w fun e w' => ∃ A c n, e = .returned (.slice A n c) ∧ Kd.C k41 w' A n (toS (cntL a.ns xa)) ∧ n ≤ c ∧ Sum2 w0 w' a b xa ya xb yb := by
  refine (callsIn_wide.1 (all_in 3 (Nat.le_refl _) w a.g a.l a.N a.c a.ns xa h.ta.t h.na 1000 (by decide) (by decide))).mono ?_
  rintro e w' ⟨A, c, rfl, hC, hc, hT, hf⟩
  have e1 : (toS (cntL a.ns xa)).take 1000 = toS (cntL a.ns xa) := List.take_of_length_le (by rw [toS_len]; have := h.la; omega)
  rw [e1] at hC hc ⊢
  exact ⟨A, c, _, rfl, hC, hc, h.step (Two.call h.ta hT hf.left)⟩
theorem allB (h : Sum2 w0 w a b xa ya xb yb) :
    Calls Try.prog 15 #[.pointer (some ⟨b.g, 0, none⟩), .int .i64 1000] w fun e w' => ∃ A c n, e = .returned (.slice A n c) ∧ Kd.C k41 w' A n (toS (cntL b.ns xb)) ∧ n ≤ c ∧ Sum2 w0 w' a b xa ya xb yb :=
  h.symm.allA.mono fun e w' ⟨A, c, n, he, hC, hc, k⟩ => ⟨A, c, n, he, hC, hc, k.symm⟩
theorem rdA (h : Sum2 w0 w a b xa ya xb yb) {A : Option Addr} {n c : Nat} (hv : a.v = .slice A n c) : Kd.C k41 w A n (toS (cntL a.ns ya)) ∧ n ≤ c := by
  obtain ⟨A', c', e, hc, hC⟩ := RefL.slice h.ta.r (by have := h.la; omega)
  rw [hv] at e
  injection e with e1 e2 e3
  subst e1 e2 e3
  exact ⟨hC, hc⟩
theorem rdB (h : Sum2 w0 w a b xa ya xb yb) {A : Option Addr} {n c : Nat} (hv : b.v = .slice A n c) : Kd.C k41 w A n (toS (cntL b.ns yb)) ∧ n ≤ c := h.symm.rdA hv
theorem sum (h : Sum2 w0 w a b xa ya xb yb) :
    Calls Try.prog 17 #[.pointer (some ⟨a.g, 0, none⟩), .pointer (some ⟨b.g, 0, none⟩)] w fun e w' => e = .returned (.bool (fitsB a.ns b.ns)) ∧ Sum2 w0 w' a b (if fitsB a.ns b.ns then sumL a.ns xa (cntL b.ns xb) else xa) ya xb yb := by
  refine (callsIn_wide.1 (sum_in 3 (Nat.le_refl _) w a.g a.l a.N a.c a.ns xa b.g b.l b.N b.c b.ns xb h.ta.t h.tb.t h.d.apart h.na h.nb)).mono ?_
  rintro e w' ⟨he, hE⟩
  have hbel : Below w0.heap.size w0 w' := ((Fr.of_below (S := nothing) h.ta.b).then_ hE.f (fun i hi => .inr (by
    rcases hi with e | e | e <;> subst e
    · exact h.ta.g_
    · exact h.ta.l_
    · exact h.tb.g_))).to_below (fun _ h => h.elim)
  have hr : ∀ (d : TD) (x y : List Int), TwoD w0 w d x y → RefL w' w0.heap.size d.v d.ns y := fun d x y hd => own_fr hd.r hE.f (fun k hk hi => by
    obtain ⟨da, moa, hBa, _⟩ := h.ta.t.t
    obtain ⟨db, mob, hBb, _⟩ := h.tb.t.t
    rcases hi with e | e | e
    · exact own_ne hd.r (t := 102) hBa (by decide) (hk.trans (congrArg some e))
    · exact own_ne hd.r h.ta.t.c (by decide) (hk.trans (congrArg some e))
    · exact own_ne hd.r (t := 102) hBb (by decide) (hk.trans (congrArg some e)))
  exact ⟨he, ⟨hE.a, hr a _ _ h.ta, hbel, h.ta.g_, h.ta.l_, h.ta.nb, Fr.refl _ _⟩, ⟨hE.b, hr b _ _ h.tb, hbel, h.tb.g_, h.tb.l_, h.tb.nb, Fr.refl _ _⟩, h.d, h.na, h.nb, h.la, h.lb⟩
theorem sumNil (h : Sum2 w0 w a b xa ya xb yb) : Calls Try.prog 17 #[.pointer (some ⟨a.g, 0, none⟩), .pointer none] w fun e w' => e = .returned (.bool true) ∧ Below w.heap.size w w' :=
  callsIn_wide.1 (s_sum_nil _ Fence.wide 3 trivial trivial trivial trivial rfl (Nat.le_refl _) w)
/-- Find in the list of the one. -/
theorem find (h : Sum2 w0 w a b xa ya xb yb) (s : ByteArray) : Calls Try.prog 16 #[a.v, .string s] w fun e w' => e = .returned (.int .i64 (fpos a.ns s)) ∧ Sum2 w0 w' a b xa ya xb yb ∧ Below w.heap.size w w' :=
  (t_find w w0.heap.size a.v a.ns ya s h.ta.r h.na (by have := h.la; omega)).mono fun e w' ⟨he, hb⟩ => ⟨he, h.below hb, hb⟩
theorem atB (h : Sum2 w0 w a b xa ya xb yb) {A : Option Addr} {n c : Nat} (hv : b.v = .slice A n c) (i : Nat) (hi : i < b.ns.length) : ∃ bl, A = some ⟨bl, 0, none⟩ ∧ n = b.ns.length ∧ w.cell? ⟨bl, i * 2, none⟩ = some (.string (rdOf ByteArray.empty b.ns (i : Int))) ∧ w.cell? ⟨bl, i * 2 + 1, none⟩ = some (.int .u64 (rd yb (i : Int))) := by
  obtain ⟨bl, c', e, h1, h2, _⟩ := h.tb.r.at_ i hi
  rw [hv] at e
  injection e with e1 e2 e3
  exact ⟨bl, e1, e2, h1, h2⟩
theorem atA (h : Sum2 w0 w a b xa ya xb yb) {A : Option Addr} {n c : Nat} (hv : a.v = .slice A n c) (i : Nat) (hi : i < a.ns.length) : ∃ bl, A = some ⟨bl, 0, none⟩ ∧ n = a.ns.length ∧ w.cell? ⟨bl, i * 2 + 1, none⟩ = some (.int .u64 (rd ya (i : Int))) ∧ w.frozen? ⟨bl, i * 2 + 1, none⟩ = false := by
  obtain ⟨bl, c', e, _, h2, h3, _⟩ := h.ta.r.at_ i hi
  rw [hv] at e
  injection e with e1 e2 e3
  exact ⟨bl, e1, e2, h2, h3⟩
theorem storeA (h : Sum2 w0 w a b xa ya xb yb) {bl n c : Nat} (hv : a.v = .slice (some ⟨bl, 0, none⟩) n c) (hn : n = a.ns.length) (hy : ya.length = a.ns.length) (i : Nat) (hi : i < a.ns.length) (x : Int) : Sum2 w0 (w.setCell ⟨bl, i * 2 + 1, none⟩ (.int .u64 x)) a b xa (ya.set i x) xb yb := by
  have h1 : Two w0 w w a.g a.l a.N a.c (.slice (some ⟨bl, 0, none⟩) n c) a.ns xa ya := hv ▸ h.ta
  have h2 := h1.store hn hy i hi x
  exact h.step (by rw [hv]; exact h2)
end Sum2
theorem dis_of {w0 w : World} {a b : TD} {xa ya : List Int} (ha : TwoD w0 w a xa ya) (hg : w.heap.size ≤ b.g) (hl : w.heap.size ≤ b.l) (hN : ∀ ad, b.N = some ad → w.heap.size ≤ ad.block) (hv : ∀ k, b.v.ownBlock = some k → w.heap.size ≤ k) : Dis a b := by
  have h1 := ha.t.glt
  have h2 := ha.t.nlt
  have h3 : ∀ i, a.mine i → i < w.heap.size := by
    rintro i (rfl | rfl | e)
    · exact h1.1
    · exact h1.2
    · exact (ha.r.lt i e.symm).2
  have h4 : ∀ i, b.mine i → w.heap.size ≤ i := by
    rintro i (rfl | rfl | e)
    · exact hg
    · exact hl
    · exact hv i e.symm
  refine ⟨fun i hi => ?_, fun i hi => ?_⟩
  · have := h3 i hi
    exact ⟨by omega, by omega, fun ad hA _ e => by have := hN ad hA; omega, fun e => by have := hv i e.symm; omega⟩
  · have := h4 i hi
    exact ⟨by omega, by omega, fun ad hA hp e => by have := h2 ad hA hp; omega, fun e => by have := (ha.r.lt i e.symm).2; omega⟩
def fitsK (nsa nsb : List ByteArray) (k : Nat) : Bool := (nsb.take k).all fun s => (findN nsa s).isSome
theorem fitsK_succ (nsa nsb : List ByteArray) (k : Nat) (hk : k < nsb.length) : fitsK nsa nsb (k + 1) = (fitsK nsa nsb k && (findN nsa (rdOf ByteArray.empty nsb (k : Int))).isSome) := by
  unfold fitsK
  rw [List.take_succ_eq_append_getElem hk, List.all_append]
  simp [rdOf, hk]
theorem fitsK_all (nsa nsb : List ByteArray) : fitsK nsa nsb nsb.length = fitsB nsa nsb := by
  unfold fitsK fitsB
  rw [List.take_length]
theorem fits_some {nsa nsb : List ByteArray} (h : fitsB nsa nsb = true) (k : Nat) (hk : k < nsb.length) : ∃ i, findN nsa (rdOf ByteArray.empty nsb (k : Int)) = some i := by
  have h1 := List.all_eq_true.1 h (nsb[k]) (List.getElem_mem hk)
  have e : rdOf ByteArray.empty nsb (k : Int) = nsb[k] := by simp [rdOf, hk]
  rw [e]
  exact Option.isSome_iff_exists.1 h1
theorem addN_len (ns : List ByteArray) (xs : List Int) (s : ByteArray) (y : Int) : (addN ns xs s y).length = xs.length := by
  unfold addN
  split <;> simp
theorem sumL_len (ns : List ByteArray) : ∀ (l : List (ByteArray × Int)) (xs : List Int), (sumL ns xs l).length = xs.length
  | [], _ => rfl
  | x :: l, xs => by
    have h := sumL_len ns l (addN ns xs x.1 x.2)
    rw [addN_len] at h
    exact h
theorem sumL_step {ns nsb : List ByteArray} {xa xb : List Int} {k i : Nat} (hk : k < nsb.length) (hf : findN ns (rdOf ByteArray.empty nsb (k : Int)) = some i) :
    sumL ns xa ((cntL nsb xb).take (k + 1)) = (sumL ns xa ((cntL nsb xb).take k)).set i (IntKind.u64.wrap (rd (sumL ns xa ((cntL nsb xb).take k)) (i : Int) + rd xb (k : Int))) := by
  rw [cntL_take nsb xb k hk, sumL_snoc]
  unfold addN
  rw [hf]
end Go.Proofs.Ytclpkbgjaiacpaa
