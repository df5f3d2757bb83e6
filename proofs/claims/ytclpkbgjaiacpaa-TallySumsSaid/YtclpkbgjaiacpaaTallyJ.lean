/- What is proved: all. Conditions: those that each theorem states. -/
import Derived.Test.YtclpkbgjaiacpaaTallyI
import Derived.Test.YtclpkbgjaiacpaaRangeR
import Derived.Test.YtclpkbgjaiacpaaPRfx2
import Derived.WalkSpells
import Derived.Deep.DeepMust
import Derived.Deep.RegionHeld3
import Derived.StillTactics
import Derived.RangeFuncBox
import Derived.RangeFuncLeaves
import Derived.RangeFuncNested
import Derived.RangeFuncCalls
import Derived.Shelf.Abstract
import Derived.OwnWalkIn
import Derived.TacticsInMore
import Derived.LoopNIn
import Derived.LoopIn
import Derived.Maps.AppendAt
namespace Go.Proofs.Ytclpkbgjaiacpaa
open Go.RowKit Go.Proofs.YtclpkbgjaiacpaaW.PrintWords Go.Proofs.YtclpkbgjaiacpaaW.PrintLast Go.Proofs.YtclpkbgjaiacpaaW.PrintMore
open Go.Proofs.Ytclpkbgjaiacpaa.PRf
set_option linter.unusedVariables false
set_option linter.unusedSimpArgs false
/-! ### all -/
def flatC (l : List (ByteArray × Int)) : List Value := l.flatMap fun x => [.string x.1, .int .u64 x.2]
def toS (l : List (ByteArray × Int)) : List S41 := l.map fun x => ⟨x.1, x.2⟩
theorem flatC_snoc (l : List (ByteArray × Int)) (x : ByteArray × Int) : flatC (l ++ [x]) = flatC l ++ [.string x.1, .int .u64 x.2] := by simp [flatC]
theorem flatC_len (l : List (ByteArray × Int)) : (flatC l).length = l.length * 2 := by
  induction l with
  | nil => rfl
  | cons x l ih => simp [flatC] at ih ⊢; omega
theorem flatC_at : ∀ (l : List (ByteArray × Int)) (j : Nat) (x : ByteArray × Int), l[j]? = some x → (flatC l)[j * 2]? = some (.string x.1) ∧ (flatC l)[j * 2 + 1]? = some (.int .u64 x.2)
  | [], j, x, h => by simp at h
  | y :: l, 0, x, h => by
    obtain rfl : y = x := by simpa using h
    exact ⟨rfl, rfl⟩
  | y :: l, j + 1, x, h => by
    have ih := flatC_at l j x (by simpa using h)
    have e1 : (j + 1) * 2 = j * 2 + 1 + 1 := by omega
    rw [e1]
    exact ⟨ih.1, ih.2⟩
theorem own_C41 {w : World} {base : Nat} {A : Option Addr} {n c : Nat} {l : List (ByteArray × Int)} (h : w.ownsRow base 41 2 (.slice A n c) l.length (flatC l)) (hn : n = l.length) (hl : n ≤ 9223372036854775807) : Kd.C k41 w A n (toS l) := by
  subst hn
  refine ⟨by simp [toS], hl, fun hp => ?_⟩
  obtain ⟨g, cap, cur, e, hbase, hb, h1, h2, h3, h4⟩ := own_pos h hp
  injection e with e1 e2 e3
  subst e1
  refine ⟨_, rfl, fun j p hj => ?_⟩
  unfold toS at hj
  rw [List.getElem?_map] at hj
  obtain ⟨x, hx, rfl⟩ := Option.map_eq_some_iff.1 hj
  obtain ⟨f1, f2⟩ := flatC_at l j x hx
  have hcell := h.cells (g := g) rfl
  refine ⟨[.string x.1, .int .u64 x.2], rfl, k41_mk w ⟨x.1, x.2⟩, fun i u hu => ?_⟩
  match i with
  | 0 =>
    obtain rfl : Value.string x.1 = u := by simpa using hu
    exact hcell _ _ f1
  | 1 =>
    obtain rfl : Value.int .u64 x.2 = u := by simpa using hu
    exact hcell _ _ f2
  | i + 2 => simp at hu
theorem new_two_cells (W : World) (x : ByteArray × Int) : ∀ j u, ([.string x.1, .int .u64 x.2] : List Value)[j]? = some u → (W.alloc (.cells #[.string x.1, .int .u64 x.2] 41)).cell? ((⟨W.heap.size, 0, none⟩ : Addr).add j) = some u := by
  intro j u hu
  rw [Addr.add_lit, Nat.zero_add]
  exact (blk_cell (blk_new W _) j).trans (by simpa using hu)
/-- What the round of all keeps. -/
def KpA (n₀ : Nat) (A A' : World) : Prop := A.heap.size ≤ A'.heap.size ∧ ∀ k o, A.heap[k]? = some o → (n₀ ≤ k → (∀ cs f, o ≠ .cells cs 30 f) ∧ (∀ cs f, o ≠ .cells cs 41 f) ∧ (∀ r, o ≠ .loop r)) → A'.heap[k]? = some o
theorem KpA.trans {n₀ : Nat} {A B C : World} (h : KpA n₀ A B) (k : KpA n₀ B C) : KpA n₀ A C := ⟨Nat.le_trans h.1 k.1, fun i o hi ho => k.2 i o (h.2 i o hi ho) ho⟩
theorem KpA.putLoop {n₀ : Nat} (W : World) (l : Nat) (r : Loop) (o' : Obj) (hl : n₀ ≤ l) (h : W.heap[l]? = some (.loop r)) : KpA n₀ W (W.putObj l o') :=
  ⟨by simp, fun k o hk ho => by
    by_cases e : k = l
    · subst e
      rw [h] at hk
      cases hk
      exact absurd rfl ((ho hl).2.2 r)
    · exact (World.putObj_heap_other e).trans hk⟩
theorem KpA.ok {n₀ : Nat} {g lb : Nat} {N : Option Addr} {cn : Nat} {ns : List ByteArray} {xs : List Int} {B : Nat} (hg : g < n₀) (hl : lb < n₀) (hN : ∀ ad, N = some ad → 0 < ns.length → ad.block < n₀) (base : Nat) : KpOk (KpA n₀) g lb N cn ns xs B base where
  tal A A' hk hT := hT.keep fun k o ho hor => hk.2 k o ho fun hle => by
    rcases hor with rfl | rfl | ⟨es, c, rfl⟩ | ⟨ad, hN', hp, rfl⟩
    · omega
    · omega
    · exact ⟨fun _ _ => nofun, fun _ _ => nofun, fun _ => nofun⟩
    · have := hN ad hN' hp; omega
  box A A' v hk hc := hk.2 B _ hc (fun _ => ⟨fun _ _ e => (by cases e), fun _ _ e => (by cases e), fun _ e => (by cases e)⟩)
  row A A' b v m l hk _ ho := by
    refine ⟨ho.1, ?_⟩
    rcases ho.2 with h2 | ⟨g', cap, cur, rfl, h1, h2, h3⟩
    · exact .inl h2
    · exact .inr ⟨g', cap, cur, rfl, h1, hk.2 _ _ h2 (fun _ => ⟨fun _ _ e => (by cases e), fun _ _ e => (by cases e), fun _ e => (by cases e)⟩), h3⟩
theorem Tal.nlt {w : World} {g lb : Nat} {N : Option Addr} {cn : Nat} {ns : List ByteArray} {xs : List Int} (hT : Tal w g lb N cn ns xs) : ∀ ad, N = some ad → 0 < ns.length → ad.block < w.heap.size := by
  rintro ad rfl hp
  obtain ⟨ad', e, hx⟩ := strAt hT.n 0 hp
  cases e
  exact World.block_lt_of_cell? w ad hx
theorem Tal.glt {w : World} {g lb : Nat} {N : Option Addr} {cn : Nat} {ns : List ByteArray} {xs : List Int} (hT : Tal w g lb N cn ns xs) : g < w.heap.size ∧ lb < w.heap.size := by
  obtain ⟨d, mo, hB, _⟩ := hT.t
  exact ⟨blk_lt hB, blk_lt hT.c⟩
theorem KpA.append {n₀ : Nat} {W w1 : World} {B : Nat} {v v' : Value} {k : Nat} {xs : List Value} {tmp : Obj} {base : Nat} (hv : Boxed W B 30 v) (hrow : W.ownsRow base 41 2 v k xs) (hb : n₀ ≤ base) (hB : n₀ ≤ B) (hgrow : (W.alloc tmp).grownBy w1 v.ownBlock) : KpA n₀ W (w1.setCell ⟨B, 0, none⟩ v') := by
  refine ⟨Nat.le_trans (by simp) (Nat.le_trans hgrow.size (by simp [World.setCell])), fun i o hi ho => ?_⟩
  have hne : i ≠ B := by
    rintro rfl
    rw [show W.heap[i]? = _ from hv] at hi
    cases hi
    exact (ho hB).1 _ _ rfl
  refine (Below.heap_setCell w1 _ _ i hne).trans ?_
  refine (hgrow.block i ?_ ?_).trans ((Below.heap_alloc W tmp i (blk_lt hi)).trans hi)
  · have := blk_lt hi; simp; omega
  · intro e
    rcases hrow.2 with ⟨rfl, _⟩ | ⟨g', cap, cur, rfl, h1, h2, h3⟩
    · simp [Value.ownBlock] at e
    · have e2 : i = g' := by simpa [Value.ownBlock] using e
      subst e2
      rw [h2] at hi
      cases hi
      exact (ho (Nat.le_trans hb h1)).2.1 _ _ rfl
theorem Fr.grownO {S : Nat → Prop} {w w1 w2 : World} (h : Fr S w w1) (hb : Below w.heap.size w1 w2) : Fr S w w2 :=
  h.then_ (S' := fun i => w.heap.size ≤ i) ⟨hb.os, hb.tape, hb.output, hb.size, fun k _ hn => hb.block k (by omega)⟩ (fun i hi => .inr hi)
theorem frOwn {β : Type} {B : Nat} {w : World} {S : Nat → Prop} (hB : w.heap.size ≤ B) : OwnFrom B (fun (_ : β) W => Fr S w W) :=
  fun _ A W row hs hg hr => hs.grown hg (fun i hi => .inr (by have := (hr i hi).1; omega))
theorem allI_fr {w A A' : World} {g : Nat} {most : Int} {l : List (ByteArray × Int)} (hg : g < w.heap.size) (hc : Fr (only g) A A')
    (h : (∃ v, Boxed A (w.heap.size + 1) 30 v ∧ A.ownsRow w.heap.size 41 2 v l.length (flatC l) ∧ True) ∧ (Boxed A w.heap.size 3 (.int .i64 most) ∧ Fr (only g) w A)) :
    (∃ v, Boxed A' (w.heap.size + 1) 30 v ∧ A'.ownsRow w.heap.size 41 2 v l.length (flatC l) ∧ True) ∧ (Boxed A' w.heap.size 3 (.int .i64 most) ∧ Fr (only g) w A') := by
  obtain ⟨⟨v, hv, hr, _⟩, hb, hf⟩ := h
  refine ⟨⟨v, (hc.block _ hv.lt (fun e => ?_)).trans hv, own_fr hr hc (fun b hb2 e => ?_), trivial⟩, (hc.block _ hb.lt (fun e => ?_)).trans hb, hf.then_ hc (fun i hi => .inl hi)⟩
  · have e' : w.heap.size + 1 = g := e
    omega
  · have e' : b = g := e
    have := (hr.lt b hb2).1
    omega
  · have e' : w.heap.size = g := e
    omega
theorem Tal.putObj {w : World} {g lb : Nat} {N : Option Addr} {cn : Nat} {ns : List ByteArray} {xs : List Int} (hT : Tal w g lb N cn ns xs) {l : Nat} {o : Obj} (o' : Obj) (hl : w.heap[l]? = some o) (hc : o.isCells = false) (hm : ∀ es c, o ≠ .map es c) : Tal (w.putObj l o') g lb N cn ns xs := by
  refine hT.keep fun k p hp hor => (World.putObj_heap_other (fun e => ?_)).trans hp
  subst e
  rw [hl] at hp
  cases hp
  rcases hor with rfl | rfl | ⟨es, c, rfl⟩ | ⟨ad, hN, hpos, rfl⟩
  · obtain ⟨d, mo, hB, _⟩ := hT.t
    rw [show w.heap[k]? = _ from hB] at hl
    cases hl
    cases hc
  · rw [hT.c] at hl
    cases hl
    cases hc
  · exact hm _ _ rfl
  · obtain ⟨ad', e, hx⟩ := strAt hT.n 0 hpos
    rw [hN] at e
    cases e
    obtain ⟨o2, h2, h3⟩ := cells_of_cell (show w.cell? ad = _ from hx)
    rw [hl] at h2
    cases h2
    rw [hc] at h3
    cases h3
theorem own_le {w : World} {base : Nat} {e : TypeId} {size n : Nat} {A : Option Addr} {k c : Nat} {xs : List Value} (h : w.ownsRow base e size (.slice A k c) n xs) : n ≤ c := by
  rcases h.2 with ⟨h1, h2⟩ | ⟨g, cap, cur, h1, _, _, h2, _⟩
  · omega
  · injection h1 with _ _ h3
    omega
theorem take_len {α : Type} (l : List α) (k m : Nat) (h : (l.take k).length = m) : l.take k = l.take m := by
  rw [List.length_take] at h
  rcases Nat.le_total k l.length with h1 | h1
  · rw [show k = m by omega]
  · rw [List.take_of_length_le h1, List.take_of_length_le (by omega)]
theorem all_end {w W2 W : World} {g lb : Nat} {N : Option Addr} {cn : Nat} {ns : List ByteArray} {xs : List Int} {most B D : Nat} {v : Value} {l : List (ByteArray × Int)} {o : Obj} (o' : Obj) (hT2 : Tal W2 g lb N cn ns xs) (hbk : BookR B W2 W) (hl : l = (cntL ns xs).take most)
    (hrow : W.ownsRow w.heap.size 41 2 v l.length (flatC l)) (hF : Fr (only g) w W) (hK : W.heap[D]? = some (.deferred (some []))) (hB : w.heap.size ≤ D) :
    ∃ A c, v = .slice A ((toS (cntL ns xs)).take most).length c ∧ Kd.C k41 (W.putObj D o') A ((toS (cntL ns xs)).take most).length ((toS (cntL ns xs)).take most) ∧ ((toS (cntL ns xs)).take most).length ≤ c ∧ Tal (W.putObj D o') g lb N cn ns xs ∧ Fr (only g) w (W.putObj D o') := by
  have ht : (toS (cntL ns xs)).take most = toS l := by rw [hl]; simp [toS]
  have hll : (toS l).length = l.length := by simp [toS]
  rw [ht, hll]
  obtain ⟨A, c, rfl⟩ := own_slice hrow
  have hfew := hT2.few
  have hlen : l.length ≤ 1000 := by rw [hl, List.length_take, cntL_len]; omega
  obtain ⟨lp, r, o2, hlp, hr, rfl⟩ := hbk
  refine ⟨A, c, rfl, own_C41 (ownsRow_putObj hrow o' hK rfl) rfl (by omega), own_le hrow, (hT2.putObj o2 hr rfl (fun _ _ => nofun)).putObj o' hK rfl (fun _ _ => nofun), ?_⟩
  exact hF.then_ (S' := fun i => i = D) ⟨rfl, rfl, rfl, by simp, fun k _ hn => World.putObj_heap_other hn⟩ (fun i hi => .inr (by omega))
section iter
attribute [local go_sem] Oper.semAt_some
open Go.Shelf
set_option maxRecDepth 100000 in
set_option maxHeartbeats 4000000 in
theorem all_in (n : Nat) (hn : 3 ≤ n) (w : World) (g lb : Nat) (N : Option Addr) (cn : Nat) (ns : List ByteArray) (xs : List Int) (hT : Tal w g lb N cn ns xs) (hnd : ns.Nodup) (most : Nat) (hm : 1 ≤ most) (hm2 : most ≤ 1000) :
    CallsIn Fence.wide n Try.prog 15 #[.pointer (some ⟨g, 0, none⟩), .int .i64 (most : Int)] w fun e w' => ∃ A c, e = .returned (.slice A ((toS (cntL ns xs)).take most).length c) ∧ Kd.C k41 w' A ((toS (cntL ns xs)).take most).length ((toS (cntL ns xs)).take most) ∧ ((toS (cntL ns xs)).take most).length ≤ c ∧ Tal w' g lb N cn ns xs ∧ Fr (only g) w w' := by
  have h1 : 1 ≤ n := by omega
  have hro : Fence.wide.round = none := rfl
  have h48 : Fence.wide.fn 48 := trivial
  obtain ⟨i0, hi, hz0, hz1, hz2⟩ := info_parts PRf.info41
  refine callsIn_of_wp_marks Try.func15 rfl trivial ?_ hro
  simp only [Try.ntmps15, List.size_toArray, List.length_cons, List.length_nil, Nat.reduceAdd, Nat.reduceSub, Array.replicate_succ, Array.replicate_zero, List.push_toArray, List.append_toArray, List.nil_append, List.cons_append]
  gi_wp2_with (gi_at_call 48; refine (t_all_in Fence.wide _ h48 hro _ (some ⟨g, 0, none⟩)).mono ?_; rintro e w1 ⟨rfl, rfl⟩)
  have b3 : Boxed (((w.alloc (.cells #[.int .i64 most] 3)).alloc (.cells #[.slice none 0 0] 30)).alloc (.cells #[.pointer (some ⟨g, 0, none⟩)] 26)) w.heap.size 3 (.int .i64 most) := ((Boxed.new w 3 _).alloc _).alloc _
  have b30 : Boxed (((w.alloc (.cells #[.int .i64 most] 3)).alloc (.cells #[.slice none 0 0] 30)).alloc (.cells #[.pointer (some ⟨g, 0, none⟩)] 26)) (w.heap.size + 1) 30 (.slice none 0 0) := by
    have h := (Boxed.new (w.alloc (.cells #[.int .i64 most] 3)) 30 (.slice none 0 0)).alloc (.cells #[.pointer (some ⟨g, 0, none⟩)] 26)
    simpa only [World.size_alloc] using h
  have b26 : Boxed (((w.alloc (.cells #[.int .i64 most] 3)).alloc (.cells #[.slice none 0 0] 30)).alloc (.cells #[.pointer (some ⟨g, 0, none⟩)] 26)) (w.heap.size + 2) 26 (.pointer (some ⟨g, 0, none⟩)) := by
    have h := Boxed.new ((w.alloc (.cells #[.int .i64 most] 3)).alloc (.cells #[.slice none 0 0] 30)) 26 (.pointer (some ⟨g, 0, none⟩))
    simpa only [World.size_alloc] using h
  have hbl : Below w.heap.size w (((w.alloc (.cells #[.int .i64 most] 3)).alloc (.cells #[.slice none 0 0] 30)).alloc (.cells #[.pointer (some ⟨g, 0, none⟩)] 26)) := below_alloc (below_alloc (below_alloc (Below.refl _ _) _) _) _
  have hlt := hT.glt
  obtain ⟨W0, hW0⟩ : ∃ W0, W0 = (((w.alloc (.cells #[.int .i64 most] 3)).alloc (.cells #[.slice none 0 0] 30)).alloc (.cells #[.pointer (some ⟨g, 0, none⟩)] 26)) := ⟨_, rfl⟩
  have hs0 : W0.heap.size = w.heap.size + 3 := by rw [hW0]; simp
  rw [← hW0] at b3 b30 b26 hbl ⊢
  refine wpIn_rangeR hro h1 (gf := 68) (lb := #[.pointer (some ⟨w.heap.size + 2, 0, none⟩)]) rfl trivial (enters_of Try.func68 (by kernel_rfl) rfl) (encs := fun x : ByteArray × Int => #[.string x.1, .int .u64 x.2]) (Cl := FrT g) (Kp := KpA w.heap.size)
    (S := fun ys W => ys = cntL ns xs ∧ Tal W g lb N cn ns xs) (Sp := fun pre W => (∃ k, pre = (cntL ns xs).take k) ∧ Tal W g lb N cn ns xs) (T := CntT ns xs)
    (fun l J Jx W hW hJ hJx hY h0 => all1_in (n - 1) (by omega) l (w.heap.size + 2) g lb N cn ns xs hnd (KpA w.heap.size) W.heap.size (KpA.ok hlt.1 hlt.2 hT.nlt _) J Jx hJ hJx hY W ((hW.block _ b26.lt).trans b26) ((hT.below hbl).below hW) (Nat.le_refl _) h0)
    (fun A B k o hc hk ho _ => (hc.1.block k (blk_lt ho) (fun e => by have e' : k = g := e; omega)).trans ho)
    KpA.trans (fun W l r o' hl h => KpA.putLoop W l r o' (by omega) h) (fun _ => rfl)
    (fun pre W => (∃ v, Boxed W (w.heap.size + 1) 30 v ∧ W.ownsRow w.heap.size 41 2 v pre.length (flatC pre) ∧ True) ∧ (Boxed W w.heap.size 3 (.int .i64 most) ∧ (Fr (only g) w W ∧ pre.length < most)))
    (fun c pre W => c = .exit 0 ∧ ((∃ v, Boxed W (w.heap.size + 1) 30 v ∧ W.ownsRow w.heap.size 41 2 v pre.length (flatC pre) ∧ True) ∧ (Boxed W w.heap.size 3 (.int .i64 most) ∧ (Fr (only g) w W ∧ pre.length = most))))
    ?own ?owx ?cl ?clx ?start
    (fun x => { tmps := #[.pointer (some ⟨g, 0, none⟩), .int .i64 most, undef, .pointer (some ⟨w.heap.size, 0, none⟩), .slice none 0 0, .pointer (some ⟨w.heap.size + 1, 0, none⟩), .string x.1, .int .u64 x.2, .pointer (some ⟨g, 0, none⟩),
      .func (.func 68) #[] #[.pointer (some ⟨w.heap.size + 2, 0, none⟩)], .string x.1, .int .u64 x.2, undef, undef, undef, undef, undef, undef, undef, undef, undef, undef, undef], defers := [] }) ?assign ?body ?done ?stop
  case own => exact LoopOk.of_own (OwnFrom.and (Own.from (holdsRow_own w.heap.size (w.heap.size + 1) 30 41 2 (fun (pre : List (ByteArray × Int)) => pre.length) flatC (fun _ _ => True)) _) (OwnFrom.and (Own.from (boxed_own w.heap.size 3 (fun _ => .int .i64 most)) _) (OwnFrom.and (frOwn (by omega)) (ownFrom_pure _ (fun (pre : List (ByteArray × Int)) => pre.length < most)))))
  case owx => exact fun c => LoopOk.of_own (OwnFrom.and (ownFrom_pure _ (fun (_ : List (ByteArray × Int)) => c = .exit 0)) (OwnFrom.and (Own.from (holdsRow_own w.heap.size (w.heap.size + 1) 30 41 2 (fun (pre : List (ByteArray × Int)) => pre.length) flatC (fun _ _ => True)) _) (OwnFrom.and (Own.from (boxed_own w.heap.size 3 (fun _ => .int .i64 most)) _) (OwnFrom.and (frOwn (by omega)) (ownFrom_pure _ (fun (pre : List (ByteArray × Int)) => pre.length = most))))))
  case cl =>
    rintro s A A' hc ⟨h1, h2, h3, h4⟩
    obtain ⟨k1, k2, k3⟩ := allI_fr hlt.1 hc.1 ⟨h1, h2, h3⟩
    exact ⟨k1, k2, k3, h4⟩
  case clx =>
    rintro c s A A' hc ⟨h0, h1, h2, h3, h4⟩
    obtain ⟨k1, k2, k3⟩ := allI_fr hlt.1 hc.1 ⟨h1, h2, h3⟩
    exact ⟨h0, k1, k2, k3, h4⟩
  case start => exact ⟨⟨_, b30, World.ownsRow_nil _ _ _ _, trivial⟩, b3, Fr.of_below hbl, hm⟩
  case assign =>
    intro l x W K hK
    gi_wp2
    exact hK
  case body =>
    rintro l pre x W ⟨⟨v, hv, hrow, _⟩, hm3, hF, hlen⟩ hltT
    have hltN := hltT.lt
    have hc := hv.cell
    have hc3 := hm3.cell
    have hfew := hT.few
    gi_wp2_with (gi_at_builtin; refine wpListIn_append_own _ rfl _ _ 30 rfl w.heap.size 41 i0 _ 2 24 Try.underlying30 hi hz0 hz1 hz2 rfl (by decide) _ _ _ rfl (hrow.alloc _) ⟨W.heap.size, 0, none⟩ 1 1 [.string x.1, .int .u64 x.2] rfl rfl (new_two_cells W x) (by simp [Value.oneCell']) (by simp only [maxLen]; omega) (by omega) (by have := hF.size; simp; omega) ?_; intro v' w1 hown' hgrow _; obtain ⟨g', cap', rfl⟩ := ownsRow_succ hown'; obtain ⟨hv1, hv2, hr2, hk2, hb2⟩ := hv.appended (by decide) hrow hF.size (by omega) hown' hgrow; have hc1 := hv1.cell; have hf1 := hv1.frozen; have hm31 := (hm3.alloc _).kept hgrow (hm3.not_row (by decide) hrow); have hc31 := hm31.cell)
    all_goals
      have hq : (KeepsFrom W0.heap.size W (w1.setCell ⟨w.heap.size + 1, 0, none⟩ (.slice (some ⟨g', 0, none⟩) (pre.length + 1) cap'))) ∧ KpA w.heap.size W (w1.setCell ⟨w.heap.size + 1, 0, none⟩ (.slice (some ⟨g', 0, none⟩) (pre.length + 1) cap')) ∧ ((∃ v, Boxed (w1.setCell ⟨w.heap.size + 1, 0, none⟩ (.slice (some ⟨g', 0, none⟩) (pre.length + 1) cap')) (w.heap.size + 1) 30 v ∧ World.ownsRow (w1.setCell ⟨w.heap.size + 1, 0, none⟩ (.slice (some ⟨g', 0, none⟩) (pre.length + 1) cap')) w.heap.size 41 2 v (pre ++ [x]).length (flatC (pre ++ [x])) ∧ True) ∧ (Boxed (w1.setCell ⟨w.heap.size + 1, 0, none⟩ (.slice (some ⟨g', 0, none⟩) (pre.length + 1) cap')) w.heap.size 3 (.int .i64 most) ∧ Fr (only g) w (w1.setCell ⟨w.heap.size + 1, 0, none⟩ (.slice (some ⟨g', 0, none⟩) (pre.length + 1) cap')))) :=
        ⟨hk2.from _, KpA.append hv hrow (Nat.le_refl _) (by omega) hgrow, ⟨_, hv2, by rw [flatC_snoc, List.length_append]; exact hr2, trivial⟩, hm31.other (by omega) _, hF.grownO hb2⟩
      obtain ⟨q1, q2, q3, q4, q5⟩ := hq
    · have he : ((pre.length : Int) + 1 == (most : Int)) = true := by assumption
      have he2 : (pre ++ [x]).length = most := by simp at he ⊢; omega
      exact ⟨q1, q2, rfl, q3, q4, q5, he2⟩
    · have he : ((pre.length : Int) + 1 == (most : Int)) = false := by assumption
      have he2 : (pre ++ [x]).length < most := by simp at he ⊢; omega
      exact ⟨q1, q2, q3, q4, q5, he2⟩
  case done =>
    rintro D ys W2 W hD ⟨rfl, hT2⟩ ⟨⟨v, hv, hrow, _⟩, hm3, hF, hlen⟩ hbk hK
    have hc := hv.cell
    gi_wp2
    refine ⟨by simp, .inl ⟨_, _, rfl, run_takeDeferred hK, ?_⟩⟩
    obtain ⟨A, c, rfl, k1, k2, k3, k4⟩ := all_end (o := .deferred none) (.deferred none) hT2 hbk (show cntL ns xs = (cntL ns xs).take most from (List.take_of_length_le (by omega)).symm) hrow hF hK (by omega)
    exact ⟨_, results_tmp rfl _ _ _, A, c, rfl, k1, k2, k3, k4⟩
  case stop =>
    rintro D c pre W2 W hD ⟨⟨k, hk⟩, hT2⟩ ⟨rfl, ⟨v, hv, hrow, _⟩, hm3, hF, hlen⟩ hbk hK
    have hc := hv.cell
    gi_wp2
    refine ⟨by simp, .inl ⟨_, _, rfl, run_takeDeferred hK, ?_⟩⟩
    obtain ⟨A, c, rfl, k1, k2, k3, k4⟩ := all_end (o := .deferred none) (.deferred none) hT2 hbk (show pre = (cntL ns xs).take most from by rw [hk] at hlen ⊢; exact take_len _ _ _ hlen) hrow hF hK (by omega)
    exact ⟨_, results_tmp rfl _ _ _, A, c, rfl, k1, k2, k3, k4⟩
end iter
end Go.Proofs.Ytclpkbgjaiacpaa
