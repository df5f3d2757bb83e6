/- What is proved: a nil tally's iterators and Sum; awake; the law TallyNil, walked. Conditions: those that each theorem states. -/
import Derived.Test.YtclpkbgjaiacpaaTallyG
import Derived.WalkSpells
import Derived.Deep.DeepMust
import Derived.Deep.RegionHeld3
import Derived.StillTactics
import Derived.RangeFuncBox
import Derived.RangeFuncLeaves
import Derived.RangeFuncNested
import Derived.Shelf.Abstract
import Derived.OwnWalkIn
import Derived.TacticsInMore
import Derived.LoopNIn
import Derived.LoopIn
import Derived.Maps.AppendAt
namespace Go.Proofs.Ytclpkbgjaiacpaa
open Go.RowKit Go.Proofs.YtclpkbgjaiacpaaW.PrintWords Go.Proofs.YtclpkbgjaiacpaaW.PrintLast Go.Proofs.YtclpkbgjaiacpaaW.PrintMore
open Go.Proofs.Ytclpkbgjaiacpaa.PNegoAgrees
set_option linter.unusedVariables false
set_option linter.unusedSimpArgs false
section iter
attribute [local go_sem] Oper.semAt_some
open Go.Shelf
theorem n_names_in (F : Fence) (n : Nat) (h : F.fn 24) (hro : F.round = none) (w : World) : CallsIn F n Try.prog 24 #[.pointer none] w fun e w' => e = .returned (.slice none 0 0) ∧ w = w' := by
  refine callsIn_of_wp Try.func24 rfl h ?_ hro
  simp only [Try.ntmps24, List.size_toArray, List.length_cons, List.length_nil, Nat.reduceAdd, Nat.reduceSub, Array.replicate_succ, Array.replicate_zero, List.push_toArray, List.append_toArray, List.nil_append, List.cons_append]
  gi_wp2
  go_ret
  exact ⟨rfl, rfl⟩
end iter
section iter
attribute [local go_sem] Oper.semAt_some
open Go.Shelf
theorem n_all1_in (F : Fence) (n : Nat) (h : F.fn 68) (h24 : F.fn 24) (hro : F.round = none) (hn : 1 ≤ n) (l : Nat) (w : World) (B : Nat) (hB : w.cell? ⟨B, 0, none⟩ = some (.pointer none)) :
    CallsIn F n Try.prog 68 #[.func (.yield l) #[] #[], .pointer (some ⟨B, 0, none⟩)] w fun e w' => (∃ v, e = .returned v) ∧ w = w' := by
  refine callsIn_of_wp Try.func68 rfl h ?_ hro
  simp only [Try.ntmps68, List.size_toArray, List.length_cons, List.length_nil, Nat.reduceAdd, Nat.reduceSub, Array.replicate_succ, Array.replicate_zero, List.push_toArray, List.append_toArray, List.nil_append, List.cons_append]
  gi_wp2_with (gi_at_call 24; refine (n_names_in F _ h24 hro _).mono ?_; rintro e w1 ⟨rfl, rfl⟩)
  gi_loopw [8] (fun i wr => i = .int .i64 0 ∧ wr = w) (fun i _ => 0)
  case atStart => exact ⟨rfl, rfl⟩
  case round =>
    obtain ⟨rfl, rfl⟩ := hrel
    gi_wp2
    go_end0
    exact ⟨⟨_, rfl⟩, rfl⟩
end iter
section iter
attribute [local go_sem] Oper.semAt_some
open Go.Shelf
theorem t_all_in (F : Fence) (n : Nat) (h : F.fn 48) (hro : F.round = none) (w : World) (p : Option Addr) : CallsIn F n Try.prog 48 #[.pointer p] w fun e w' => e = .returned (.func (.func 68) #[] #[.pointer (some ⟨w.heap.size, 0, none⟩)]) ∧ w' = w.alloc (.cells #[.pointer p] 26) := by
  have hmf : ∀ (fn : Fn) (first cap : Array Value) (w : World), (Instr.makeFunc fn first cap).run Try.prog w = .ok (.func fn first cap) w := fun _ _ _ _ => rfl
  refine callsIn_of_wp Try.func48 rfl h ?_ hro
  simp only [Try.ntmps48, List.size_toArray, List.length_cons, List.length_nil, Nat.reduceAdd, Nat.reduceSub, Array.replicate_succ, Array.replicate_zero, List.push_toArray, List.append_toArray, List.nil_append, List.cons_append]
  gi_wp2
  go_ret
  exact ⟨rfl, rfl⟩
set_option maxRecDepth 100000 in
set_option maxHeartbeats 2000000 in
theorem n_all_in (F : Fence) (n : Nat) (h15 : F.fn 15) (h48 : F.fn 48) (h68 : F.fn 68) (h24 : F.fn 24) (hro : F.round = none) (hn : 3 ≤ n) (w : World) (most : Int) :
    CallsIn F n Try.prog 15 #[.pointer none, .int .i64 most] w fun e w' => e = .returned (.slice none 0 0) ∧ Below w.heap.size w w' := by
  have h1 : 1 ≤ n := by omega
  refine callsIn_of_wp_marks Try.func15 rfl h15 ?_ hro
  simp only [Try.ntmps15, List.size_toArray, List.length_cons, List.length_nil, Nat.reduceAdd, Nat.reduceSub, Array.replicate_succ, Array.replicate_zero, List.push_toArray, List.append_toArray, List.nil_append, List.cons_append]
  gi_wp2_with (gi_at_call 48; refine (t_all_in F _ h48 hro _ none).mono ?_; rintro e w1 ⟨rfl, rfl⟩)
  refine wpIn_rangeFunc_ownG hro h1 (gf := 68) (lb := #[.pointer (some ⟨w.heap.size + 2, 0, none⟩)]) rfl h68 (enters_of Try.func68 (by kernel_rfl) rfl)
    (show SeqStopsK F (n - 1) Try.prog 68 #[.pointer (some ⟨w.heap.size + 2, 0, none⟩)] (fun x : ByteArray × Int => #[Value.string x.1, .int .u64 x.2]) (Below w.heap.size) (fun ys => ys = []) (fun _ => True) 0 _ from fun l J Jx W hW _ _ hY h0 => (n_all1_in F _ h68 h24 hro (by omega) l W _ (hW.cell (p := ⟨w.heap.size + 2, 0, none⟩) (by simp) |>.trans (show World.cell? (World.alloc ((w.alloc (.cells #[.int .i64 most] 3)).alloc (.cells #[.slice none 0 0] 30)) (.cells #[.pointer none] 26)) ⟨w.heap.size + 2, 0, none⟩ = _ from by have h := (Boxed.new ((w.alloc (.cells #[.int .i64 most] 3)).alloc (.cells #[.slice none 0 0] 30)) 26 (.pointer none)).cell; simp only [World.size_alloc] at h; exact h))).mono fun e W' ⟨hv, hw⟩ => ⟨hv, .inl ⟨[], rfl, hw ▸ h0⟩⟩)
    belowK_t (belowK_b (by simp; omega)) (Below.refl _ _) (fun _ => rfl) (fun _ W => Boxed W (w.heap.size + 1) 30 (.slice none 0 0) ∧ Below w.heap.size w W) (fun _ _ _ => False)
    (OwnFrom.and (Own.from (boxed_own (w.heap.size + 1) 30 (fun _ => .slice none 0 0)) _) (ownFrom_below (Nat.le_refl _) (by simp; omega))) (fun _ _ _ _ _ hs _ _ => hs) ?start
    (fun x => { tmps := #[Value.pointer none, Value.int IntKind.i64 most, undef,
          Value.pointer (some { block := w.heap.size, off := 0 }), Value.slice none 0 0,
          Value.pointer (some { block := w.heap.size + 1, off := 0 }), Value.string x.fst, Value.int IntKind.u64 x.snd,
          Value.pointer none,
          Value.func (Fn.func 68) #[] #[Value.pointer (some { block := w.heap.size + 1 + 1, off := 0 })],
          Value.string x.fst, Value.int IntKind.u64 x.snd, undef, undef, undef, undef, undef, undef, undef, undef,
          undef, undef, undef], defers := [] }) ?assign ?body ?done ?stop
  case start =>
    have b0 := Boxed.new (w.alloc (.cells #[.int .i64 most] 3)) 30 (.slice none 0 0)
    simp only [World.size_alloc] at b0
    exact ⟨b0.alloc _, (((Below.refl _ w).alloc (Nat.le_refl _) _).alloc (by simp) _).alloc (by simp; omega) _⟩
  case done =>
    rintro D ys W hD rfl ⟨hv, hB⟩ hK
    have hc := hv.cell
    gi_wp2
    refine ⟨by simp, .inl ⟨_, _, rfl, run_takeDeferred hK, ?_⟩⟩
    exact ⟨_, results_tmp rfl _ _ _, rfl, hB.trans (belowK_b (w := w) (Nat.le_refl _) W D _ _ (by simp at hD; omega) hK rfl rfl)⟩
  case body =>
    intro l pre x W _ h
    exact absurd h (Nat.not_lt_zero _)
  case stop =>
    rintro D c pre W _ _ h _
    exact h.elim
  case assign =>
    intro l x W K hK
    gi_wp2
    exact hK
end iter
/-! ### Sum at a nil tally -/
theorem n_sum_x (w : World) (g lb : Nat) (N : Option Addr) (cn : Nat) (ns : List ByteArray) (xs : List Int) (hT : Tal w g lb N cn ns xs) (h1 : 0 < ns.length) :
    Calls Try.prog 17 #[.pointer none, .pointer (some ⟨g, 0, none⟩)] w fun e w' => e = .returned (.bool false) ∧ Below w.heap.size w w' := by
  obtain ⟨d, mo, hB, _⟩ := hT.t
  have hc0 : w.cell? ⟨g, 0, none⟩ = some (.slice N ns.length cn) := blk_cell hB 0
  have HN := Aside0.mk (t_names (w.alloc (.cells #[.pointer none] 26)) g lb N cn ns xs ⟨⟨d, mo, blk_alloc hB _, by
    rcases hT.t with ⟨d', mo', hB', hor⟩
    have e := hB.symm.trans hB'
    simp at e
    obtain ⟨rfl, rfl⟩ := e
    rcases hor with h | ⟨h1, bm, h2, hM⟩
    · exact .inl h
    · exact .inr ⟨h1, bm, h2, World.ownsMap.alloc hM _⟩⟩, Kd.C_alloc hT.n _, blk_alloc hT.c _, hT.len, hT.few, hT.size⟩)
  have hp : (0 : Int) < (ns.length : Int) := by omega
  have HP := Aside0.mk h1
  have hb0 : (w.alloc (.cells #[.pointer none] 26)).cell? ⟨w.heap.size, 0, none⟩ = some (.pointer none) := (blk_cell (blk_new w _) 0).trans rfl
  have HB := Aside0.mk hb0
  clear hT hB h1 hc0 hb0
  go_enter Try.func17, Try.ntmps17
  go_wp2_with (go_at_call 24; go_must (refine HN.out.mono ?_; rintro e w1 ⟨A, c, rfl, hC, hb⟩; have hbc := (hb.cell (p := ⟨w.heap.size, 0, none⟩) (by simp)).trans HB.out; have HX := Aside0.mk (And.intro hC hb); clear hC hb))
  obtain ⟨ad, e, hx⟩ := strAt HX.out.1 0 HP.out
  subst e
  have hx0 : w1.cell? ad = some (.string (rdOf ByteArray.empty ns ((0 : Nat) : Int))) := hx
  clear hx
  refine wp_loop_rounds 1 ?_
  rw [rounds_succ]
  go_wp2_with (go_at_call 49; go_must (refine (t_counter_nil _ _).mono ?_; rintro e w2 ⟨rfl, rfl⟩))
  go_ret
  exact ⟨rfl, (below_alloc (Below.refl _ _) _).trans (HX.out.2.mono (by simp))⟩
section iter
attribute [local go_sem] Oper.semAt_some
open Go.Shelf
set_option maxRecDepth 100000 in
set_option maxHeartbeats 2000000 in
theorem n_sum_in (F : Fence) (n : Nat) (h17 : F.fn 17) (h48 : F.fn 48) (h68 : F.fn 68) (h24 : F.fn 24) (hro : F.round = none) (hn : 3 ≤ n) (w : World) :
    CallsIn F n Try.prog 17 #[.pointer none, .pointer none] w fun e w' => e = .returned (.bool false) ∧ Below w.heap.size w w' := by
  have h1 : 1 ≤ n := by omega
  refine callsIn_of_wp_marks Try.func17 rfl h17 ?_ hro
  simp only [Try.ntmps17, List.size_toArray, List.length_cons, List.length_nil, Nat.reduceAdd, Nat.reduceSub, Array.replicate_succ, Array.replicate_zero, List.push_toArray, List.append_toArray, List.nil_append, List.cons_append]
  gi_wp2_with (gi_at_call 24; refine (n_names_in F _ h24 hro _).mono ?_; rintro e w1 ⟨rfl, rfl⟩)
  gi_loopw [12] (fun i wr => i = .int .i64 0 ∧ wr = w.alloc (.cells #[.pointer none] 26)) (fun i _ => 0)
  case atStart => exact ⟨rfl, rfl⟩
  case round =>
    obtain ⟨rfl, rfl⟩ := hrel
    gi_wp2_with (gi_at_call 48; refine (t_all_in F _ h48 hro _ none).mono ?_; rintro e w1 ⟨rfl, rfl⟩)
    have bB : Boxed ((w.alloc (.cells #[.pointer none] 26)).alloc (.cells #[.pointer none] 26)) (w.heap.size + 1) 26 (.pointer none) := by
      have h := Boxed.new (w.alloc (.cells #[.pointer none] 26)) 26 (.pointer none)
      simpa only [World.size_alloc] using h
    have bA : Boxed ((w.alloc (.cells #[.pointer none] 26)).alloc (.cells #[.pointer none] 26)) w.heap.size 26 (.pointer none) := (Boxed.new w 26 (.pointer none)).alloc _
    refine wpIn_rangeFunc_ownG hro h1 (gf := 68) (lb := #[.pointer (some ⟨w.heap.size + 1, 0, none⟩)]) rfl h68 (enters_of Try.func68 (by kernel_rfl) rfl)
      (show SeqStopsK F (n - 1) Try.prog 68 #[.pointer (some ⟨w.heap.size + 1, 0, none⟩)] (fun x : ByteArray × Int => #[Value.string x.1, .int .u64 x.2]) (Below w.heap.size) (fun ys => ys = []) (fun _ => True) 0 _ from fun l J Jx W hW _ _ hY h0 => (n_all1_in F _ h68 h24 hro (by omega) l W _ ((hW.cell (p := ⟨w.heap.size + 1, 0, none⟩) (by simp)).trans bB.cell)).mono fun e W' ⟨hv, hw⟩ => ⟨hv, .inl ⟨[], rfl, hw ▸ h0⟩⟩)
      belowK_t (belowK_b (by simp; omega)) (Below.refl _ _) (fun _ => rfl) (fun _ W => Boxed W w.heap.size 26 (.pointer none) ∧ Below w.heap.size w W) (fun _ _ _ => False)
      (OwnFrom.and (Own.from (boxed_own w.heap.size 26 (fun _ => .pointer none)) _) (ownFrom_below (Nat.le_refl _) (by simp; omega))) (fun _ _ _ _ _ hs _ _ => hs) ?start
      (fun x => { tmps := #[.pointer none, .pointer none, .pointer (some ⟨w.heap.size, 0, none⟩), undef, u4, undef, u6, .string x.1, .int .u64 x.2, .pointer none, .slice none 0 0, .int .i64 0, .int .i64 0, .bool false, u14, u15, u16, u17, u18, u19, u20, .pointer none,
        .func (.func 68) #[] #[.pointer (some ⟨w.heap.size + 1, 0, none⟩)], .string x.1, .int .u64 x.2, undef, undef, undef, undef, undef, undef], defers := [] }) ?assign ?body ?done ?stop
    case start => exact ⟨bA, ((Below.refl _ w).alloc (Nat.le_refl _) _).alloc (by simp) _⟩
    case done =>
      rintro D ys W hD rfl ⟨hv, hB⟩ hK
      have hc := hv.cell
      gi_wp2
      refine ⟨by simp, .inl ⟨_, _, rfl, run_takeDeferred hK, ?_⟩⟩
      exact ⟨_, results_tmp rfl _ _ _, rfl, hB.trans (belowK_b (w := w) (Nat.le_refl _) W D _ _ (by simp at hD; omega) hK rfl rfl)⟩
    case body =>
      intro l pre x W _ h
      exact absurd h (Nat.not_lt_zero _)
    case stop =>
      rintro D c pre W _ _ h _
      exact h.elim
    case assign =>
      intro l x W K hK
      gi_wp2
      exact hK
end iter
/-! ### awake -/
theorem litS (w : World) (l : List ByteArray) (hl : l.length ≤ 1000) : Kd.C Kd.string (w.alloc (.cells (l.map Value.string).toArray 9)) (some ⟨w.heap.size, 0, none⟩) l.length l := by
  have h2 := World.ownsRow_lit (base := w.heap.size) (e := 9) (size := 1) w (l.map Value.string).toArray l.length (Nat.le_refl _) (by simp only [maxLen]; omega) (by simp)
  exact own_kd (by simpa using h2) rfl
theorem rd_same {xs : List Int} {i : Nat} (h : i < xs.length) (v : Int) : rd (xs.set i v) (i : Int) = v := by simp [rd, h]
theorem rd_other {xs : List Int} {i j : Nat} (h : i ≠ j) (v : Int) : rd (xs.set i v) (j : Int) = rd xs (j : Int) := by
  simp only [rd, Int.toNat_natCast, List.getD_eq_getElem?_getD]
  rw [List.getElem?_set_ne h]
theorem rd_zeros (n i : Nat) : rd (List.replicate n (0 : Int)) (i : Int) = 0 := by
  simp only [rd, Int.toNat_natCast, List.getD_eq_getElem?_getD, List.getElem?_replicate]
  split <;> rfl
theorem t_get_v (w : World) (g lb : Nat) (N : Option Addr) (cn : Nat) (ns : List ByteArray) (xs : List Int) (s : ByteArray) (hT : Tal w g lb N cn ns xs) (hs : s.size ≤ 1000) (i : Nat) (hi : At ns s i) (v : Int) (hv : rd xs (i : Int) = v) : Calls Try.prog 23 #[.pointer (some ⟨g, 0, none⟩), .string s] w fun e w' => e = .returned (.int .u64 v) ∧ Tal w' g lb N cn ns xs ∧ Fr (fun i => i = g ∨ i = lb) w w' := by
  subst hv
  exact t_get w g lb N cn ns xs s hT hs i hi
def sA : ByteArray := ⟨#[97]⟩
def sB : ByteArray := ⟨#[98]⟩
theorem two_nodup : ([sB, sA] : List ByteArray).Nodup := by decide
theorem two_ok : ∀ s ∈ ([sB, sA] : List ByteArray), 1 ≤ s.size ∧ s.size ≤ 40 := by decide
theorem new_two (w : World) : Calls Try.prog 11 #[.slice (some ⟨w.heap.size, 0, none⟩) 2 2] (w.alloc (.cells #[.string ⟨#[98]⟩, .string ⟨#[97]⟩] 9)) (NewOk (w.alloc (.cells #[.string ⟨#[98]⟩, .string ⟨#[97]⟩] 9)) [sB, sA]) :=
  (new_body _ _ 2 2 [sB, sA] (litS w [sB, sA] (by decide)) (by omega) two_ok).1 ((compact_nodup _).2 two_nodup)
theorem new_one (w : World) : Calls Try.prog 11 #[.slice (some ⟨w.heap.size, 0, none⟩) 1 1] (w.alloc (.cells #[.string ⟨#[97]⟩] 9)) (NewOk (w.alloc (.cells #[.string ⟨#[97]⟩] 9)) [sA]) :=
  (new_body _ _ 1 1 [sA] (litS w [sA] (by decide)) (by omega) (by decide)).1 ((compact_nodup _).2 (by decide))
theorem Tal.below {w w' : World} {g lb : Nat} {N : Option Addr} {cn : Nat} {ns : List ByteArray} {xs : List Int} (hT : Tal w g lb N cn ns xs) (hb : Below w.heap.size w w') : Tal w' g lb N cn ns xs := by
  obtain ⟨d, mo, hB, hor⟩ := hT.t
  refine ⟨⟨d, mo, blk_below hB hb, ?_⟩, Kd.C_below hT.n hb, blk_below hT.c hb, hT.len, hT.few, hT.size⟩
  rcases hor with h | ⟨h1, bm, h2, es, clock, hm, h3⟩
  · exact .inl h
  · exact .inr ⟨h1, bm, h2, es, clock, (hb.block bm (blk_lt hm)).trans hm, h3⟩
/-- A tally, and that nothing from before was turned. -/
structure TalI (w0 w : World) (g lb : Nat) (N : Option Addr) (cn : Nat) (ns : List ByteArray) (xs : List Int) : Prop where
  t : Tal w g lb N cn ns xs
  b : Below w0.heap.size w0 w
  g_ : w0.heap.size ≤ g
  l_ : w0.heap.size ≤ lb
theorem TalI.fr {w0 w w1 : World} {g lb : Nat} {N : Option Addr} {cn : Nat} {ns : List ByteArray} {xs ys : List Int} (h : TalI w0 w g lb N cn ns xs) (k : Tal w1 g lb N cn ns ys) (hf : Fr (fun i => i = g ∨ i = lb) w w1) : TalI w0 w1 g lb N cn ns ys :=
  ⟨k, ((Fr.of_below (S := nothing) h.b).then_ hf (fun i hi => .inr (by rcases hi with e | e <;> subst e <;> first | exact h.g_ | exact h.l_))).to_below (fun _ h => h.elim), h.g_, h.l_⟩
theorem NewOk.talI {w0 w w' : World} {ns : List ByteArray} {e : Ending} (h : NewOk w ns e w') (hb : Below w0.heap.size w0 w) : ∃ g lb N cn, e = .returned (.tuple #[.pointer (some ⟨g, 0, none⟩), .int .i64 0]) ∧ TalI w0 w' g lb N cn (sortN ns) (List.replicate ns.length 0) := by
  obtain ⟨g, lb, N, cn, he, hT, hg, hl, _, hb2⟩ := h
  exact ⟨g, lb, N, cn, he, hT, hb.trans (hb2.mono hb.size), Nat.le_trans hb.size hg, Nat.le_trans hb.size hl⟩
set_option maxRecDepth 100000 in
set_option maxHeartbeats 1000000 in
theorem t_awake (w : World) : Calls Try.prog 9 #[] w fun e w' => e = .returned (.bool true) ∧ Below w.heap.size w w' := by
  have HN := Aside0.mk (new_two w)
  obtain ⟨ia, ha⟩ := at_of_mem (sortN_nodup two_nodup) (sortN_has (ns := [sB, sA]) (s := sA) (by simp))
  obtain ⟨ib, hb⟩ := at_of_mem (sortN_nodup two_nodup) (sortN_has (ns := [sB, sA]) (s := sB) (by simp))
  have hla : ia < 2 := by have := ha.1; rw [sortN_len] at this; exact this
  have hne : ia ≠ ib := fun e => by
    subst e
    have h1 := ha.2.1.symm.trans hb.2.1
    exact absurd h1 (by decide)
  have HA := Aside0.mk ha
  have HB := Aside0.mk hb
  have HE := Aside0.mk (And.intro hla hne)
  have e1 : IntKind.u64.wrap (rd (List.replicate 2 (0 : Int)) (ia : Int) + 2) = 2 := by rw [rd_zeros]; decide
  have E1 := Aside0.mk e1
  clear ha hb hla hne e1
  go_enter Try.func9, Try.ntmps9
  go_wp2_with (first | (go_at_call 11; go_must (refine HN.out.mono ?_; intro e w1 hn; obtain ⟨g, lb, N, cn, rfl, hI⟩ := hn.talI (below_alloc (Below.refl w.heap.size w) _); have HI := Aside0.mk hI; clear hn hI)) | (go_at_call 20; go_must (refine (t_add w1 g lb N cn _ _ sA HI.out.t (by decide) 2 ia HA.out).mono ?_; rintro e w2 ⟨rfl, hT, hf⟩; have HI2 := Aside0.mk (HI.out.fr hT hf); clear hT hf)) | (go_at_call 21; go_must (refine (t_most w2 g lb N cn _ _ sA HI2.out.t (by decide) 1 ia HA.out).mono ?_; rintro e w3 ⟨rfl, hT, hf⟩; have HI3 := Aside0.mk (HI2.out.fr hT hf); clear hT hf)) | (go_at_call 23; have tk := HI3; go_must (clear tk; refine (t_get_v w3 g lb N cn _ _ sA HI3.out.t (by decide) ia HA.out 2 ?_).mono ?_; (· rw [rd_same (by simp; exact HE.out.1), rd_same (by simp; exact HE.out.1)]; show max (IntKind.u64.wrap (rd (List.replicate 2 (0 : Int)) (ia : Int) + 2)) 1 = 2; rw [E1.out]; decide); rintro e w4 ⟨rfl, hT, hf⟩; have HI4 := Aside0.mk (HI3.out.fr hT hf); clear hT hf HI3)) | (go_at_call 23; have tk := HI4; go_must (clear tk; refine (t_get_v w4 g lb N cn _ _ sB HI4.out.t (by decide) ib HB.out 0 ?_).mono ?_; (· rw [rd_other HE.out.2, rd_other HE.out.2]; exact rd_zeros 2 ib); rintro e w5 ⟨rfl, hT, hf⟩; have HI5 := Aside0.mk (HI4.out.fr hT hf); clear hT hf)))
  go_ret
  exact ⟨rfl, HI5.out.b⟩
/-! ### the law: TallyNil -/
theorem cutText_any (s : ByteArray) (k : Int) (r : ByteArray) (hk : 0 ≤ k) (w : World) (hr : r = if (s.size : Int) > k then s.extract 0 k.toNat else s) :
    Calls Try.prog 18 #[.string s, .int .i64 k] w fun e w' => e = .returned (.string r) ∧ w = w' := by
  subst hr
  by_cases h : k < (s.size : Int)
  · rw [if_pos h]
    go_enter Try.func18, Try.ntmps18
    go_wp2
    go_ret
    exact ⟨rfl, rfl⟩
  · rw [if_neg h]
    have h' : (s.size : Int) ≤ k := by omega
    clear h
    go_enter Try.func18, Try.ntmps18
    go_wp2
    go_ret
    exact ⟨rfl, rfl⟩
def cutT (s : ByteArray) (k : Nat) : ByteArray := if (s.size : Int) > k then s.extract 0 k else s
theorem cutT_size (s : ByteArray) (k : Nat) : (cutT s k).size ≤ k := by
  unfold cutT
  split
  · rw [ByteArray.size_extract]; omega
  · omega
theorem cutT_any (s : ByteArray) (k : Nat) (w : World) : Calls Try.prog 18 #[.string s, .int .i64 (k : Int)] w fun e w' => e = .returned (.string (cutT s k)) ∧ w = w' :=
  cutText_any s k _ (by omega) w (by simp [cutT])
set_option maxRecDepth 100000 in
set_option maxHeartbeats 1000000 in
theorem nil_walk (w : World) (s : ByteArray) (y : Int) : Calls Try.prog 5 #[.string s, .int .u64 y] w fun e w' => e = .returned (.bool true) ∧ Below w.heap.size w w' := by
  have HN := Aside0.mk (fun W => new_one W)
  have HA := Aside0.mk (fun W => callsIn_wide.1 (n_all_in Fence.wide 3 trivial trivial trivial trivial rfl (Nat.le_refl _) W 9))
  have HS := Aside0.mk (fun W => callsIn_wide.1 (n_sum_in Fence.wide 3 trivial trivial trivial trivial rfl (Nat.le_refl _) W))
  go_enter Try.func5, Try.ntmps5
  go_wp2_with (first | (go_at_call 9; go_must (refine (t_awake _).mono ?_; rintro e w1 ⟨rfl, hb1⟩; have HB1 := Aside0.mk hb1; clear hb1)) | (go_at_call 18; go_must (refine (cutT_any s 45 _).mono ?_; rintro e w2 ⟨rfl, rfl⟩)) | (go_at_call 11; go_must (refine (HN.out _).mono ?_; intro e w3 hn; obtain ⟨g, lb, N, cn, rfl, hI⟩ := hn.talI (below_alloc HB1.out _); have HI := Aside0.mk hI; clear hn hI)) | (go_at_call 19; go_must (refine (n_reset _).mono ?_; rintro e w4 ⟨rfl, rfl⟩)) | (go_at_call 20; go_must (refine (n_add _ _ _).mono ?_; rintro e w4 ⟨rfl, rfl⟩)) | (go_at_call 21; go_must (refine (n_most _ _ _).mono ?_; rintro e w4 ⟨rfl, rfl⟩)) | (go_at_call 22; go_must (refine (n_take _ _).mono ?_; rintro e w4 ⟨rfl, rfl⟩)) | (go_at_call 23; go_must (refine (n_get _ _).mono ?_; rintro e w4 ⟨rfl, rfl⟩)) | (go_at_call 24; go_must (refine (t_names_nil _).mono ?_; rintro e w4 ⟨rfl, rfl⟩)) | (go_at_call 15; go_must (refine (HA.out _).mono ?_; rintro e w5 ⟨rfl, hb5⟩; have HB5 := Aside0.mk hb5; clear hb5)) | (go_at_call 17; have tk := HB5; go_must (clear tk; refine (n_sum_x w5 g lb N cn _ _ (TalI.fr HI.out (HI.out.t.below HB5.out) ((Fr.of_below (S := fun i => i = g ∨ i = lb) HB5.out))).t (by simp [sortN_len])).mono ?_; rintro e w6 ⟨rfl, hb6⟩; have HB6 := Aside0.mk (HB5.out.trans (hb6.mono HB5.out.size)); clear hb6 HB5)) | (go_at_call 17; go_must (refine (HS.out _).mono ?_; rintro e w7 ⟨rfl, hb7⟩; have HB7 := Aside0.mk (HB6.out.trans (hb7.mono HB6.out.size)); clear hb7)))
  go_ret
  exact ⟨rfl, HI.out.b.trans (HB7.out.mono HI.out.b.size)⟩
end Go.Proofs.Ytclpkbgjaiacpaa
