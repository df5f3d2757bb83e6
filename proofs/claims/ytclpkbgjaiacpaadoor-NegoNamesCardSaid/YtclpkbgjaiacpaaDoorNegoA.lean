/- What the small functions of the package nego do, for the law NegoNames. Conditions: those that each theorem states. -/
import Derived.Test.YtclpkbgjaiacpaaDoorPNnx1
import Derived.Test.YtclpkbgjaiacpaaDoorPNnx2
import Derived.Test.YtclpkbgjaiacpaaDoorPNnx3
import Derived.Test.YtclpkbgjaiacpaaDoorPNnx4
import Derived.Test.YtclpkbgjaiacpaaDoorPNnx5
import Derived.Test.YtclpkbgjaiacpaaDoorPNnx7
import Derived.Test.YtclpkbgjaiacpaaDoorPNnx8
import Derived.WalkSpells
import Derived.Lib.SliceRun
import Derived.Test.YtclpkbgjaiacpaaDoorShelf
import Derived.Deep.DeepMust
import Derived.Deep.RegionHeld3
import Derived.StillTactics
namespace Go.Proofs.YtclpkbgjaiacpaaDoor
open Go.RowKit Go.Proofs.YtclpkbgjaiacpaaDoorW.PrintWords Go.Proofs.YtclpkbgjaiacpaaDoorW.PrintLast Go.Proofs.YtclpkbgjaiacpaaDoorW.PrintMore
open Go.Proofs.YtclpkbgjaiacpaaDoor.PNn
set_option linter.unusedVariables false
set_option linter.unusedSimpArgs false
/-! ### words -/
/-- What a call may write of what was there: the blocks of S alone. -/
structure Fr (S : Nat → Prop) (w w' : World) : Prop where
  os : w'.os = w.os
  tape : w'.tape = w.tape
  output : w'.output = w.output
  size : w.heap.size ≤ w'.heap.size
  block : ∀ k, k < w.heap.size → ¬ S k → w'.heap[k]? = w.heap[k]?
namespace Fr
variable {S S' : Nat → Prop} {w w1 w2 : World}
theorem refl (S : Nat → Prop) (w : World) : Fr S w w := ⟨rfl, rfl, rfl, Nat.le_refl _, fun _ _ _ => rfl⟩
theorem of_below (h : Below w.heap.size w w1) : Fr S w w1 := ⟨h.os, h.tape, h.output, h.size, fun k hk _ => h.block k hk⟩
theorem to_below (h : Fr S w w1) (hs : ∀ k, S k → w.heap.size ≤ k) : Below w.heap.size w w1 :=
  ⟨h.os, h.tape, h.output, h.size, fun k hk => h.block k hk (fun hS => by have := hs k hS; omega)⟩
/-- Later blocks (those at or beyond the first world's size) may be written freely. -/
theorem then_ (h : Fr S w w1) (k : Fr S' w1 w2) (hs : ∀ i, S' i → S i ∨ w.heap.size ≤ i) : Fr S w w2 :=
  ⟨k.os.trans h.os, k.tape.trans h.tape, k.output.trans h.output, Nat.le_trans h.size k.size,
   fun i hi hn => (k.block i (Nat.lt_of_lt_of_le hi h.size) (fun h2 => (hs i h2).elim hn (fun h3 => by omega))).trans (h.block i hi hn)⟩
theorem mono (h : Fr S w w1) (hs : ∀ i, S i → S' i) : Fr S' w w1 := ⟨h.os, h.tape, h.output, h.size, fun i hi hn => h.block i hi (fun hk => hn (hs i hk))⟩
theorem below (h : Fr S w w1) (k : Below w1.heap.size w1 w2) : Fr S w w2 := h.then_ (of_below (S := fun _ => False) k) (fun _ hk => hk.elim)
theorem grown (h : Fr S w w1) {row : Option Nat} (k : w1.grownBy w2 row) (hr : ∀ i, row = some i → S i ∨ w.heap.size ≤ i) : Fr S w w2 :=
  h.then_ (S' := fun i => row = some i) ⟨k.os, k.tape, k.output, k.size, fun i hi hn => k.block i hi (fun he => hn he.symm)⟩ hr
theorem alloc (h : Fr S w w1) (o : Obj) : Fr S w (w1.alloc o) := h.below (below_alloc (Below.refl _ _) o)
theorem drew (h : Fr S w w1) : Fr S w w1.drew := ⟨h.os, h.tape, h.output, h.size, h.block⟩
theorem drewN (h : Fr S w w1) (n : Nat) : Fr S w (w1.drewN n) := ⟨h.os, h.tape, h.output, h.size, h.block⟩
theorem setCell (h : Fr S w w1) {p : Addr} (hp : S p.block ∨ w.heap.size ≤ p.block) (u : Value) : Fr S w (w1.setCell p u) :=
  h.then_ (S' := fun i => i = p.block) ⟨rfl, rfl, rfl, by simp [World.setCell], fun i _ hn => Below.heap_setCell w1 p u i hn⟩ (fun i hi => by rw [hi]; exact hp)
theorem blk (h : Fr S w w1) {g : Nat} {o : Obj} (hb : w.heap[g]? = some o) (hn : ¬ S g) : w1.heap[g]? = some o := (h.block g (blk_lt hb) hn).trans hb
end Fr

theorem blk_new_set (w : World) (p : Addr) (u : Value) (o : Obj) : ((w.setCell p u).alloc o).heap[w.heap.size]? = some o := by
  have h := blk_new (w.setCell p u) o
  rwa [show (w.setCell p u).heap.size = w.heap.size from by simp [World.setCell]] at h
/-- Only block g. -/
def only (g : Nat) : Nat → Prop := fun k => k = g
/-- Nothing that was there. -/
def nothing : Nat → Prop := fun _ => False

/-- A terminal's end at block g. -/
def EndB (w : World) (g : Nat) (ty dev : ByteArray) (fs : Value) (st : Int) (d : ByteArray) (ag : Value) : Prop :=
  w.heap[g]? = some (.cells #[.string ty, .string dev, fs, .int .i64 st, .string d, ag] 145 (0, 0))

theorem state_at (w : World) (g : Nat) (ty dev : ByteArray) (fs : Value) (st : Int) (d : ByteArray) (ag : Value) (h : EndB w g ty dev fs st d ag) :
    Calls Tryd.prog 26 #[.pointer (some ⟨g, 0, none⟩)] w fun e w' => e = .returned (.int .i64 st) ∧ w = w' := by
  have hc3 : w.cell? ⟨g, 3, none⟩ = some (.int .i64 st) := blk_cell h 3
  clear h
  go_enter Tryd.func26, Tryd.ntmps26
  go_wp2
  go_ret
  exact ⟨rfl, rfl⟩

theorem state_nil (w : World) :
    Calls Tryd.prog 26 #[.pointer none] w fun e w' => e = .returned (.int .i64 4) ∧ w = w' := by
  go_enter Tryd.func26, Tryd.ntmps26
  go_wp2
  go_ret
  exact ⟨rfl, rfl⟩

/-! ### bytes -/
section
variable {ops : Array Oper} {rest : List Oper} {o : Oper} {a : Act} {Q : Exit → Act → World → Prop}
/-- append(v, l...) of bytes, v of the call's own. -/
theorem appB {w0 W : World} (base : Nat) (hgd : o.guard = none) (s x : Operand) (ho : o.op = .call { callee := .builtin .append, args := #[s, x], argTypes := #[33, 33] })
    (v : Value) (xs ys : List Int) (A : Option Addr) (c : Nat) (hs : a.eval s = v) (hx : a.eval x = .slice A ys.length c)
    (HO : Kd.R (Kd.int .u8) 5 W base (fun _ => True) v xs) (HR : Kd.C (Kd.int .u8) W A ys.length ys)
    (HB : Below base w0 W) (hbase : base ≤ W.heap.size) (hl : xs.length + ys.length ≤ 140737488355328)
    (h : ∀ v1 w1, Kd.R (Kd.int .u8) 5 w1 base (fun _ => True) v1 (xs ++ ys) → Below base w0 w1 → W.grownBy w1 v.ownBlock → (v1.ownBlock = v.ownBlock ∨ ∃ b, v1.ownBlock = some b ∧ W.heap.size ≤ b) → wpList Tryd.prog ops Q rest (a.put o.dst v1) w1) :
    wpList Tryd.prog ops Q (o :: rest) a W :=
  Kd.R_append_rows (Kd.int .u8) (okp := fun _ => False) base hgd s x 33 5 (.int .u8 0) 1 ho Tryd.underlying33 info5 rfl (by decide) (by decide) v xs ys A ys.length c (fun _ => True) hs hx HO HR (fun _ _ h => h) (fun _ h => h.elim) (fun _ _ => trivial) HB hbase (by omega) h
end

theorem clone_nil (w : World) (n c : Nat) :
    Calls Tryd.prog 66 #[.slice none n c] w fun e w' => e = .returned (.slice none 0 0) ∧ w = w' := by
  have hq := fun (w : World) => Lib.run_eql_slice_nil (P := Tryd.prog) w 33 5 none n c 0 0 Tryd.underlying33
  simp only [Option.isNone] at hq
  go_enter Tryd.func66, Tryd.ntmps66
  go_wp2
  go_ret
  exact ⟨rfl, rfl⟩

theorem clone_some (w : World) (ad : Addr) (l : List Int) (c : Nat) (hr : Kd.C (Kd.int .u8) w (some ad) l.length l) (hl : l.length ≤ 140737488355328) :
    Calls Tryd.prog 66 #[.slice (some ad) l.length c] w fun e w' => ∃ v, e = .returned v ∧ Kd.R (Kd.int .u8) 5 w' w.heap.size (fun _ => True) v l ∧ Below w.heap.size w w' := by
  have hq := fun (w : World) => Lib.run_eql_slice_nil (P := Tryd.prog) w 33 5 (some ad) l.length c 0 0 Tryd.underlying33
  simp only [Option.isNone] at hq
  have HR := Aside0.mk hr
  have HL := Aside0.mk hl
  clear hr hl
  go_enter Tryd.func66, Tryd.ntmps66
  go_wp2_with (first | ((with_reducible refine gate_dst (N := 5) rfl ?_); refine Kd.R_lit (Kd.int .u8) w.heap.size 5 ?hg (N := 5) ?hd (w0 := w) (xs := ([] : List Int)) (inner := []) (ok := fun _ => True) (okp := fun _ => True) ?hr ?hp (fun _ hk => hk) trivial (Below.refl _ _) (Nat.le_refl _) (by simp) ?_; (case hd => rfl); (case hg => rfl); (case hr => first | (go_simp; done) | (go_simp; rfl)); (case hp => exact (Reps.none _ _)); intro v1 w1 ho1 hb1 hg1 hn1; clear hg1 hn1; have HO1 := Aside0.mk ho1; have HB1 := Aside0.mk hb1; clear ho1 hb1) | ((with_reducible refine gate_builtin (b := .append) (xs := #[.tmp 5, .tmp 6]) rfl ?_); refine appB (w0 := w) w.heap.size rfl (.tmp 5) (.tmp 6) rfl _ [] l (some ad) c rfl rfl HO1.out (Kd.C_below HR.out HB1.out) HB1.out HB1.out.size (by have := HL.out; simp; omega) ?_; intro v2 w2 ho2 hb2 hg2 hn2; clear hg2 hn2; have HO2 := Aside0.mk ho2; have HB2 := Aside0.mk hb2; clear ho2 hb2))
  go_ret
  exact ⟨_, rfl, HO2.out, HB2.out⟩
/-! ### plain: Name, rises -/
theorem w64 {x : Int} (h0 : -9223372036854775808 ≤ x) (h1 : x < 9223372036854775808) : wrap64 x = x := by unfold wrap64; omega
def nameB (s : ByteArray) : Bool := ((List.range' 0 s.size).all fun j => decide (33 ≤ bt s j) && decide (bt s j ≤ 126)) && (!s.toList.isEmpty && decide ((s.size : Int) ≤ 40))
theorem name_l0 (s : ByteArray) (hs : s.size ≤ 4611686018427387904) (d : Nat) : ∀ (k i : Nat), i + d = s.size → d < k →
    nego_Name.l0 k s (s.size : Int) (i : Int) = some (((List.range' i d).all fun j => decide (33 ≤ bt s j) && decide (bt s j ≤ 126)) && (!s.toList.isEmpty && decide ((s.size : Int) ≤ 40))) := by
  induction d with
  | zero =>
    intro k i hi hk
    obtain ⟨k, rfl⟩ : ∃ m, k = m + 1 := ⟨k - 1, by omega⟩
    simp only [nego_Name.l0]
    rw [if_neg (by omega)]
    cases h : s.toList with
    | nil => simp
    | cons x xs => simp
  | succ d ih =>
    intro k i hi hk
    obtain ⟨k, rfl⟩ : ∃ m, k = m + 1 := ⟨k - 1, by omega⟩
    simp only [nego_Name.l0]
    rw [if_pos (by omega), if_pos (by omega), if_pos (by omega), List.range'_succ, List.all_cons]
    by_cases h1 : bt s i < 33
    · rw [if_pos h1, decide_eq_false (by omega)]; simp
    · rw [if_neg h1]
      by_cases h2 : bt s i > 126
      · rw [if_pos h2, decide_eq_true (by omega), decide_eq_false (by omega)]; simp
      · rw [if_neg h2, w64 (by omega) (by omega), decide_eq_true (by omega), decide_eq_true (by omega)]
        have := ih k (i + 1) (by omega) (by omega)
        rw [show ((i + 1 : Nat) : Int) = (i : Int) + 1 from by omega] at this
        rw [this]; simp
theorem name_f (s : ByteArray) (hs : s.size ≤ 4611686018427387904) : nego_Name.f (s.size + 1) s = some (nameB s) := name_l0 s hs s.size (s.size + 1) 0 (by omega) (by omega)

def risesB (l : List Int) : Bool := (List.range' 0 l.length).all fun j => decide (rd l j ≤ 4) && (decide (j = 0) || decide (rd l (j - 1 : Nat) < rd l j))
theorem rises_l0 (l : List Int) (hs : l.length ≤ 4611686018427387904) (d : Nat) : ∀ (k i : Nat), i + d = l.length → d < k →
    nego_rises.l0 k l l (l.length : Int) (i : Int) = some ((List.range' i d).all fun j => decide (rd l j ≤ 4) && (decide (j = 0) || decide (rd l (j - 1 : Nat) < rd l j))) := by
  induction d with
  | zero =>
    intro k i hi hk
    obtain ⟨k, rfl⟩ : ∃ m, k = m + 1 := ⟨k - 1, by omega⟩
    simp only [nego_rises.l0]
    rw [if_neg (by omega)]
    simp
  | succ d ih =>
    intro k i hi hk
    obtain ⟨k, rfl⟩ : ∃ m, k = m + 1 := ⟨k - 1, by omega⟩
    simp only [nego_rises.l0]
    have hn := ih k (i + 1) (by omega) (by omega)
    rw [show ((i + 1 : Nat) : Int) = (i : Int) + 1 from by omega] at hn
    rw [if_pos (by omega), if_pos (by omega), if_pos (by omega), List.range'_succ, List.all_cons]
    by_cases h1 : rd l i > 4
    · rw [if_pos h1, decide_eq_false (by omega)]; simp
    · rw [if_neg h1, decide_eq_true (by omega)]
      by_cases h2 : (i : Int) > 0
      · rw [if_pos h2, w64 (by omega) (by omega), if_pos (by omega), if_pos (by omega)]
        have e : rd l ((i - 1 : Nat) : Int) = rd l ((i : Int) - 1) := by rw [show ((i - 1 : Nat) : Int) = (i : Int) - 1 from by omega]
        by_cases h3 : rd l ((i : Int) - 1) ≥ rd l i
        · rw [if_pos h3, e, decide_eq_false (by omega), decide_eq_false (by omega)]; simp
        · rw [if_neg h3, w64 (by omega) (by omega), hn, e, decide_eq_false (by omega), decide_eq_true (by omega)]; simp
      · obtain rfl : i = 0 := by omega
        rw [if_neg h2, w64 (by omega) (by omega), hn]; simp
theorem rises_f (l : List Int) (hs : l.length ≤ 4611686018427387904) : nego_rises.f (l.length + 1) l = some (risesB l) := rises_l0 l hs l.length (l.length + 1) 0 (by omega) (by omega)
/-- A row of bytes that is nil, or the call's own. -/
def OwnB (w : World) (base : Nat) (v : Value) (l : List Int) : Prop := Kd.R (Kd.int .u8) 5 w base (fun _ => True) v l
namespace OwnB
variable {w w1 : World} {base : Nat} {v : Value} {l : List Int}
theorem slice (h : OwnB w base v l) : ∃ A c, v = .slice A l.length c := Kd.R_slice h
theorem reads (h : OwnB w base v l) : ∃ A c, v = .slice A l.length c ∧ l.length ≤ c ∧ Kd.C (Kd.int .u8) w A l.length l := Kd.R_reads h
theorem below (h : OwnB w base v l) (hb : Below w.heap.size w w1) : OwnB w1 base v l := Kd.R_below h hb
theorem lower {b' : Nat} (h : OwnB w base v l) (hb : b' ≤ base) : OwnB w b' v l := Kd.R_lower h hb
/-- A store into a block of another type. -/
theorem store (h : OwnB w base v l) {g t : Nat} {cs : Array Value} (hb : w.heap[g]? = some (.cells cs t (0, 0))) (ht : t ≠ 5) (j : Nat) (u : Value) : OwnB (w.setCell ⟨g, j, none⟩ u) base v l :=
  Kd.R_set h hb (fun q hq => by
    rcases List.mem_cons.1 hq with rfl | hq
    · exact fun e => ht e.symm
    · cases hq) j u
theorem fr (h : OwnB w base v l) {S : Nat → Prop} (hf : Fr S w w1) (hs : ∀ k, v.ownBlock = some k → ¬ S k) : OwnB w1 base v l := by
  obtain ⟨h0, inner, ho, hr⟩ := h
  refine ⟨h0, inner, own_move ho (fun k hk => hf.block k (own_lt ho k hk) (hs k hk)), hr⟩
end OwnB

theorem clone_any (w : World) (A : Option Addr) (l : List Int) (c : Nat) (hr : Kd.C (Kd.int .u8) w A l.length l) (hl : l.length ≤ 140737488355328) :
    Calls Tryd.prog 66 #[.slice A l.length c] w fun e w' => ∃ v, e = .returned v ∧ OwnB w' w.heap.size v l ∧ Below w.heap.size w w' := by
  cases A with
  | none =>
    have h0 : l = [] := by
      rcases Nat.eq_zero_or_pos l.length with h | h
      · exact List.eq_nil_of_length_eq_zero h
      · obtain ⟨ad, e, _⟩ := hr.2.2 h
        cases e
    subst h0
    refine (clone_nil w _ c).mono ?_
    rintro e w' ⟨rfl, rfl⟩
    exact ⟨_, rfl, Kd.R_nil _ _ _ _ _, Below.refl _ _⟩
  | some ad => exact clone_some w ad l c hr hl

theorem new_list (w : World) (ty dev : ByteArray) (A : Option Addr) (l : List Int) (c : Nat) (k1 k2 k3 : Nat) (b2 : Bool)
    (h1 : nego_Name.f k1 ty = some true) (h2 : nego_Name.f k2 dev = some b2) (hb : dev.toList.isEmpty = true ∨ (dev.toList.isEmpty = false ∧ b2 = true))
    (h3 : nego_rises.f k3 l = some false) (hr : Kd.C (Kd.int .u8) w A l.length l) (hc : l.length ≤ c) :
    Calls Tryd.prog 61 #[.agg #[.string ty, .string dev, .slice A l.length c]] w fun e w' => e = .returned (.tuple #[.pointer none, .int .i64 1]) ∧ Below w.heap.size w w' := by
  have H1 := Aside0.mk h1
  have H2 := Aside0.mk h2
  have H3 := Aside0.mk h3
  have HR := Aside0.mk hr
  have HC := Aside0.mk hc
  clear h1 h2 h3 hr hc
  rcases hb with hd | ⟨hd, rfl⟩
  · go_enter Tryd.func61, Tryd.ntmps61
    go_wp2_with (first | (go_at_call 22; with_reducible refine (nego_Name.calls k1 ty _ _ H1.out).mono ?_; clear H1; rintro e w' ⟨rfl, ⟨n, rfl⟩⟩) | (go_at_call 102; with_reducible refine (nego_rises.calls k3 _ _ l _ _ ?side1 HC.out H3.out).mono ?_; (case side1 => repeat (first | exact HR.out | (with_reducible refine Kd.C_alloc ?_ _) | (with_reducible refine Kd.C_drewN ?_ _))); rintro e w' ⟨rfl, ⟨n2, rfl⟩⟩))
    go_ret2
    exact ⟨rfl, by repeat (first | exact Below.refl _ _ | apply below_alloc | apply pw_below_drewN)⟩
  · go_enter Tryd.func61, Tryd.ntmps61
    go_wp2_with (first | (go_at_call 22; with_reducible refine (nego_Name.calls k1 ty _ _ H1.out).mono ?_; clear H1; rintro e w' ⟨rfl, ⟨n, rfl⟩⟩) | (go_at_call 22; with_reducible refine (nego_Name.calls k2 dev _ _ H2.out).mono ?_; clear H2; rintro e w' ⟨rfl, ⟨n3, rfl⟩⟩) | (go_at_call 102; with_reducible refine (nego_rises.calls k3 _ _ l _ _ ?side1 HC.out H3.out).mono ?_; (case side1 => repeat (first | exact HR.out | (with_reducible refine Kd.C_alloc ?_ _) | (with_reducible refine Kd.C_drewN ?_ _))); rintro e w' ⟨rfl, ⟨n2, rfl⟩⟩))
    go_ret2
    exact ⟨rfl, by repeat (first | exact Below.refl _ _ | apply below_alloc | apply pw_below_drewN)⟩

theorem new_ok (w : World) (ty dev : ByteArray) (A : Option Addr) (l : List Int) (c : Nat) (k1 k2 k3 : Nat) (b2 : Bool)
    (h1 : nego_Name.f k1 ty = some true) (h2 : nego_Name.f k2 dev = some b2) (hb : dev.toList.isEmpty = true ∨ (dev.toList.isEmpty = false ∧ b2 = true))
    (h3 : nego_rises.f k3 l = some true) (hr : Kd.C (Kd.int .u8) w A l.length l) (hc : l.length ≤ c) (hl : l.length ≤ 140737488355328) :
    Calls Tryd.prog 61 #[.agg #[.string ty, .string dev, .slice A l.length c]] w fun e w' => ∃ g v, e = .returned (.tuple #[.pointer (some ⟨g, 0, none⟩), .int .i64 0]) ∧ EndB w' g ty dev v 0 (⟨#[]⟩ : ByteArray) (.slice none 0 0) ∧ w.heap.size ≤ g ∧ OwnB w' w.heap.size v l ∧ Below w.heap.size w w' := by
  have H1 := Aside0.mk h1
  have H2 := Aside0.mk h2
  have H3 := Aside0.mk h3
  have HR := Aside0.mk hr
  have HC := Aside0.mk hc
  have HL := Aside0.mk hl
  clear h1 h2 h3 hr hc hl
  rcases hb with hd | ⟨hd, rfl⟩
  · go_enter Tryd.func61, Tryd.ntmps61
    go_wp2_with (first | (go_at_call 22; with_reducible refine (nego_Name.calls k1 ty _ _ H1.out).mono ?_; clear H1; rintro e w' ⟨rfl, ⟨n, rfl⟩⟩) | (go_at_call 102; with_reducible refine (nego_rises.calls k3 _ _ l _ _ ?side1 HC.out H3.out).mono ?_; (case side1 => repeat (first | exact HR.out | (with_reducible refine Kd.C_alloc ?_ _) | (with_reducible refine Kd.C_drewN ?_ _))); rintro e w' ⟨rfl, ⟨n2, rfl⟩⟩) | (go_at_call 66; go_must (with_reducible refine (clone_any _ _ l c ?side1 HL.out).mono ?_; (case side1 => repeat (first | exact HR.out | (with_reducible refine Kd.C_alloc ?_ _) | (with_reducible refine Kd.C_drewN ?_ _))); rintro e w3 ⟨v, rfl, ho, hb⟩; obtain ⟨A9, c9, rfl⟩ := ho.slice; have BK := blk_below (blk_drewN (blk_new w _) _) hb; have x0 := (blk_cell BK 0).trans rfl; have x1 := (blk_cell BK 1).trans rfl; have x2 := (blk_cell BK 2).trans rfl; have f2 := blk_frozen BK 2; have HO := Aside0.mk ho; have HB := Aside0.mk hb; have HBK := Aside0.mk BK; clear ho hb BK)))
    have hz : w.heap.size + 1 ≤ w3.heap.size := by simpa using HB.out.size
    go_ret2
    exact ⟨w3.heap.size, _, rfl, blk_new_set _ _ _ _, by omega, ((HO.out.lower (by simp)).store HBK.out (by decide) 2 _).below (below_alloc (Below.refl _ _) _),
      (((((((Fr.refl nothing w).alloc _).drewN _).below HB.out).setCell (p := ⟨w.heap.size, 2, none⟩) (.inr (Nat.le_refl _)) _).alloc _).to_below (fun _ h => h.elim))⟩
  · go_enter Tryd.func61, Tryd.ntmps61
    go_wp2_with (first | (go_at_call 22; with_reducible refine (nego_Name.calls k1 ty _ _ H1.out).mono ?_; clear H1; rintro e w' ⟨rfl, ⟨n, rfl⟩⟩) | (go_at_call 22; with_reducible refine (nego_Name.calls k2 dev _ _ H2.out).mono ?_; clear H2; rintro e w' ⟨rfl, ⟨n3, rfl⟩⟩) | (go_at_call 102; with_reducible refine (nego_rises.calls k3 _ _ l _ _ ?side1 HC.out H3.out).mono ?_; (case side1 => repeat (first | exact HR.out | (with_reducible refine Kd.C_alloc ?_ _) | (with_reducible refine Kd.C_drewN ?_ _))); rintro e w' ⟨rfl, ⟨n2, rfl⟩⟩) | (go_at_call 66; go_must (with_reducible refine (clone_any _ _ l c ?side1 HL.out).mono ?_; (case side1 => repeat (first | exact HR.out | (with_reducible refine Kd.C_alloc ?_ _) | (with_reducible refine Kd.C_drewN ?_ _))); rintro e w3 ⟨v, rfl, ho, hb⟩; obtain ⟨A9, c9, rfl⟩ := ho.slice; have BK := blk_below (blk_drewN (blk_new w _) _) hb; have x0 := (blk_cell BK 0).trans rfl; have x1 := (blk_cell BK 1).trans rfl; have x2 := (blk_cell BK 2).trans rfl; have f2 := blk_frozen BK 2; have HO := Aside0.mk ho; have HB := Aside0.mk hb; have HBK := Aside0.mk BK; clear ho hb BK)))
    have hz : w.heap.size + 1 ≤ w3.heap.size := by simpa using HB.out.size
    go_ret2
    exact ⟨w3.heap.size, _, rfl, blk_new_set _ _ _ _, by omega, ((HO.out.lower (by simp)).store HBK.out (by decide) 2 _).below (below_alloc (Below.refl _ _) _),
      (((((((Fr.refl nothing w).alloc _).drewN _).below HB.out).setCell (p := ⟨w.heap.size, 2, none⟩) (.inr (Nat.le_refl _)) _).alloc _).to_below (fun _ h => h.elim))⟩
/-! ### append: lists of bytes and strings, in a list of operations or in a region that draws -/
section
variable {ops : Array Oper} {rest : List Oper} {o : Oper} {a : Act} {Q : Exit → Act → World → Prop} {Kc : Act → World → Prop}
theorem own_nums {w : World} {base : Nat} {v : Value} {l : List Int} (h : OwnB w base v l) : w.ownsRow base 5 1 v l.length (nums .u8 l) := by
  have h2 : w.ownsRow base 5 1 v l.length (encs (Value.int .u8) l) := Kd.own_of_R h
  exact h2
theorem of_nums {w : World} {base : Nat} {v : Value} {l : List Int} (h : w.ownsRow base 5 1 v l.length (nums .u8 l)) : OwnB w base v l :=
  Kd.R_of_own (h1 := fun _ => rfl) h (fun _ _ => trivial)
theorem lenBytes (s : ByteArray) : (bytesOf s).length = s.size := bytesOf_length s
theorem run_appS {W : World} (base : Nat) (ty : TypeId) (v : Value) (xs : List Int) (y : ByteArray) (HO : OwnB W base v xs) (hbase : base ≤ W.heap.size) (hl : xs.length + y.size ≤ 140737488355328) :
    ∃ v1 w1, (Builtin.append_ #[33, 9] ty #[v, .string y]).run Tryd.prog W = .ok v1 w1 ∧ OwnB w1 base v1 (xs ++ bytesOf y) ∧ W.grownBy w1 v.ownBlock := by
  obtain ⟨i0, hi, hz0, hz1, hz2⟩ := info_parts info5
  obtain ⟨v1, w1, hr, ho, hg, _⟩ := Lib.run_append_own_string (P := Tryd.prog) W base 33 9 ty 5 i0 Tryd.underlying33 Tryd.underlying9 hi hz0 hz1 hz2 v xs.length (nums .u8 xs) (own_nums HO) y (by simp only [maxLen]; omega) hl hbase
  refine ⟨v1, w1, hr, of_nums ?_, hg⟩
  have hl2 : (xs ++ bytesOf y).length = xs.length + y.size := by rw [List.length_append, bytesOf_length]
  have hs : nums .u8 (bytesOf y) = Lib.strCells y := by simp [nums, bytesOf, Lib.strCells]
  have hc : nums .u8 (xs ++ bytesOf y) = nums .u8 xs ++ Lib.strCells y := by rw [nums_append, hs]
  rw [hl2, hc]
  exact ho
theorem own_ge {w : World} {base : Nat} {v : Value} {l : List Int} (h : OwnB w base v l) : ∀ k, v.ownBlock = some k → base ≤ k := own_base (own_nums h)
theorem appS {W : World} (base : Nat) (hgd : o.guard = none) (s x : Operand) (ho : o.op = .call { callee := .builtin .append, args := #[s, x], argTypes := #[33, 9] })
    (v : Value) (xs : List Int) (y : ByteArray) (hs : a.eval s = v) (hx : a.eval x = .string y) (HO : OwnB W base v xs) (hbase : base ≤ W.heap.size) (hl : xs.length + y.size ≤ 140737488355328)
    (h : ∀ v1 w1, OwnB w1 base v1 (xs ++ bytesOf y) → W.grownBy w1 v.ownBlock → wpList Tryd.prog ops Q rest (a.put o.dst v1) w1) :
    wpList Tryd.prog ops Q (o :: rest) a W := by
  refine wpList_plain hgd fun K hK => ?_
  obtain ⟨v', w', hr, h2, h3⟩ := run_appS (W := W) base o.type v xs y HO hbase hl
  unfold Oper.wp execOp
  simp only [ho, resolve, invoke, builtin, Sem.run_bind, Sem.run_pure, Result.andThen_ok, List.map_toArray, List.map_cons, List.map_nil, hs, hx, hr]
  exact hK _ _ (h v' w' h2 h3)
theorem appS_step {W : World} (base : Nat) (hw : Region.wanted o (yielded ops a.tmps) = true) (s x : Operand) (ho : o.op = .call { callee := .builtin .append, args := #[s, x], argTypes := #[33, 9] })
    (v : Value) (xs : List Int) (y : ByteArray) (hs : a.eval s = v) (hx : a.eval x = .string y) (HO : OwnB W base v xs) (hbase : base ≤ W.heap.size) (hl : xs.length + y.size ≤ 140737488355328)
    (h : ∀ v1 w1, OwnB w1 base v1 (xs ++ bytesOf y) → W.grownBy w1 v.ownBlock → Kc (a.put o.dst v1) w1) :
    if Region.wanted o (yielded ops a.tmps) = true then Oper.wp Tryd.prog o a W Kc Q else Kc (a.put o.dst undef) W := by
  obtain ⟨v', w', hr, h2, h3⟩ := run_appS (W := W) base o.type v xs y HO hbase hl
  refine event_step hw (v := v') (w1 := w') ?_ (h v' w' h2 h3)
  unfold execOp
  simp only [ho, resolve, invoke, builtin, Sem.run_bind, Sem.run_pure, Result.andThen_ok, List.map_toArray, List.map_cons, List.map_nil, hs, hx, hr]
theorem appL {W : World} (base : Nat) (hgd : o.guard = none) (s x : Operand) (ho : o.op = .call { callee := .builtin .append, args := #[s, x], argTypes := #[33, 33] })
    (v : Value) (xs ys : List Int) (A : Option Addr) (n c : Nat) (hs : a.eval s = v) (hx : a.eval x = .slice A n c)
    (HO : OwnB W base v xs) (HR : Kd.C (Kd.int .u8) W A n ys) (hbase : base ≤ W.heap.size) (hl : xs.length + n ≤ 140737488355328)
    (h : ∀ v1 w1, OwnB w1 base v1 (xs ++ ys) → W.grownBy w1 v.ownBlock → wpList Tryd.prog ops Q rest (a.put o.dst v1) w1) :
    wpList Tryd.prog ops Q (o :: rest) a W :=
  Kd.R_append_rows (Kd.int .u8) (okp := fun _ => False) (w0 := W) base hgd s x 33 5 (.int .u8 0) 1 ho Tryd.underlying33 info5 rfl (by decide) (by decide) v xs ys A n c (fun _ => True) hs hx HO HR (fun _ _ h => h) (fun _ h => h.elim) (fun _ _ => trivial) (Below.refl _ _) hbase (by omega) (fun v1 w1 h1 _ h3 _ => h v1 w1 h1 h3)
theorem appL_step {W : World} (base : Nat) (hw : Region.wanted o (yielded ops a.tmps) = true) (s x : Operand) (ho : o.op = .call { callee := .builtin .append, args := #[s, x], argTypes := #[33, 33] })
    (v : Value) (xs ys : List Int) (A : Option Addr) (n c : Nat) (hs : a.eval s = v) (hx : a.eval x = .slice A n c)
    (HO : OwnB W base v xs) (HR : Kd.C (Kd.int .u8) W A n ys) (hbase : base ≤ W.heap.size) (hl : xs.length + n ≤ 140737488355328)
    (h : ∀ v1 w1, OwnB w1 base v1 (xs ++ ys) → W.grownBy w1 v.ownBlock → Kc (a.put o.dst v1) w1) :
    if Region.wanted o (yielded ops a.tmps) = true then Oper.wp Tryd.prog o a W Kc Q else Kc (a.put o.dst undef) W :=
  Kd.R_append_rows_step (Kd.int .u8) (okp := fun _ => False) (w0 := W) base hw s x 33 5 (.int .u8 0) 1 ho Tryd.underlying33 info5 rfl (by decide) (by decide) v xs ys A n c (fun _ => True) hs hx HO HR (fun _ _ h => h) (fun _ h => h.elim) (fun _ _ => trivial) (Below.refl _ _) hbase (by omega) (fun v1 w1 h1 _ h3 _ => h v1 w1 h1 h3)
end
/-- A new literal of bytes. -/
theorem lit_own (w : World) (base : Nat) (l : List Int) (hb : base ≤ w.heap.size) (hl : l.length ≤ 140737488355328) :
    OwnB (w.alloc (.cells (l.map (Value.int .u8)).toArray 5)) base (.slice (some ⟨w.heap.size, 0, none⟩) l.length l.length) l := by
  refine of_nums ?_
  have h2 := World.ownsRow_lit (base := base) (e := 5) (size := 1) w (l.map (Value.int .u8)).toArray l.length hb (by simp only [maxLen]; omega) (by simp)
  simpa [nums] using h2
theorem lit_C (w : World) (l : List Int) (hl : l.length ≤ 140737488355328) : Kd.C (Kd.int .u8) (w.alloc (.cells (l.map (Value.int .u8)).toArray 5)) (some ⟨w.heap.size, 0, none⟩) l.length l := by
  obtain ⟨A, c, he, _, hC⟩ := (lit_own w w.heap.size l (Nat.le_refl _) hl).reads
  injection he with h1 h2 h3
  rw [h1]
  exact hC
/-- A literal of bytes, one event: the world behind it is known by what it keeps alone. -/
theorem litE {ops : Array Oper} {rest : List Oper} {o : Oper} {a : Act} {Q : Exit → Act → World → Prop} {W : World} (base : Nat) (hgd : o.guard = none) {N : Tmp} (_hd : o.dst = some N) (l : List Int)
    (hrun : (execOp a.eval o).run Tryd.prog W = .ok (.value (.slice (some ⟨W.heap.size, 0, none⟩) l.length l.length)) (W.alloc (.cells (l.map (Value.int .u8)).toArray 5)))
    (hb : base ≤ W.heap.size) (hl : l.length ≤ 140737488355328)
    (h : ∀ v1 w1, OwnB w1 base v1 l → Below W.heap.size W w1 → (∀ k, v1.ownBlock = some k → W.heap.size ≤ k) → wpList Tryd.prog ops Q rest (a.put o.dst v1) w1) : wpList Tryd.prog ops Q (o :: rest) a W :=
  Kd.event_run hgd hrun (h _ _ (lit_own W base l hb hl) (below_alloc (Below.refl _ _) _) (fun k hk => by
    have : W.heap.size = k := by simpa [Value.ownBlock] using hk
    omega))
/-! ### asks -/
def askedL (ty dev : ByteArray) : List Int := ([2, 7] ++ bytesOf ty) ++ (if dev.toList.isEmpty then [] else [1] ++ bytesOf dev)
theorem asks_bare (w : World) (g : Nat) (ty dev : ByteArray) (fs : Value) (st : Int) (d : ByteArray) (ag : Value) (h : EndB w g ty dev fs st d ag) (ht : ty.size ≤ 1000) (hd : dev.toList.isEmpty = true) :
    Calls Tryd.prog 63 #[.pointer (some ⟨g, 0, none⟩)] w fun e w' => ∃ v, e = .returned v ∧ OwnB w' w.heap.size v ([2, 7] ++ bytesOf ty) ∧ EndB w' g ty dev fs 1 (⟨#[]⟩ : ByteArray) (.slice none 0 0) ∧ Fr (only g) w w' := by
  have hc0 : w.cell? ⟨g, 0, none⟩ = some (.string ty) := blk_cell h 0
  have hc1 : w.cell? ⟨g, 1, none⟩ = some (.string dev) := blk_cell h 1
  have hc3 : w.cell? ⟨g, 3, none⟩ = some (.int .i64 st) := blk_cell h 3
  have hc4 : w.cell? ⟨g, 4, none⟩ = some (.string d) := blk_cell h 4
  have hc5 : w.cell? ⟨g, 5, none⟩ = some ag := blk_cell h 5
  have hf3 := blk_frozen h 3
  have hf4 := blk_frozen h 4
  have hf5 := blk_frozen h 5
  have hlt : g < w.heap.size := blk_lt h
  have H := Aside0.mk h
  have HT := Aside0.mk ht
  clear h ht
  go_enter Tryd.func63, Tryd.ntmps63
  go_wp2_with (first | ((with_reducible refine gate_dst (N := 13) rfl ?_); go_must (refine litE w.heap.size rfl (N := 13) rfl [2, 7] ?zr ?zb ?zl ?_; (case zr => first | (go_simp; done) | (go_simp; rfl)); (case zb => simp); (case zl => simp); intro v1 w1 ho hb hfr; have BK : w1.heap[g]? = some (.cells #[.string ty, .string dev, fs, .int .i64 1, .string ⟨#[]⟩, .slice none 0 0] 145 (0, 0)) := blk_below (by exact blk_put (blk_put (blk_put H.out 3 _ rfl) 4 _ rfl) 5 _ rfl) hb; have HF : Fr (only g) w w1 := Fr.below (by exact (((Fr.refl (only g) w).setCell (p := ⟨g, 3, none⟩) (.inl rfl) _).setCell (p := ⟨g, 4, none⟩) (.inl rfl) _).setCell (p := ⟨g, 5, none⟩) (.inl rfl) _) hb; have x0 := (blk_cell BK 0).trans rfl; have HO := Aside0.mk ho; have HB := Aside0.mk BK; have HFF := Aside0.mk HF; have HG := own_ge ho; have hz := HF.size; have hk : ∀ k, v1.ownBlock = some k → only g k ∨ w.heap.size ≤ k := fun k hk => .inr (HG k hk); have hne : some g ≠ v1.ownBlock := fun e => Nat.lt_irrefl _ (Nat.lt_of_lt_of_le hlt (HG g e.symm)); have HK := Aside0.mk hk; have HNE := Aside0.mk hne; clear hk hne HG ho BK HF hb hfr hc0 hc1 hc3 hc4 hc5 hf3 hf4 hf5)) | (at_builtin; go_must (refine appS w.heap.size rfl (.tmp 13) (.tmp 18) rfl _ [2, 7] ty rfl rfl HO.out hz ?z4 ?_; (case z4 => have h4 := HT.out; simp only [List.length_cons, List.length_nil]; omega); intro v2 w2 ho2 hg2; have BK2 := blk_grown HB.out hg2 HNE.out; have x1 := (blk_cell BK2 1).trans rfl; have HF2 := Aside0.mk (HFF.out.grown hg2 (fun i hi => HK.out i hi)); obtain ⟨A1, c1, rfl⟩ := ho2.slice; have HO2 := Aside0.mk ho2; have HB2 := Aside0.mk BK2; clear ho2 BK2 hg2)))
  go_ret
  exact ⟨_, rfl, HO2.out, HB2.out, HF2.out⟩
set_option maxHeartbeats 1000000 in
theorem asks_dev (w : World) (g : Nat) (ty dev : ByteArray) (fs : Value) (st : Int) (d : ByteArray) (ag : Value) (h : EndB w g ty dev fs st d ag) (ht : ty.size ≤ 1000) (hd : dev.toList.isEmpty = false) (hdl : dev.size ≤ 1000) :
    Calls Tryd.prog 63 #[.pointer (some ⟨g, 0, none⟩)] w fun e w' => ∃ v, e = .returned v ∧ OwnB w' w.heap.size v (([2, 7] ++ bytesOf ty ++ [1]) ++ bytesOf dev) ∧ EndB w' g ty dev fs 1 (⟨#[]⟩ : ByteArray) (.slice none 0 0) ∧ Fr (only g) w w' := by
  have hc0 : w.cell? ⟨g, 0, none⟩ = some (.string ty) := blk_cell h 0
  have hc1 : w.cell? ⟨g, 1, none⟩ = some (.string dev) := blk_cell h 1
  have hc3 : w.cell? ⟨g, 3, none⟩ = some (.int .i64 st) := blk_cell h 3
  have hc4 : w.cell? ⟨g, 4, none⟩ = some (.string d) := blk_cell h 4
  have hc5 : w.cell? ⟨g, 5, none⟩ = some ag := blk_cell h 5
  have hf3 := blk_frozen h 3
  have hf4 := blk_frozen h 4
  have hf5 := blk_frozen h 5
  have hlt : g < w.heap.size := blk_lt h
  have H := Aside0.mk h
  have HT := Aside0.mk (And.intro ht hdl)
  clear h ht hdl
  go_enter Tryd.func63, Tryd.ntmps63
  go_wp2_with (first | ((with_reducible refine gate_dst (N := 13) rfl ?_); go_must (refine litE w.heap.size rfl (N := 13) rfl [2, 7] ?zr ?zb ?zl ?_; (case zr => first | (go_simp; done) | (go_simp; rfl)); (case zb => simp); (case zl => simp); intro v1 w1 ho hb hfr; have BK : w1.heap[g]? = some (.cells #[.string ty, .string dev, fs, .int .i64 1, .string ⟨#[]⟩, .slice none 0 0] 145 (0, 0)) := blk_below (by exact blk_put (blk_put (blk_put H.out 3 _ rfl) 4 _ rfl) 5 _ rfl) hb; have HF : Fr (only g) w w1 := Fr.below (by exact (((Fr.refl (only g) w).setCell (p := ⟨g, 3, none⟩) (.inl rfl) _).setCell (p := ⟨g, 4, none⟩) (.inl rfl) _).setCell (p := ⟨g, 5, none⟩) (.inl rfl) _) hb; have x0 := (blk_cell BK 0).trans rfl; have HO := Aside0.mk ho; have HB := Aside0.mk BK; have HFF := Aside0.mk HF; have HG := own_ge ho; have hz := HF.size; have hk : ∀ k, v1.ownBlock = some k → only g k ∨ w.heap.size ≤ k := fun k hk => .inr (HG k hk); have hne : some g ≠ v1.ownBlock := fun e => Nat.lt_irrefl _ (Nat.lt_of_lt_of_le hlt (HG g e.symm)); have HK := Aside0.mk hk; have HNE := Aside0.mk hne; clear hk hne HG ho BK HF hb hfr hc0 hc1 hc3 hc4 hc5 hf3 hf4 hf5)) | (at_builtin; (with_reducible refine gate_builtin (b := .append) (xs := #[.tmp 13, .tmp 18]) rfl ?_); go_must (refine appS w.heap.size rfl (.tmp 13) (.tmp 18) rfl _ [2, 7] ty rfl rfl HO.out hz ?z4 ?_; (case z4 => have h4 := HT.out.1; simp only [List.length_cons, List.length_nil]; omega); intro v2 w2 ho2 hg2; have BK2 := blk_grown HB.out hg2 HNE.out; have x1 := (blk_cell BK2 1).trans rfl; have HF2 := Aside0.mk (HFF.out.grown hg2 (fun i hi => HK.out i hi)); obtain ⟨A1, c1, rfl⟩ := ho2.slice; have HO2 := Aside0.mk ho2; have HB2 := Aside0.mk BK2; clear ho2 BK2 hg2)))
  have hz2 := HF2.out.size
  clear hz
  have hne2 : ∀ k, (Value.slice A1 ([2, 7] ++ bytesOf ty).length c1).ownBlock = some k → w.heap.size ≤ k := own_ge HO2.out
  have HNE2 := Aside0.mk hne2
  clear hne2
  go_region_held3 (fun w' => w'.cell? ⟨g, 1, none⟩ = some (.string dev)) (first | go_keep | assumption) (first | ((with_reducible refine appL_step w.heap.size ?zw (.tmp 26) (.tmp 27) rfl _ ([2, 7] ++ bytesOf ty) [1] (some ⟨w2.heap.size, 0, none⟩) 1 1 rfl rfl ?zo ?zc ?zb ?zl ?_); go_must ((case zw => rfl); (case zo => exact HO2.out.below (below_drew (below_alloc (Below.refl _ _) _))); (case zc => exact Kd.C_drew (lit_C w2 [1] (by simp))); (case zb => simp; omega); (case zl => have h4 := HT.out.1; simp only [List.length_append, lenBytes, List.length_cons, List.length_nil]; omega); intro v3 w3 ho3 hg3; have BK3 := blk_grown (blk_drew (blk_alloc HB2.out _)) hg3 (fun e => Nat.lt_irrefl _ (Nat.lt_of_lt_of_le hlt (HNE2.out g e.symm))); have x1 := (blk_cell BK3 1).trans rfl; have HF3 := Aside0.mk (Fr.grown (Fr.drew (Fr.alloc HF2.out _)) hg3 (fun i hi => .inr (HNE2.out i hi))); obtain ⟨A3, c3, rfl⟩ := ho3.slice; have HO3 := Aside0.mk ho3; have HB3 := Aside0.mk BK3; have hz3 := HF3.out.size; clear ho3 BK3 hg3)) | ((refine appS_step w.heap.size ?zw (.tmp 28) (.tmp 33) rfl _ (([2, 7] ++ bytesOf ty) ++ [1]) dev rfl rfl ?zo ?zb ?zl ?_); (case zw => rfl); (case zo => exact HO3.out); (case zb => exact hz3); (case zl => have h4 := HT.out; simp only [List.length_append, lenBytes, List.length_cons, List.length_nil]; omega); intro v4 w4 ho4 hg4; have BK4 := blk_grown HB3.out hg4 (fun e => Nat.lt_irrefl _ (Nat.lt_of_lt_of_le hlt (own_ge HO3.out g e.symm))); have x14 := (blk_cell BK4 1).trans rfl; have HF4 := Aside0.mk (HF3.out.grown hg4 (fun i hi => .inr (own_ge HO3.out i hi))); obtain ⟨A4, c4, rfl⟩ := ho4.slice; have HO4 := Aside0.mk ho4; have HB4 := Aside0.mk BK4; clear ho4 BK4 hg4))
  go_wp2
  go_ret
  exact ⟨_, rfl, by simpa using HO4.out, HB4.out, HF4.out⟩

theorem asks_any (w : World) (g : Nat) (ty dev : ByteArray) (fs : Value) (st : Int) (d : ByteArray) (ag : Value) (h : EndB w g ty dev fs st d ag) (ht : ty.size ≤ 1000) (hdl : dev.size ≤ 1000) :
    Calls Tryd.prog 63 #[.pointer (some ⟨g, 0, none⟩)] w fun e w' => ∃ v, e = .returned v ∧ OwnB w' w.heap.size v (askedL ty dev) ∧ EndB w' g ty dev fs 1 (⟨#[]⟩ : ByteArray) (.slice none 0 0) ∧ Fr (only g) w w' := by
  unfold askedL
  cases hd : dev.toList.isEmpty with
  | true => exact (asks_bare w g ty dev fs st d ag h ht hd).mono fun e w' ⟨v, he, ho, hr⟩ => ⟨v, he, by simpa using ho, hr⟩
  | false => exact (asks_dev w g ty dev fs st d ag h ht hd hdl).mono fun e w' ⟨v, he, ho, hr⟩ => ⟨v, he, by simpa using ho, hr⟩
/-! ### Hear -/
def eqB (a b : List Int) : Bool := (Go.strOfNums a).toList == (Go.strOfNums b).toList
theorem equal_any (w : World) (A0 A1 : Option Addr) (n0 n1 c0 c1 : Nat) (l0 l1 : List Int) (hr0 : Kd.C (Kd.int .u8) w A0 n0 l0) (hc0 : n0 ≤ c0) (hr1 : Kd.C (Kd.int .u8) w A1 n1 l1) (hc1 : n1 ≤ c1) :
    Calls Tryd.prog 62 #[.slice A0 n0 c0, .slice A1 n1 c1] w fun e w' => e = .returned (.bool (eqB l0 l1)) ∧ ∃ m, w' = w.drewN m := by
  obtain rfl : l0.length = n0 := hr0.1
  obtain rfl : l1.length = n1 := hr1.1
  exact (bytes_Equal.calls A0 c0 l0 A1 c1 l1 _ w hr0 hc0 hr1 hc1 rfl).mono fun _ _ ⟨he, ⟨hw⟩⟩ => ⟨he, hw⟩

theorem hear_nil (w : World) (op : Int) (p : Value) :
    Calls Tryd.prog 20 #[.pointer none, .int .u8 op, p] w fun e w' => e = .returned (.tuple #[.slice none 0 0, .int .i64 5]) ∧ w = w' := by
  go_enter Tryd.func20, Tryd.ntmps20
  go_wp2
  go_ret2
  exact ⟨rfl, rfl⟩

theorem hear_asks (w : World) (g : Nat) (ty dev : ByteArray) (fs : Value) (st : Int) (d : ByteArray) (ag : Value) (h : EndB w g ty dev fs st d ag) (ht : ty.size ≤ 1000) (hdl : dev.size ≤ 1000)
    (A : Option Addr) (l : List Int) (n c : Nat) (hr : Kd.C (Kd.int .u8) w A n l) (hc : n ≤ c) (he : eqB l [8, 2] = true) (hst : st ≠ 4) :
    Calls Tryd.prog 20 #[.pointer (some ⟨g, 0, none⟩), .int .u8 40, .slice A n c] w fun e w' => ∃ v, e = .returned (.tuple #[v, .int .i64 0]) ∧ OwnB w' w.heap.size v (askedL ty dev) ∧ EndB w' g ty dev fs 1 (⟨#[]⟩ : ByteArray) (.slice none 0 0) ∧ Fr (only g) w w' := by
  have hb4 : (st == 4) = false := beq_eq_false_iff_ne.2 hst
  have hc3 : w.cell? ⟨g, 3, none⟩ = some (.int .i64 st) := blk_cell h 3
  have hlt : g < w.heap.size := blk_lt h
  have HE := Aside0.mk he
  have HR := Aside0.mk hr
  have HC := Aside0.mk hc
  have HT := Aside0.mk (And.intro ht hdl)
  have HB := Aside0.mk h
  clear he hr hc hst ht hdl h
  go_enter Tryd.func20, Tryd.ntmps20
  go_wp2_with (first | (go_at_call 62; go_must (refine (equal_any _ _ _ _ _ _ _ l [8, 2] (Kd.C_alloc HR.out _) HC.out (lit_C w [8, 2] (by simp)) (Nat.le_refl _)).mono ?_; rw [HE.out]; rintro e w1 ⟨rfl, m, rfl⟩)) | (go_at_call 63; go_must (refine (asks_any _ _ ty dev fs st d ag ?zz HT.out.1 HT.out.2).mono ?_; (case zz => exact blk_drewN (blk_alloc HB.out _) m); rintro e w1 ⟨v, rfl, ho, hb, hf⟩; obtain ⟨A1, c1, rfl⟩ := ho.slice; have HO := Aside0.mk (ho.lower (b' := w.heap.size) (by simp)); have HB1 := Aside0.mk hb; have HF := Aside0.mk (((Fr.refl (only g) w).alloc _).drewN m |>.then_ hf (fun i hi => .inl hi)); clear ho hb hf)))
  go_ret2
  exact ⟨_, rfl, HO.out, HB1.out, HF.out⟩

/-! ### awake -/
def tyA : ByteArray := ⟨#[73, 66, 77, 45, 51, 50, 55, 56, 45, 50, 45, 69]⟩
theorem awake_name : nego_Name.f 20 tyA = some true := by decide +kernel
theorem awake_dev : nego_Name.f 1 ⟨#[]⟩ = some false := by decide +kernel
theorem awake_rises : nego_rises.f 5 [2] = some true := by decide +kernel
theorem awake_said : Go.strOfNums (askedL tyA ⟨#[]⟩) = ⟨#[2, 7, 73, 66, 77, 45, 51, 50, 55, 56, 45, 50, 45, 69]⟩ := by decide +kernel
theorem emptyE : (⟨#[]⟩ : ByteArray).toList.isEmpty = true := by decide +kernel
theorem eq82 : eqB [8, 2] [8, 2] = true := by decide +kernel
theorem awake_any (w : World) : Calls Tryd.prog 18 #[] w fun e w' => e = .returned (.bool true) ∧ Below w.heap.size w w' := by
  go_enter Tryd.func18, Tryd.ntmps18
  go_wp2_with (first | (go_at_call 61; go_must (refine (new_ok _ tyA ⟨#[]⟩ _ [2] 1 20 1 5 false awake_name awake_dev (.inl emptyE) awake_rises (lit_C w [2] (by simp)) (by simp) (by simp)).mono ?_; rintro e w1 ⟨g, v, rfl, hE, hg, ho, hb⟩; have HE := Aside0.mk hE; have HB := Aside0.mk ((below_alloc (Below.refl w.heap.size w) (.cells #[.int .u8 2] 5)).trans (hb.mono (by simp))); have HG := Aside0.mk (show w.heap.size ≤ g by (have h1 := hg; simp at h1; omega)); clear hE hg ho hb)) | (go_at_call 20; go_must (refine (hear_asks _ g tyA ⟨#[]⟩ v 0 _ _ (blk_alloc HE.out _) (by decide) (by decide) _ [8, 2] 2 2 (lit_C w1 [8, 2] (by simp)) (Nat.le_refl _) eq82 (by decide)).mono ?_; rintro e w2 ⟨v2, rfl, ho2, hE2, hf2⟩; obtain ⟨A2, c2, rfl, hc2, hC2⟩ := ho2.reads; have hcv : (convert 33 9 (.slice A2 (askedL tyA ⟨#[]⟩).length c2)).run Tryd.prog w2 = .ok (.string ⟨#[2, 7, 73, 66, 77, 45, 51, 50, 55, 56, 45, 50, 45, 69]⟩) w2 := (Kd.C_string (P := Tryd.prog) Tryd.underlying33 Tryd.underlying5 Tryd.underlying9 hC2).trans (by rw [awake_said]); have HE2 := Aside0.mk hE2; have HF := Aside0.mk ((((Fr.of_below (S := nothing) HB.out).alloc _).then_ hf2 (fun i hi => .inr (by rw [show i = g from hi]; exact HG.out))).to_below (fun _ h => h.elim)); clear ho2 hE2 hf2 hc2 hC2)) | (go_at_call 26; go_must (refine (state_at _ _ _ _ _ _ _ _ HE2.out).mono ?_; rintro e w3 ⟨rfl, rfl⟩)))
  go_ret
  exact ⟨rfl, HF.out⟩
/-! ### the law: NegoRefused -/
theorem cut_f (l : List Int) (k : Nat) (hk : k ≤ 1000000) : vitrineref01_Cut.f l (k : Int) = some (l.take k) := by
  unfold vitrineref01_Cut.f vitrineref01_Copy.f
  by_cases h : (l.length : Int) > k
  · rw [if_pos h, if_pos (by omega), if_pos (by omega)]
    simp only [Option.bind_some, List.length_nil, List.nil_append, Int.toNat_natCast, Nat.zero_add]
    rw [if_pos (by rw [List.length_take]; omega)]
    rfl
  · rw [if_neg h]
    simp only [Option.bind_some, List.length_nil, List.nil_append, Nat.zero_add]
    rw [if_pos (by omega), List.take_of_length_le (by omega)]
    rfl
/-- At most so many bytes of a text. -/
def cutS (s : ByteArray) (k : Nat) : ByteArray := if (s.size : Int) > k then s.extract 0 k else s
theorem cutText_f (s : ByteArray) (k : Nat) : vitrineref01_CutText.f s (k : Int) = some (cutS s k) := by
  unfold vitrineref01_CutText.f cutS
  by_cases h : (s.size : Int) > k
  · rw [if_pos h, if_pos (by omega), if_pos (by omega), if_pos h, Int.toNat_natCast]
  · rw [if_neg h, if_neg h]
theorem cutS_size (s : ByteArray) (k : Nat) : (cutS s k).size ≤ k := by
  unfold cutS
  split
  · rw [ByteArray.size_extract]; omega
  · omega
namespace Inv
variable {w0 w w1 : World} {g : Nat} {ty dev : ByteArray} {fs : Value} {st st' : Int} {d d' : ByteArray} {ag ag' : Value}
end Inv
/-! ### plain: the functions of the law -/
theorem refName_l0 (s : ByteArray) (hs : s.size ≤ 4611686018427387904) (d : Nat) : ∀ (k i : Nat), i + d = s.size → d < k →
    vitrineref10_Name.l0 k s (i : Int) = some (((List.range' i d).all fun j => decide (33 ≤ bt s j) && decide (bt s j ≤ 126)) && (!s.toList.isEmpty && decide ((s.size : Int) ≤ 40))) := by
  induction d with
  | zero =>
    intro k i hi hk
    obtain ⟨k, rfl⟩ : ∃ m, k = m + 1 := ⟨k - 1, by omega⟩
    simp only [vitrineref10_Name.l0]
    rw [if_neg (by omega)]
    have hl : s.toList.isEmpty = decide (s.size = 0) := by
      have h2 : s.toList.length = s.size := by rw [ByteArray.toList_eq, Array.length_toList]; rfl
      cases h : s.toList with
      | nil => rw [h] at h2; simp at h2; simp [← h2]
      | cons x xs => rw [h, List.length_cons] at h2; exact (decide_eq_false (by omega)).symm
    rw [hl]
    by_cases h0 : (s.size : Int) ≥ 1
    · rw [if_pos h0]
      have : ¬ s.size = 0 := by omega
      simp [this]
    · rw [if_neg h0]
      have : s.size = 0 := by omega
      simp [this]
  | succ d ih =>
    intro k i hi hk
    obtain ⟨k, rfl⟩ : ∃ m, k = m + 1 := ⟨k - 1, by omega⟩
    simp only [vitrineref10_Name.l0]
    rw [if_pos (by omega), if_pos (by omega), List.range'_succ, List.all_cons]
    by_cases h1 : bt s i < 33
    · rw [if_pos h1, decide_eq_false (by omega)]; simp
    · rw [if_neg h1]
      by_cases h2 : bt s i > 126
      · rw [if_pos h2, decide_eq_true (by omega), decide_eq_false (by omega)]; simp
      · rw [if_neg h2, w64 (by omega) (by omega), decide_eq_true (by omega), decide_eq_true (by omega)]
        have := ih k (i + 1) (by omega) (by omega)
        rw [show ((i + 1 : Nat) : Int) = (i : Int) + 1 from by omega] at this
        rw [this]; simp
theorem refName_f (s : ByteArray) (hs : s.size ≤ 4611686018427387904) : vitrineref10_Name.f (s.size + 1) s = some (nameB s) := refName_l0 s hs s.size (s.size + 1) 0 (by omega) (by omega)
/-! ### plain: what both have -/
end Go.Proofs.YtclpkbgjaiacpaaDoor
