/- The levels of a text: plain. A range over a function whose iterator keeps its state in a cell that it has captured: the law, and topic.levels. topic.levels and its iterator. -/
import Derived.Lib.IndexMore
import Derived.Lib.IndexAny
import Derived.Test.YtaaaifeommdblaaDoorGlob
import Derived.RangeFuncNested
import Derived.RangeFuncBound
import Derived.RangeFuncCalls
import Derived.RangeFuncLeaves
import Derived.Shelf.Abstract
import Derived.Shelf.RegionOpen
import Derived.OwnWalkIn
import Derived.TacticsInMore
import Derived.LoopNIn
import Derived.LoopIn
namespace Go.Proofs.YtaaaifeommdblaaDoor

/-- What stands ahead of the first slash, what behind it, and is there one? -/
def cut47 : List UInt8 → List UInt8 × List UInt8 × Bool
  | [] => ([], [], false)
  | b :: l => if b = 47 then ([], l, true) else (b :: (cut47 l).1, (cut47 l).2.1, (cut47 l).2.2)

theorem index47 : ∀ l : List UInt8, Lib.index l [47] = if (cut47 l).2.2 then ((cut47 l).1.length : Int) else -1
  | [] => rfl
  | b :: l => by
    have ih := index47 l
    unfold Lib.index cut47
    by_cases hb : b = 47
    · subst hb; simp
    · have h1 : ([47] : List UInt8).isPrefixOf (b :: l) = false := by
        simp [List.isPrefixOf, Ne.symm hb]
      rw [h1, if_neg hb, ih]
      cases (cut47 l).2.2
      · simp
      · have hne : (((cut47 l).1.length : Int) == -1) = false := beq_eq_false_iff_ne.2 (by omega)
        simp [hne]

theorem cut47_parts : ∀ l : List UInt8, (if (cut47 l).2.2 then l = (cut47 l).1 ++ 47 :: (cut47 l).2.1 else l = (cut47 l).1 ∧ (cut47 l).2.1 = [])
  | [] => by simp [cut47]
  | b :: l => by
    have ih := cut47_parts l
    unfold cut47
    by_cases hb : b = 47
    · subst hb; simp
    · rw [if_neg hb]
      simp only
      cases h : (cut47 l).2.2
      · rw [h] at ih
        simp at ih ⊢
        exact ih
      · rw [h] at ih
        simp at ih ⊢
        exact ih

theorem cut_eq (l : List UInt8) : Lib.cut l [47] = cut47 l := by
  have h1 := index47 l
  have h2 := cut47_parts l
  unfold Lib.cut
  rw [h1]
  generalize cut47 l = d at *
  obtain ⟨a, m, f⟩ := d
  cases f
  · simp at h2 ⊢
    exact ⟨h2.1, h2.2⟩
  · simp at h2 ⊢
    rw [h2]
    simp

theorem cut47_lt (l : List UInt8) (h : (cut47 l).2.2 = true) : (cut47 l).2.1.length < l.length := by
  have := cut47_parts l
  rw [h] at this
  simp at this
  have h2 := congrArg List.length this
  simp at h2
  omega

/-- The levels of a text: what stands between its slashes. -/
def levels : List UInt8 → List (List UInt8)
  | [] => [[]]
  | b :: l => if b = 47 then [] :: levels l else
    match levels l with
    | [] => [[b]]
    | x :: r => (b :: x) :: r

theorem levels_cons (b : UInt8) (l : List UInt8) : levels (b :: l) = if b = 47 then [] :: levels l else
    match levels l with
    | [] => [[b]]
    | x :: r => (b :: x) :: r := rfl

theorem cut47_cons (b : UInt8) (l : List UInt8) : cut47 (b :: l) = if b = 47 then ([], l, true) else (b :: (cut47 l).1, (cut47 l).2.1, (cut47 l).2.2) := rfl

theorem levels_cut : ∀ l : List UInt8, levels l = if (cut47 l).2.2 then (cut47 l).1 :: levels (cut47 l).2.1 else [(cut47 l).1]
  | [] => rfl
  | b :: l => by
    have ih := levels_cut l
    rw [levels_cons, cut47_cons]
    by_cases hb : b = 47
    · simp only [if_pos hb]; rfl
    · simp only [if_neg hb]
      rw [ih]
      cases (cut47 l).2.2 <;> rfl

theorem levels_ne : ∀ l : List UInt8, levels l ≠ []
  | [] => by simp [levels]
  | b :: l => by
    rw [levels_cons]
    split
    · simp
    · split <;> simp

/-- Each level, and is it the last one? -/
def lasts {α : Type} : List α → List (α × Bool)
  | [] => []
  | [x] => [(x, true)]
  | x :: y :: r => (x, false) :: lasts (y :: r)

theorem lasts_cons {α : Type} (x : α) {r : List α} (h : r ≠ []) : lasts (x :: r) = (x, false) :: lasts r := by
  cases r with
  | nil => exact absurd rfl h
  | cons y r => rfl

/-- The levels as they are handed to a round. -/
def levs (l : List UInt8) : List (ByteArray × Bool) := lasts ((levels l).map fun x => (⟨x.toArray⟩ : ByteArray))

theorem levs_last (l : List UInt8) (h : (cut47 l).2.2 = false) : levs l = [(⟨(cut47 l).1.toArray⟩, true)] := by
  unfold levs
  rw [levels_cut, h]
  rfl

theorem levs_more (l : List UInt8) (h : (cut47 l).2.2 = true) : levs l = (⟨(cut47 l).1.toArray⟩, false) :: levs (cut47 l).2.1 := by
  unfold levs
  rw [levels_cut, h]
  simp only [if_true, List.map_cons]
  exact lasts_cons _ (by simp [levels_ne])

end Go.Proofs.YtaaaifeommdblaaDoor

namespace Go.Proofs.YtaaaifeommdblaaDoor
open Go.RowKit Go.Shelf
attribute [local go_sem] Oper.semAt_some

/-- What no cell holds lies as it lay. -/
def KeepsRest (W W' : World) : Prop := W.heap.size ≤ W'.heap.size ∧ ∀ (k : Nat) (o : Obj), W.heap[k]? = some o → o.isCells = false → W'.heap[k]? = some o

theorem KeepsRest.below {W W' : World} (h : Below W.heap.size W W') : KeepsRest W W' :=
  ⟨h.size, fun k _ hk _ => (h.block k (Array.getElem?_eq_some_iff.1 hk).1).trans hk⟩
theorem KeepsRest.trans {A B C : World} (h : KeepsRest A B) (k : KeepsRest B C) : KeepsRest A C :=
  ⟨Nat.le_trans h.1 k.1, fun i o hi ho => k.2 i o (h.2 i o hi ho) ho⟩
theorem KeepsRest.setCell (W : World) (p : Addr) (v : Value) : KeepsRest W (W.setCell p v) := by
  refine ⟨by simp [World.setCell], fun k o hk ho => ?_⟩
  by_cases e : k = p.block
  · subst e
    simp only [World.setCell, Array.getElem?_modify, if_true, hk, Option.map_some]
    cases o <;> first | rfl | (simp [Obj.isCells] at ho)
  · exact (Below.heap_setCell W p v k e).trans hk

/-- The contract of an iterator over the levels of a text, which stands in the cell of block b. -/
def LevSeq (gf b : Nat) (ls : List UInt8) (w : World) : Prop :=
  ∀ (l : Nat) (J Jx : List (ByteArray × Bool) → World → Prop) (W : World), Below w.heap.size w W →
    (∀ pre A n, J pre A → J pre (A.drewN n)) → (∀ pre A v, J pre A → J pre (A.setCell ⟨b, 0, none⟩ v)) → (∀ pre A, J pre A → Glob A) →
    (∀ pre x W1, pre ++ [x] <+: levs ls → J pre W1 → YieldAt Fence.wide 1 Tryd.prog l #[.string x.1, .bool x.2] W1 fun e W' =>
      (e = .returned (.bool true) ∧ J (pre ++ [x]) W' ∧ W'.heap[b]? = W1.heap[b]?) ∨ (e = .returned (.bool false) ∧ Jx (pre ++ [x]) W')) →
    J [] W →
    CallsIn Fence.wide 2 Tryd.prog gf (#[.func (.yield l) #[] #[]] ++ #[.pointer (some ⟨b, 0, none⟩)]) W fun e W' => (∃ v, e = .returned v) ∧ (J (levs ls) W' ∨ ∃ pre, pre <+: levs ls ∧ Jx pre W')

/-- How the body of a round may be left. -/
def levPost (b : Nat) (I : List (ByteArray × Bool) → World → Prop) (Ix : Code → List (ByteArray × Bool) → World → Prop) (xs : List (ByteArray × Bool)) (W : World) : Exit → Act → World → Prop
  | .normal, _, W' => KeepsRest W W' ∧ W'.heap[b]? = W.heap[b]? ∧ I xs W'
  | .ret, _, W' => KeepsRest W W' ∧ Ix .ret xs W'
  | .exit id, _, W' => KeepsRest W W' ∧ Ix (.exit id) xs W'
  | .goto t, _, W' => KeepsRest W W' ∧ Ix (.goto t) xs W'
  | .panic _, _, _ => False
  | .outgrown, _, _ => False

/-- **for level, last := range levels(s) { .. }** -/
theorem range_levels {g : Operand} {ps : Array Tmp} {assign body : Code} {Q : Exit → Act → World → Prop} {a : Act} {w : World}
    {gf b : Nat} {ls : List UInt8} (hg : a.eval g = .func (.func gf) #[] #[.pointer (some ⟨b, 0, none⟩)]) (eg : ∀ args w, (callFunc gf args).run Tryd.prog w = .ok (.enter gf args) w)
    (hseq : LevSeq gf b ls w) (hbw : b < w.heap.size) (hps : ps.size = 2)
    (I : List (ByteArray × Bool) → World → Prop) (Ix : Code → List (ByteArray × Bool) → World → Prop)
    (hIg : ∀ pre A, I pre A → Glob A) (hId : ∀ pre A n, I pre A → I pre (A.drewN n)) (hIs : ∀ pre A v, I pre A → I pre (A.setCell ⟨b, 0, none⟩ v))
    (hIp : ∀ pre A k o o', I pre A → w.heap.size ≤ k → A.heap[k]? = some o → o.isCells = false → I pre (A.putObj k o'))
    (hXp : ∀ c pre A k o o', Ix c pre A → w.heap.size ≤ k → A.heap[k]? = some o → o.isCells = false → Ix c pre (A.putObj k o'))
    (hIa : ∀ A o, I [] A → I [] (A.alloc o)) (h0 : I [] w) (a₁ : ByteArray × Bool → Act)
    (hassign : ∀ (l : Nat) (x : ByteArray × Bool) (W : World) (K : Act → World → Prop), K (a₁ x) W →
      assign.wpIn (Fence.wide.inRound l) 1 Tryd.prog (Exit.then K (fun _ _ _ => False)) { tmps := (ps.zip #[.string x.1, .bool x.2]).foldl (fun t (p, v) => t.setIfInBounds p v) a.tmps, defers := [] } W)
    (hbody : ∀ (l : Nat) (pre : List (ByteArray × Bool)) (x : ByteArray × Bool) (W : World), pre ++ [x] <+: levs ls → I pre W → b < W.heap.size → body.wpIn (Fence.wide.inRound l) 1 Tryd.prog (levPost b I Ix (pre ++ [x]) W) (a₁ x) W)
    (hdone : ∀ (D : Nat) (W : World), I (levs ls) W → w.heap.size ≤ D → W.heap[D]? = some (.deferred (some [])) → Q .normal { a with defers := { target := .collected D, args := #[] } :: a.defers } W)
    (hstop : ∀ (D : Nat) (c : Code) (pre : List (ByteArray × Bool)) (W : World), pre <+: levs ls → Ix c pre W → w.heap.size ≤ D → W.heap[D]? = some (.deferred (some [])) → c.wpIn Fence.wide 3 Tryd.prog Q { a with defers := { target := .collected D, args := #[] } :: a.defers } W) :
    (Code.rangeFunc g ps assign body).wpIn Fence.wide 3 Tryd.prog Q a w := by
  refine wpIn_rangeFunc ?_
  intro fn hfn
  rw [show Fence.wide.round = none from rfl]
  obtain ⟨rec, hrec⟩ : ∃ rec : LoopState → Option Code → Loop, rec = fun st pe => { state := st, pending := pe, fn, tmps := a.tmps, params := ps, assign, body, defers := w.heap.size } := ⟨_, rfl⟩
  obtain ⟨W1, hW1⟩ : ∃ W1, (w.alloc (.deferred (some []))).alloc (.loop (rec .ready none)) = W1 := ⟨_, rfl⟩
  have hL1 : W1.heap[w.heap.size + 1]? = some (.loop (rec .ready none)) := by
    rw [← hW1]; have := heap_new (w.alloc (.deferred (some []))) (.loop (rec .ready none)); rwa [World.size_alloc] at this
  have hK1 : W1.heap[w.heap.size]? = some (.deferred (some [])) := by
    rw [← hW1]; exact (Below.heap_alloc _ _ _ (by simp)).trans (heap_new w _)
  have hI1 : I [] W1 := by rw [← hW1]; exact hIa _ _ (hIa _ _ h0)
  have hb1 : Below w.heap.size w W1 := by
    rw [← hW1]; exact ((Below.refl _ w).alloc (Nat.le_refl _) _).alloc (by simp) _
  refine ⟨w.heap.size + 1, [{ target := .collected w.heap.size, args := #[] }], W1, { target := .fn (.func gf) #[.pointer (some ⟨b, 0, none⟩)], args := #[.func (.yield (w.heap.size + 1)) #[] #[]] }, W1, gf,
    #[.func (.yield (w.heap.size + 1)) #[] #[]] ++ #[.pointer (some ⟨b, 0, none⟩)], W1, ?_, ?_, fun _ _ => trivial, ?_, fun _ => by omega, ?_⟩
  · rw [← hW1, hrec]; exact run_enterLoop_outer _ _ _ _ _
  · simp only [resolve, hg]
    simp [go_sem]
  · simp [invoke, go_sem, eg]
  · have put : ∀ (A : World) (k : Nat) (o' : Obj), A.putObj k o' = A.putObj k o' := fun _ _ _ => rfl
    have other : ∀ (A : World) (k : Nat) (o : Obj), k ≠ b → A.heap[k]? = some o → o.isCells = false → ∀ v, (A.setCell ⟨b, 0, none⟩ v).heap[k]? = some o := fun A k o _ hk ho v => (KeepsRest.setCell A _ v).2 k o hk ho
    refine (hseq (w.heap.size + 1)
      (fun pre W => I pre W ∧ W.heap[w.heap.size + 1]? = some (.loop (rec .ready none)) ∧ W.heap[w.heap.size]? = some (.deferred (some [])))
      (fun pre W => ∃ c, Ix c pre W ∧ W.heap[w.heap.size + 1]? = some (.loop (rec .done (some c))) ∧ W.heap[w.heap.size]? = some (.deferred (some [])))
      W1 hb1 (fun pre A n h => ⟨hId _ _ _ h.1, h.2.1, h.2.2⟩)
      (fun pre A v h => ⟨hIs _ _ _ h.1, other A _ _ (by omega) h.2.1 rfl v, other A _ _ (by omega) h.2.2 rfl v⟩)
      (fun pre A h => hIg _ _ h.1) ?_ ⟨hI1, hL1, hK1⟩).mono ?_
    · -- one round
      rintro pre x W hpx ⟨hi, hl, hk⟩
      have hlt : w.heap.size + 1 < W.heap.size := (Array.getElem?_eq_some_iff.1 hl).1
      have hy := run_yield (P := Tryd.prog) (args := #[.string x.1, .bool x.2]) hl (by rw [hrec]; exact hps.symm)
      rw [hrec] at hy
      refine ⟨fn, _, assign, body, hy, roundIn_of_wpIn hfn (hassign _ x W _ ⟨_, run_beginRound hl (by rw [hrec]), ?_⟩)⟩
      obtain ⟨W2, hW2⟩ : ∃ W2, W.putObj (w.heap.size + 1) (.loop { rec .ready none with state := .busy }) = W2 := ⟨_, rfl⟩
      have hl2 : W2.heap[w.heap.size + 1]? = some (.loop { rec .ready none with state := .busy }) := by rw [← hW2]; exact World.putObj_heap_same hlt
      have hk2 : W2.heap[w.heap.size]? = some (.deferred (some [])) := by rw [← hW2]; exact (World.putObj_heap_other (by omega)).trans hk
      have hb2 : W2.heap[b]? = W.heap[b]? := by rw [← hW2]; exact World.putObj_heap_other (by omega)
      have hi2 : I pre W2 := by rw [← hW2]; exact hIp _ _ _ _ _ hi (by omega) hl rfl
      have hs2 : b < W2.heap.size := by
        have := (Array.getElem?_eq_some_iff.1 hl2).1; omega
      rw [hW2]
      refine wpIn_mono (hbody _ pre x W2 hpx hi2 hs2) ?_
      have fin : ∀ (jump : Option Code) (W3 : World), KeepsRest W2 W3 →
          (Instr.endRound (w.heap.size + 1) jump).run Tryd.prog W3 = .ok (.bool jump.isNone) (W3.putObj (w.heap.size + 1) (.loop (rec (if jump.isNone then .ready else .done) jump))) ∧
          W3.heap[w.heap.size + 1]? = some (.loop { rec .ready none with state := .busy }) ∧
          (W3.putObj (w.heap.size + 1) (.loop (rec (if jump.isNone then .ready else .done) jump))).heap[w.heap.size + 1]? = some (.loop (rec (if jump.isNone then .ready else .done) jump)) ∧
          (W3.putObj (w.heap.size + 1) (.loop (rec (if jump.isNone then .ready else .done) jump))).heap[w.heap.size]? = some (.deferred (some [])) := fun jump W3 hk3 => by
        have hl3 := hk3.2 _ _ hl2 rfl
        have := run_endRound (P := Tryd.prog) jump hl3
        rw [hrec] at this ⊢
        exact ⟨this, by rw [hrec] at hl3; exact hl3, World.putObj_heap_same (Array.getElem?_eq_some_iff.1 hl3).1, (World.putObj_heap_other (by omega)).trans (hk3.2 _ _ hk2 rfl)⟩
      rintro e a3 W3 hp
      cases e with
      | normal =>
        obtain ⟨hk3, hkp3, hi3⟩ := hp
        obtain ⟨hr, hl3, hl4, hk4⟩ := fin none W3 hk3
        exact ⟨_, _, hr, .inl ⟨rfl, ⟨hIp _ _ _ _ _ hi3 (by omega) hl3 rfl, hl4, hk4⟩, (World.putObj_heap_other (by omega)).trans (hkp3.trans hb2)⟩⟩
      | ret =>
        obtain ⟨hk3, hi3⟩ := hp
        obtain ⟨hr, hl3, hl4, hk4⟩ := fin (some .ret) W3 hk3
        exact ⟨_, _, hr, .inr ⟨rfl, .ret, hXp _ _ _ _ _ _ hi3 (by omega) hl3 rfl, hl4, hk4⟩⟩
      | exit id =>
        obtain ⟨hk3, hi3⟩ := hp
        obtain ⟨hr, hl3, hl4, hk4⟩ := fin (some (.exit id)) W3 hk3
        exact ⟨_, _, hr, .inr ⟨rfl, .exit id, hXp _ _ _ _ _ _ hi3 (by omega) hl3 rfl, hl4, hk4⟩⟩
      | goto t =>
        obtain ⟨hk3, hi3⟩ := hp
        obtain ⟨hr, hl3, hl4, hk4⟩ := fin (some (.goto t)) W3 hk3
        exact ⟨_, _, hr, .inr ⟨rfl, .goto t, hXp _ _ _ _ _ _ hi3 (by omega) hl3 rfl, hl4, hk4⟩⟩
      | panic ch => exact hp.elim
      | outgrown => exact hp.elim
    · rintro e W2 ⟨⟨v, rfl⟩, (⟨hi, hl, hk⟩ | ⟨pre, hSp, c, hi, hl, hk⟩)⟩
      · exact ⟨none, _, by have := run_endLoop (P := Tryd.prog) hl (by rw [hrec]; simp); rw [hrec] at this; exact this, hdone _ _ (hIp _ _ _ _ _ hi (by omega) hl rfl) (Nat.le_refl _) ((World.putObj_heap_other (by omega)).trans hk)⟩
      · exact ⟨some c, _, by have := run_endLoop (P := Tryd.prog) hl (by rw [hrec]; simp); rw [hrec] at this; exact this, hstop _ c pre _ hSp (hXp _ _ _ _ _ _ hi (by omega) hl rfl) (Nat.le_refl _) ((World.putObj_heap_other (by omega)).trans hk)⟩

end Go.Proofs.YtaaaifeommdblaaDoor

namespace Go.Proofs.YtaaaifeommdblaaDoor
open Go.RowKit Go.Shelf
attribute [local go_sem] Oper.semAt_some

def strLen (w : World) (b : Nat) : Nat := match w.cell? ⟨b, 0, none⟩ with | some (.string t) => t.size | _ => 0
theorem strLen_eq {w : World} {b : Nat} {t : ByteArray} (h : w.cell? ⟨b, 0, none⟩ = some (.string t)) : strLen w b = t.size := by
  unfold strLen; rw [h]

set_option maxHeartbeats 1000000 in
set_option maxRecDepth 100000 in
theorem levels_seq (b : Nat) (ls : List UInt8) (w : World) (hls : ls.length < 4294967281) (hb : b < w.heap.size) (hc : w.cell? ⟨b, 0, none⟩ = some (.string ⟨ls.toArray⟩)) (hf : w.frozen? ⟨b, 0, none⟩ = false) :
    LevSeq 72 b ls w := by
  intro l J Jx W hW hJd hJs hJg hY h0
  have HJd := Lib.hid hJd; have HJs := Lib.hid hJs; have HJg := Lib.hid hJg; have HY := Lib.hid hY
  clear hJd hJs hJg hY
  obtain ⟨hcW, hfW⟩ := bcell hW
  have hc' := (hcW b 0 hb).trans hc
  have hf' := (hfW b 0 hb).trans hf
  clear hcW hfW
  refine callsIn_of_wp Tryd.func72 rfl trivial ?_ rfl
  simp only [Tryd.ntmps72, List.size_toArray, List.length_cons, List.length_nil, Nat.reduceAdd, Nat.reduceSub, Array.replicate_succ, Array.replicate_zero, List.push_toArray, List.append_toArray, List.nil_append, List.cons_append]
  gi_wp2
  gi_loopw [3, 4, 5] (fun _ _ _ wr => ∃ (pre : List (ByteArray × Bool)) (t : List UInt8), levs ls = pre ++ levs t ∧ t.length ≤ ls.length ∧ wr.cell? ⟨b, 0, none⟩ = some (.string ⟨t.toArray⟩) ∧ wr.frozen? ⟨b, 0, none⟩ = false ∧ J pre wr)
    (fun _ _ _ wr => strLen wr b)
  case atStart => exact ⟨[], ls, rfl, Nat.le_refl _, hc', hf', h0⟩
  case round =>
    obtain ⟨pre, t, hpre, hlen, hct, hft, hJ⟩ := hrel
    obtain ⟨m, hm⟩ := (HJg.out _ _ hJ).maxl
    have hcut := Tryd.strings_Cut ⟨t.toArray⟩ ⟨#[47]⟩ m wr (by show t.toArray.size < _; simp; omega) hm
    simp only at hcut
    rw [cut_eq] at hcut
    have hlt := cut47_lt t
    have hl1 := levs_last t
    have hl2 := levs_more t
    generalize cut47 t = d at *
    obtain ⟨x, y, f⟩ := d
    simp only at *
    have HC := Lib.hid hcut; clear hcut
    have HL := Lib.hid hlt; have HP := Lib.hid hpre; have H1 := Lib.hid hl1; have H2 := Lib.hid hl2; clear hlt hpre hl1 hl2 hm
    cases f
    · have e1 : levs t = [(⟨x.toArray⟩, true)] := H1.out rfl
      have hpre : levs ls = pre ++ [(⟨x.toArray⟩, true)] := by rw [HP.out, e1]
      have HPx : Hid (pre ++ [((⟨x.toArray⟩ : ByteArray), true)] <+: levs ls) := Lib.hid (by rw [hpre]; exact List.prefix_refl _)
      have HP := Lib.hid hpre; clear hpre e1
      gi_wp2_with (refine ⟨trivial, ?_⟩; gi_at_call 55; refine (callsIn_wide.2 HC.out).mono ?_; rintro e w' ⟨rfl, n, rfl⟩; obtain ⟨fn, tmps, assign, body, hy, hR⟩ := HY.out pre (⟨x.toArray⟩, true) _ HPx.out (HJd.out _ _ n hJ))
      refine hR.mono ?_
      rintro e W3 (⟨rfl, hJ3, hk3⟩ | ⟨rfl, hJx3⟩)
      · gi_wp2
        refine bodyPost_ret (results_none rfl _ _ _) rfl ?_
        exact ⟨⟨_, rfl⟩, .inl (by rw [HP.out]; exact hJ3)⟩
      · gi_wp2
        refine bodyPost_ret (results_none rfl _ _ _) rfl ?_
        exact ⟨⟨_, rfl⟩, .inr ⟨_, by rw [HP.out]; exact List.prefix_refl _, hJx3⟩⟩
    · have e1 : levs t = (⟨x.toArray⟩, false) :: levs y := H2.out rfl
      have hpre : levs ls = (pre ++ [(⟨x.toArray⟩, false)]) ++ levs y := by rw [HP.out, e1]; simp
      have hyt : y.length < t.length := HL.out rfl
      have HPx : Hid (pre ++ [((⟨x.toArray⟩ : ByteArray), false)] <+: levs ls) := Lib.hid (by rw [hpre]; exact List.prefix_append _ _)
      have HP := Lib.hid hpre; clear hpre e1
      gi_wp2_with (refine ⟨trivial, ?_⟩; gi_at_call 55; refine (callsIn_wide.2 HC.out).mono ?_; rintro e w' ⟨rfl, n, rfl⟩; obtain ⟨fn, tmps, assign, body, hy, hR⟩ := HY.out pre (⟨x.toArray⟩, false) _ HPx.out (HJd.out _ _ n hJ))
      refine hR.mono ?_
      rintro e W3 (⟨rfl, hJ3, hk3⟩ | ⟨rfl, hJx3⟩)
      · have hc3 : W3.cell? ⟨b, 0, none⟩ = some (.string ⟨t.toArray⟩) := (cell_congr (a := ⟨b, 0, none⟩) hk3).trans hct
        have hf3 : W3.frozen? ⟨b, 0, none⟩ = false := (frozen_congr (a := ⟨b, 0, none⟩) hk3).trans hft
        have hJ4 := HJs.out _ _ (.string ⟨y.toArray⟩) hJ3
        clear hk3
        gi_wp2
        go_roundw
        case rel => exact ⟨pre ++ [(⟨x.toArray⟩, false)], y, HP.out, by omega, World.cell?_setCell_same' _ _ _ (by rw [hc3]; rfl), by rw [World.frozen?_setCell]; exact hf3, hJ4⟩
        case measure =>
          rw [strLen_eq hct, strLen_eq (World.cell?_setCell_same' _ _ _ (by rw [hc3]; rfl))]
          show y.toArray.size < t.toArray.size
          simp; exact hyt
      · gi_wp2
        refine bodyPost_ret (results_none rfl _ _ _) rfl ?_
        exact ⟨⟨_, rfl⟩, .inr ⟨_, by rw [HP.out]; exact List.prefix_append _ _, hJx3⟩⟩

theorem levels_walk (s : ByteArray) (w : World) : Calls Tryd.prog 53 #[.string s] w fun e w' =>
    e = .returned (.func (.func 72) #[] #[.pointer (some ⟨w.heap.size, 0, none⟩)]) ∧ w.alloc (.cells #[.string s] 9) = w' := by
  have hmf : ∀ (fn : Fn) (first cap : Array Value) (w : World), (Instr.makeFunc fn first cap).run Tryd.prog w = .ok (.func fn first cap) w := fun _ _ _ _ => rfl
  go_enter Tryd.func53, Tryd.ntmps53
  go_wp2
  go_ret
  exact ⟨rfl, rfl⟩

end Go.Proofs.YtaaaifeommdblaaDoor
