/- A range over a function whose iterator keeps its state in a cell that it has captured: the law, and topic.levels. -/
import Derived.Test.YtaaaifeommdblaaDoorGlob
import Derived.Test.YtaaaifeommdblaaDoorLev
import Derived.RangeFuncNested
import Derived.RangeFuncBound
import Derived.RangeFuncCalls
import Derived.RangeFuncLeaves
import Derived.Shelf.Abstract
import Derived.Shelf.RegionOpen
import Derived.OwnWalkIn
import Derived.TacticsInMore
import Derived.LoopNIn
import Derived.LoopIn
namespace Go.Proofs.YtaaaifeommdblaaDoor
open Go.RowKit Go.Shelf
attribute [local go_sem] Oper.semAt_some

/-- What no cell holds lies as it lay. -/
def KeepsRest (W W' : World) : Prop := W.heap.size ≤ W'.heap.size ∧ ∀ (k : Nat) (o : Obj), W.heap[k]? = some o → o.isCells = false → W'.heap[k]? = some o

theorem KeepsRest.below {W W' : World} (h : Below W.heap.size W W') : KeepsRest W W' :=
  ⟨h.size, fun k _ hk _ => (h.block k (Array.getElem?_eq_some_iff.1 hk).1).trans hk⟩
theorem KeepsRest.trans {A B C : World} (h : KeepsRest A B) (k : KeepsRest B C) : KeepsRest A C :=
  ⟨Nat.le_trans h.1 k.1, fun i o hi ho => k.2 i o (h.2 i o hi ho) ho⟩
theorem KeepsRest.setCell (W : World) (p : Addr) (v : Value) : KeepsRest W (W.setCell p v) := by
  refine ⟨by simp [World.setCell], fun k o hk ho => ?_⟩
  by_cases e : k = p.block
  · subst e
    simp only [World.setCell, Array.getElem?_modify, if_true, hk, Option.map_some]
    cases o <;> first | rfl | (simp [Obj.isCells] at ho)
  · exact (Below.heap_setCell W p v k e).trans hk

/-- The contract of an iterator over the levels of a text, which stands in the cell of block b. -/
def LevSeq (gf b : Nat) (ls : List UInt8) (w : World) : Prop :=
  ∀ (l : Nat) (J Jx : List (ByteArray × Bool) → World → Prop) (W : World), Below w.heap.size w W →
    (∀ pre A n, J pre A → J pre (A.drewN n)) → (∀ pre A v, J pre A → J pre (A.setCell ⟨b, 0, none⟩ v)) → (∀ pre A, J pre A → Glob A) →
    (∀ pre x W1, pre ++ [x] <+: levs ls → J pre W1 → YieldAt Fence.wide 1 Tryd.prog l #[.string x.1, .bool x.2] W1 fun e W' =>
      (e = .returned (.bool true) ∧ J (pre ++ [x]) W' ∧ W'.heap[b]? = W1.heap[b]?) ∨ (e = .returned (.bool false) ∧ Jx (pre ++ [x]) W')) →
    J [] W →
    CallsIn Fence.wide 2 Tryd.prog gf (#[.func (.yield l) #[] #[]] ++ #[.pointer (some ⟨b, 0, none⟩)]) W fun e W' => (∃ v, e = .returned v) ∧ (J (levs ls) W' ∨ ∃ pre, pre <+: levs ls ∧ Jx pre W')

/-- How the body of a round may be left. -/
def levPost (b : Nat) (I : List (ByteArray × Bool) → World → Prop) (Ix : Code → List (ByteArray × Bool) → World → Prop) (xs : List (ByteArray × Bool)) (W : World) : Exit → Act → World → Prop
  | .normal, _, W' => KeepsRest W W' ∧ W'.heap[b]? = W.heap[b]? ∧ I xs W'
  | .ret, _, W' => KeepsRest W W' ∧ Ix .ret xs W'
  | .exit id, _, W' => KeepsRest W W' ∧ Ix (.exit id) xs W'
  | .goto t, _, W' => KeepsRest W W' ∧ Ix (.goto t) xs W'
  | .panic _, _, _ => False
  | .outgrown, _, _ => False

/-- **for level, last := range levels(s) { .. }** -/
theorem range_levels {g : Operand} {ps : Array Tmp} {assign body : Code} {Q : Exit → Act → World → Prop} {a : Act} {w : World}
    {gf b : Nat} {ls : List UInt8} (hg : a.eval g = .func (.func gf) #[] #[.pointer (some ⟨b, 0, none⟩)]) (eg : ∀ args w, (callFunc gf args).run Tryd.prog w = .ok (.enter gf args) w)
    (hseq : LevSeq gf b ls w) (hbw : b < w.heap.size) (hps : ps.size = 2)
    (I : List (ByteArray × Bool) → World → Prop) (Ix : Code → List (ByteArray × Bool) → World → Prop)
    (hIg : ∀ pre A, I pre A → Glob A) (hId : ∀ pre A n, I pre A → I pre (A.drewN n)) (hIs : ∀ pre A v, I pre A → I pre (A.setCell ⟨b, 0, none⟩ v))
    (hIp : ∀ pre A k o o', I pre A → w.heap.size ≤ k → A.heap[k]? = some o → o.isCells = false → I pre (A.putObj k o'))
    (hXp : ∀ c pre A k o o', Ix c pre A → w.heap.size ≤ k → A.heap[k]? = some o → o.isCells = false → Ix c pre (A.putObj k o'))
    (hIa : ∀ A o, I [] A → I [] (A.alloc o)) (h0 : I [] w) (a₁ : ByteArray × Bool → Act)
    (hassign : ∀ (l : Nat) (x : ByteArray × Bool) (W : World) (K : Act → World → Prop), K (a₁ x) W →
      assign.wpIn (Fence.wide.inRound l) 1 Tryd.prog (Exit.then K (fun _ _ _ => False)) { tmps := (ps.zip #[.string x.1, .bool x.2]).foldl (fun t (p, v) => t.setIfInBounds p v) a.tmps, defers := [] } W)
    (hbody : ∀ (l : Nat) (pre : List (ByteArray × Bool)) (x : ByteArray × Bool) (W : World), pre ++ [x] <+: levs ls → I pre W → b < W.heap.size → body.wpIn (Fence.wide.inRound l) 1 Tryd.prog (levPost b I Ix (pre ++ [x]) W) (a₁ x) W)
    (hdone : ∀ (D : Nat) (W : World), I (levs ls) W → w.heap.size ≤ D → W.heap[D]? = some (.deferred (some [])) → Q .normal { a with defers := { target := .collected D, args := #[] } :: a.defers } W)
    (hstop : ∀ (D : Nat) (c : Code) (pre : List (ByteArray × Bool)) (W : World), pre <+: levs ls → Ix c pre W → w.heap.size ≤ D → W.heap[D]? = some (.deferred (some [])) → c.wpIn Fence.wide 3 Tryd.prog Q { a with defers := { target := .collected D, args := #[] } :: a.defers } W) :
    (Code.rangeFunc g ps assign body).wpIn Fence.wide 3 Tryd.prog Q a w := by
  refine wpIn_rangeFunc ?_
  intro fn hfn
  rw [show Fence.wide.round = none from rfl]
  obtain ⟨rec, hrec⟩ : ∃ rec : LoopState → Option Code → Loop, rec = fun st pe => { state := st, pending := pe, fn, tmps := a.tmps, params := ps, assign, body, defers := w.heap.size } := ⟨_, rfl⟩
  obtain ⟨W1, hW1⟩ : ∃ W1, (w.alloc (.deferred (some []))).alloc (.loop (rec .ready none)) = W1 := ⟨_, rfl⟩
  have hL1 : W1.heap[w.heap.size + 1]? = some (.loop (rec .ready none)) := by
    rw [← hW1]; have := heap_new (w.alloc (.deferred (some []))) (.loop (rec .ready none)); rwa [World.size_alloc] at this
  have hK1 : W1.heap[w.heap.size]? = some (.deferred (some [])) := by
    rw [← hW1]; exact (Below.heap_alloc _ _ _ (by simp)).trans (heap_new w _)
  have hI1 : I [] W1 := by rw [← hW1]; exact hIa _ _ (hIa _ _ h0)
  have hb1 : Below w.heap.size w W1 := by
    rw [← hW1]; exact ((Below.refl _ w).alloc (Nat.le_refl _) _).alloc (by simp) _
  refine ⟨w.heap.size + 1, [{ target := .collected w.heap.size, args := #[] }], W1, { target := .fn (.func gf) #[.pointer (some ⟨b, 0, none⟩)], args := #[.func (.yield (w.heap.size + 1)) #[] #[]] }, W1, gf,
    #[.func (.yield (w.heap.size + 1)) #[] #[]] ++ #[.pointer (some ⟨b, 0, none⟩)], W1, ?_, ?_, fun _ _ => trivial, ?_, fun _ => by omega, ?_⟩
  · rw [← hW1, hrec]; exact run_enterLoop_outer _ _ _ _ _
  · simp only [resolve, hg]
    simp [go_sem]
  · simp [invoke, go_sem, eg]
  · have put : ∀ (A : World) (k : Nat) (o' : Obj), A.putObj k o' = A.putObj k o' := fun _ _ _ => rfl
    have other : ∀ (A : World) (k : Nat) (o : Obj), k ≠ b → A.heap[k]? = some o → o.isCells = false → ∀ v, (A.setCell ⟨b, 0, none⟩ v).heap[k]? = some o := fun A k o _ hk ho v => (KeepsRest.setCell A _ v).2 k o hk ho
    refine (hseq (w.heap.size + 1)
      (fun pre W => I pre W ∧ W.heap[w.heap.size + 1]? = some (.loop (rec .ready none)) ∧ W.heap[w.heap.size]? = some (.deferred (some [])))
      (fun pre W => ∃ c, Ix c pre W ∧ W.heap[w.heap.size + 1]? = some (.loop (rec .done (some c))) ∧ W.heap[w.heap.size]? = some (.deferred (some [])))
      W1 hb1 (fun pre A n h => ⟨hId _ _ _ h.1, h.2.1, h.2.2⟩)
      (fun pre A v h => ⟨hIs _ _ _ h.1, other A _ _ (by omega) h.2.1 rfl v, other A _ _ (by omega) h.2.2 rfl v⟩)
      (fun pre A h => hIg _ _ h.1) ?_ ⟨hI1, hL1, hK1⟩).mono ?_
    · -- one round
      rintro pre x W hpx ⟨hi, hl, hk⟩
      have hlt : w.heap.size + 1 < W.heap.size := (Array.getElem?_eq_some_iff.1 hl).1
      have hy := run_yield (P := Tryd.prog) (args := #[.string x.1, .bool x.2]) hl (by rw [hrec]; exact hps.symm)
      rw [hrec] at hy
      refine ⟨fn, _, assign, body, hy, roundIn_of_wpIn hfn (hassign _ x W _ ⟨_, run_beginRound hl (by rw [hrec]), ?_⟩)⟩
      obtain ⟨W2, hW2⟩ : ∃ W2, W.putObj (w.heap.size + 1) (.loop { rec .ready none with state := .busy }) = W2 := ⟨_, rfl⟩
      have hl2 : W2.heap[w.heap.size + 1]? = some (.loop { rec .ready none with state := .busy }) := by rw [← hW2]; exact World.putObj_heap_same hlt
      have hk2 : W2.heap[w.heap.size]? = some (.deferred (some [])) := by rw [← hW2]; exact (World.putObj_heap_other (by omega)).trans hk
      have hb2 : W2.heap[b]? = W.heap[b]? := by rw [← hW2]; exact World.putObj_heap_other (by omega)
      have hi2 : I pre W2 := by rw [← hW2]; exact hIp _ _ _ _ _ hi (by omega) hl rfl
      have hs2 : b < W2.heap.size := by
        have := (Array.getElem?_eq_some_iff.1 hl2).1; omega
      rw [hW2]
      refine wpIn_mono (hbody _ pre x W2 hpx hi2 hs2) ?_
      have fin : ∀ (jump : Option Code) (W3 : World), KeepsRest W2 W3 →
          (Instr.endRound (w.heap.size + 1) jump).run Tryd.prog W3 = .ok (.bool jump.isNone) (W3.putObj (w.heap.size + 1) (.loop (rec (if jump.isNone then .ready else .done) jump))) ∧
          W3.heap[w.heap.size + 1]? = some (.loop { rec .ready none with state := .busy }) ∧
          (W3.putObj (w.heap.size + 1) (.loop (rec (if jump.isNone then .ready else .done) jump))).heap[w.heap.size + 1]? = some (.loop (rec (if jump.isNone then .ready else .done) jump)) ∧
          (W3.putObj (w.heap.size + 1) (.loop (rec (if jump.isNone then .ready else .done) jump))).heap[w.heap.size]? = some (.deferred (some [])) := fun jump W3 hk3 => by
        have hl3 := hk3.2 _ _ hl2 rfl
        have := run_endRound (P := Tryd.prog) jump hl3
        rw [hrec] at this ⊢
        exact ⟨this, by rw [hrec] at hl3; exact hl3, World.putObj_heap_same (Array.getElem?_eq_some_iff.1 hl3).1, (World.putObj_heap_other (by omega)).trans (hk3.2 _ _ hk2 rfl)⟩
      rintro e a3 W3 hp
      cases e with
      | normal =>
        obtain ⟨hk3, hkp3, hi3⟩ := hp
        obtain ⟨hr, hl3, hl4, hk4⟩ := fin none W3 hk3
        exact ⟨_, _, hr, .inl ⟨rfl, ⟨hIp _ _ _ _ _ hi3 (by omega) hl3 rfl, hl4, hk4⟩, (World.putObj_heap_other (by omega)).trans (hkp3.trans hb2)⟩⟩
      | ret =>
        obtain ⟨hk3, hi3⟩ := hp
        obtain ⟨hr, hl3, hl4, hk4⟩ := fin (some .ret) W3 hk3
        exact ⟨_, _, hr, .inr ⟨rfl, .ret, hXp _ _ _ _ _ _ hi3 (by omega) hl3 rfl, hl4, hk4⟩⟩
      | exit id =>
        obtain ⟨hk3, hi3⟩ := hp
        obtain ⟨hr, hl3, hl4, hk4⟩ := fin (some (.exit id)) W3 hk3
        exact ⟨_, _, hr, .inr ⟨rfl, .exit id, hXp _ _ _ _ _ _ hi3 (by omega) hl3 rfl, hl4, hk4⟩⟩
      | goto t =>
        obtain ⟨hk3, hi3⟩ := hp
        obtain ⟨hr, hl3, hl4, hk4⟩ := fin (some (.goto t)) W3 hk3
        exact ⟨_, _, hr, .inr ⟨rfl, .goto t, hXp _ _ _ _ _ _ hi3 (by omega) hl3 rfl, hl4, hk4⟩⟩
      | panic ch => exact hp.elim
      | outgrown => exact hp.elim
    · rintro e W2 ⟨⟨v, rfl⟩, (⟨hi, hl, hk⟩ | ⟨pre, hSp, c, hi, hl, hk⟩)⟩
      · exact ⟨none, _, by have := run_endLoop (P := Tryd.prog) hl (by rw [hrec]; simp); rw [hrec] at this; exact this, hdone _ _ (hIp _ _ _ _ _ hi (by omega) hl rfl) (Nat.le_refl _) ((World.putObj_heap_other (by omega)).trans hk)⟩
      · exact ⟨some c, _, by have := run_endLoop (P := Tryd.prog) hl (by rw [hrec]; simp); rw [hrec] at this; exact this, hstop _ c pre _ hSp (hXp _ _ _ _ _ _ hi (by omega) hl rfl) (Nat.le_refl _) ((World.putObj_heap_other (by omega)).trans hk)⟩

end Go.Proofs.YtaaaifeommdblaaDoor
