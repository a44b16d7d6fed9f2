/- What the calls keep: the library's tables that are read (Glob); small lemmas on worlds. -/
import Derived.Test.YtaaaifeommdblaaDoorProg
import Derived.Test.YtaaaifeommdblaaDoorShelf
import Derived.Below
import Derived.WalkKit
import Derived.RowKit3
import Derived.Lib.Hide
import Derived.Outline
import Derived.Handy
namespace Go.Proofs.YtaaaifeommdblaaDoor
open Go.RowKit

theorem lt_of_cell {w : World} {a : Addr} {v : Value} (hc : w.cell? a = some v) : a.block < w.heap.size := by
  rcases Nat.lt_or_ge a.block w.heap.size with h' | h'
  · exact h'
  · simp [World.cell?, Array.getElem?_eq_none h'] at hc

theorem cell_congr {w w' : World} {a : Addr} (h : w'.heap[a.block]? = w.heap[a.block]?) : w'.cell? a = w.cell? a := by
  unfold World.cell?; rw [h]

theorem frozen_congr {w w' : World} {a : Addr} (h : w'.heap[a.block]? = w.heap[a.block]?) : w'.frozen? a = w.frozen? a := by
  unfold World.frozen?; rw [h]

/-- The library's variables that the calls read, as they are laid. -/
structure Glob (w : World) : Prop where
  tabs : Lib.Utf8Tabs 1 2 w
  maxl : ∃ m, w.cell? ⟨0, 0, none⟩ = some (.int .i64 m)

/-- How many blocks Glob speaks of. -/
def NG : Nat := max (max 1 2) 0 + 1

theorem Glob.of_blocks {w w' : World} (h : Glob w) (hb : ∀ k, k < NG → k < w.heap.size → w'.heap[k]? = w.heap[k]?) : Glob w' := by
  have lt : ∀ {a : Addr} {v : Value}, a.block < NG → w.cell? a = some v → w'.cell? a = some v := fun {a v} ha hc => (cell_congr (hb _ ha (lt_of_cell hc))).trans hc
  obtain ⟨⟨h1, h2⟩, m, hm⟩ := h
  exact ⟨⟨fun c hc => lt (by simp [NG]) (h1 c hc), fun i hi => ⟨lt (by simp [NG]) (h2 i hi).1, lt (by simp [NG]) (h2 i hi).2⟩⟩, m, lt (by simp [NG]) hm⟩

theorem Glob.size {w : World} (h : Glob w) : NG ≤ w.heap.size := by
  have h1 := lt_of_cell (h.tabs.1 0 (by decide))
  have h2 := lt_of_cell (h.tabs.2 0 (by decide)).1
  obtain ⟨m, hm⟩ := h.maxl
  have h3 := lt_of_cell hm
  simp only at h1 h2 h3
  unfold NG; omega

theorem Glob.below {w w' : World} {B : Nat} (h : Glob w) (hb : Below B w w') (hB : w.heap.size ≤ B) : Glob w' := h.of_blocks fun k _ hk => hb.block k (by omega)
theorem Glob.below' {w w' : World} (h : Glob w) (hb : Below w.heap.size w w') : Glob w' := h.below hb (Nat.le_refl _)
theorem Glob.drew {w : World} (h : Glob w) : Glob w.drew := h.below' (Below.refl _ _).drew
theorem Glob.alloc {w : World} (h : Glob w) (o : Obj) : Glob (w.alloc o) := h.below' ((Below.refl _ _).alloc (Nat.le_refl _) o)
theorem Glob.setCell {w : World} (h : Glob w) {p : Addr} (hp : NG ≤ p.block) (v : Value) : Glob (w.setCell p v) :=
  h.of_blocks fun k hk _ => Below.heap_setCell _ _ _ _ (by omega)

/-- Old cells and marks behind a call that keeps what lay below. -/
theorem bcell {W w1 : World} (hb : Below W.heap.size W w1) : (∀ b o, b < W.heap.size → w1.cell? ⟨b, o, none⟩ = W.cell? ⟨b, o, none⟩) ∧ (∀ b o, b < W.heap.size → w1.frozen? ⟨b, o, none⟩ = W.frozen? ⟨b, o, none⟩) :=
  ⟨fun b o h => hb.cell (p := ⟨b, o, none⟩) h, fun b o h => hb.frozen (p := ⟨b, o, none⟩) h⟩

theorem below_drewN (w : World) (n : Nat) : Below w.heap.size w (w.drewN n) := by
  induction n with
  | zero => exact Below.refl _ _
  | succ n ih => exact ih.trans ⟨rfl, rfl, rfl, Nat.le_refl _, fun _ _ => rfl⟩

theorem grown_of_below1 {W w1 : World} (hb : Below W.heap.size W w1) (row : Option Nat) : W.grownBy w1 row := ⟨hb.os, hb.tape, hb.output, hb.size, fun k hk _ => hb.block k hk⟩

theorem owns_below {W w1 : World} {base : Nat} {e : TypeId} {size : Nat} {v : Value} {n : Nat} {xs : List Value} (h : W.ownsRow base e size v n xs) (hb : Below W.heap.size W w1) : w1.ownsRow base e size v n xs :=
  h.kept (grown_of_below1 hb none) (Decidable.em _)

theorem below_own {B : Nat} {w W w1 : World} {base : Nat} {e : TypeId} {size : Nat} {v : Value} {n : Nat} {xs : List Value} (hb : Below B w W) (hB : B ≤ W.heap.size) (h : W.ownsRow base e size v n xs) (hg : W.grownBy w1 v.ownBlock) (hbase : B ≤ base) : Below B w w1 :=
  hb.grown hg hB (fun k hk => Nat.le_trans hbase (h.lt k hk).1)

theorem cell_one (w : World) (v : Value) (t : TypeId) : ∀ (j : Nat) (u : Value), [v][j]? = some u → (w.alloc (.cells #[v] t)).cell? ((⟨w.heap.size, 0, none⟩ : Addr).add j) = some u := by
  intro j u hj
  match j, hj with
  | 0, hj => simp at hj; subst hj; simp [Addr.add]

theorem one_cell {v : Value} (h : v.oneCell' = true) : ∀ u ∈ [v], u.oneCell' = true := by
  intro u hu; simp at hu; subst hu; exact h

theorem quiet_add_same {P : Program} {f : FuncId} {args : Array Value} {w : World} {a n : Nat} {v : Value}
    (h : Calls P f args (w.drewN (a + n)) fun e w' => e = .returned v ∧ w' = w.drewN (a + n)) :
    Calls P f args (w.drewN (a + n)) fun e w'' => e = .returned v ∧ ∃ m, w'' = w.drewN (a + m) :=
  h.mono fun _ _ ⟨he, hm⟩ => ⟨he, n, hm⟩

theorem heap_new (w : World) (o : Obj) : (w.alloc o).heap[w.heap.size]? = some o := by
  show (w.heap.push o)[w.heap.size]? = some o
  simp

theorem cells_new (w : World) (cs : List Value) (t : TypeId) : ∀ (j : Nat) (u : Value), cs[j]? = some u → (w.alloc (.cells cs.toArray t)).cell? ((⟨w.heap.size, 0, none⟩ : Addr).add j) = some u := by
  intro j u hj
  have e : ((⟨w.heap.size, 0, none⟩ : Addr).add j) = ⟨w.heap.size, j, none⟩ := by
    unfold Addr.add
    split
    · rename_i h; subst h; rfl
    · simp
  rw [e, World.cell?_alloc_at _ _ _ _ rfl]
  simpa using hj

theorem owns_block {w : World} {base : Nat} {e : TypeId} {size : Nat} {v : Value} {n : Nat} {xs : List Value} (h : w.ownsRow base e size v n xs) : ∀ k, v.ownBlock = some k → ∃ cs t f, w.heap[k]? = some (.cells cs t f) := by
  intro k hk
  rcases h.2 with ⟨rfl, _⟩ | ⟨g, cap, cur, rfl, _, hg, _⟩
  · simp [Value.ownBlock] at hk
  · simp [Value.ownBlock] at hk
    subst hk
    exact ⟨_, _, _, hg⟩

theorem owns_form {w : World} {base : Nat} {e : TypeId} {size : Nat} {v : Value} {n : Nat} {xs : List Value} (h : w.ownsRow base e size v n xs) : ∃ a cap, v = .slice a n cap ∧ (0 < n → ∃ g, a = some ⟨g, 0, none⟩) := by
  rcases h.2 with ⟨rfl, rfl⟩ | ⟨g, cap, cur, rfl, _⟩
  · exact ⟨none, 0, rfl, fun h => absurd h (Nat.lt_irrefl 0)⟩
  · exact ⟨_, cap, rfl, fun _ => ⟨g, rfl⟩⟩

theorem owns_apart {w : World} {base base' : Nat} {e e' : TypeId} {size size' : Nat} {v v' : Value} {n n' : Nat} {xs xs' : List Value} (h : w.ownsRow base e size v n xs) (h' : w.ownsRow base' e' size' v' n' xs') (hne : e ≠ e') :
    v.ownBlock = none ∨ v.ownBlock ≠ v'.ownBlock := by
  rcases h.2 with ⟨rfl, _⟩ | ⟨g, cap, cur, rfl, _, hg, _⟩
  · exact .inl rfl
  · right
    intro hv
    rcases h'.2 with ⟨rfl, _⟩ | ⟨g', cap', cur', rfl, _, hg', _⟩
    · simp [Value.ownBlock] at hv
    · simp [Value.ownBlock] at hv
      subst hv
      rw [hg] at hg'
      injection hg' with hg'
      injection hg' with _ hg'
      exact hne hg'

theorem ret_int {k : IntKind} {a b : Int} (h : a = b) : Ending.returned (.int k a) = .returned (.int k b) := by rw [h]

/-- A call that hands back a value and keeps what lay below. -/
def Gives (v : Value) (w : World) (e : Ending) (w' : World) : Prop := e = .returned v ∧ Below w.heap.size w w'

end Go.Proofs.YtaaaifeommdblaaDoor
