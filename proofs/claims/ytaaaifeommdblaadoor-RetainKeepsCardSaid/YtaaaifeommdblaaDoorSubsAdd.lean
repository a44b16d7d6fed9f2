/- subs.Index: what it is in memory; New, Add. -/
import Derived.Test.YtaaaifeommdblaaDoorMapKeys
import Derived.Test.YtaaaifeommdblaaDoorMatch
import Derived.RegionTactic
import Derived.ChangeAlike
import Derived.BigRegion
import Derived.Deep.RegionHeld3
import Derived.StillTailTactics
namespace Go.Proofs.YtaaaifeommdblaaDoor
open Go.RowKit

/-- What lay below is as it was, but for blocks g and m. -/
structure Turn (g m : Nat) (w w' : World) : Prop where
  os : w'.os = w.os
  tape : w'.tape = w.tape
  output : w'.output = w.output
  size : w.heap.size ≤ w'.heap.size
  block : ∀ k, k < w.heap.size → k ≠ g → k ≠ m → w'.heap[k]? = w.heap[k]?

theorem Turn.below {g m : Nat} {w w' : World} (h : Below w.heap.size w w') : Turn g m w w' := ⟨h.os, h.tape, h.output, h.size, fun k hk _ _ => h.block k hk⟩
theorem Turn.trans {g m : Nat} {a b c : World} (h : Turn g m a b) (k : Turn g m b c) : Turn g m a c :=
  ⟨k.os.trans h.os, k.tape.trans h.tape, k.output.trans h.output, Nat.le_trans h.size k.size, fun i hi h1 h2 => (k.block i (Nat.lt_of_lt_of_le hi h.size) h1 h2).trans (h.block i hi h1 h2)⟩
theorem Turn.set {g m : Nat} (w : World) (p : Addr) (v : Value) (hp : p.block = g ∨ w.heap.size ≤ p.block) : Turn g m w (w.setCell p v) :=
  ⟨rfl, rfl, rfl, by simp [World.setCell], fun k hk h1 _ => Below.heap_setCell _ _ _ _ (by rcases hp with rfl | hp; exact h1; omega)⟩
theorem Turn.put {g m : Nat} (w : World) (o : Obj) : Turn g m w (w.putObj m o) :=
  ⟨rfl, rfl, rfl, by simp [World.putObj], fun k _ _ h2 => World.putObj_heap_other h2⟩
theorem Turn.base {g m B : Nat} {w0 w w' : World} (h : Below B w0 w) (ht : Turn g m w w') (hg : B ≤ g) (hm : B ≤ m) (hB : B ≤ w.heap.size) : Below B w0 w' :=
  h.trans ⟨ht.os, ht.tape, ht.output, ht.size, fun k hk => ht.block k (by omega) (by omega) (by omega)⟩

abbrev SubL := List ((ByteArray × ByteArray) × (Int × Int))

/-- Blocks g and m are an index that holds l; its last place is n. -/
structure IdxAt (w : World) (g m : Nat) (l : SubL) (n : Int) : Prop where
  c0 : w.cell? ⟨g, 0, none⟩ = some (.map (some m))
  c1 : w.cell? ⟨g, 1, none⟩ = some (.int .i64 n)
  f1 : w.frozen? ⟨g, 1, none⟩ = false
  map : MapIs keyV entV w m l

theorem IdxAt.same {w w' : World} {g m : Nat} {l : SubL} {n : Int} (h : IdxAt w g m l n) (hg : w'.heap[g]? = w.heap[g]?) (hm : w'.heap[m]? = w.heap[m]?) : IdxAt w' g m l n :=
  ⟨(cell_congr (a := ⟨g, 0, none⟩) hg).trans h.c0, (cell_congr (a := ⟨g, 1, none⟩) hg).trans h.c1, (frozen_congr (a := ⟨g, 1, none⟩) hg).trans h.f1, h.map.same hm⟩
theorem IdxAt.lt {w : World} {g m : Nat} {l : SubL} {n : Int} (h : IdxAt w g m l n) : g < w.heap.size ∧ m < w.heap.size := ⟨lt_of_cell h.c0, h.map.lt⟩
theorem IdxAt.below {w w' : World} {g m : Nat} {l : SubL} {n : Int} (h : IdxAt w g m l n) (hb : Below w.heap.size w w') : IdxAt w' g m l n := h.same (hb.block _ h.lt.1) (hb.block _ h.lt.2)
theorem IdxAt.ne {w : World} {g m : Nat} {l : SubL} {n : Int} (h : IdxAt w g m l n) : g ≠ m := by
  rintro rfl
  have h0 := h.c0
  obtain ⟨es, c, hm, _⟩ := h.map
  simp [World.cell?, hm] at h0

theorem IdxAt.putMap {w : World} {g m : Nat} {l l' : SubL} {n : Int} (h : IdxAt w g m l n) {o : Obj} (hm : MapIs keyV entV (w.putObj m o) m l') : IdxAt (w.putObj m o) g m l' n := by
  have hg : (w.putObj m o).heap[g]? = w.heap[g]? := World.putObj_heap_other h.ne
  exact ⟨(cell_congr (a := ⟨g, 0, none⟩) hg).trans h.c0, (cell_congr (a := ⟨g, 1, none⟩) hg).trans h.c1, (frozen_congr (a := ⟨g, 1, none⟩) hg).trans h.f1, hm⟩
theorem IdxAt.setNext {w : World} {g m : Nat} {l : SubL} {n : Int} (h : IdxAt w g m l n) (k : Int) : IdxAt (w.setCell ⟨g, 1, none⟩ (.int .i64 k)) g m l k :=
  ⟨by rw [World.cell?_setCell_other _ _ _ _ (by simp)]; exact h.c0, World.cell?_setCell_same' _ _ _ (by rw [h.c1]; rfl), by rw [World.frozen?_setCell]; exact h.f1, h.map.setCell _ _⟩

theorem new_walk (w : World) : Calls Tryd.prog 22 #[] w fun e w' => e = .returned (.pointer (some ⟨w.heap.size + 1, 0, none⟩)) ∧ IdxAt w' (w.heap.size + 1) w.heap.size [] 0 ∧ Below w.heap.size w w' := by
  have hmm := @run_makeMap Tryd.prog
  go_enter Tryd.func22, Tryd.ntmps22
  go_wp2
  go_ret
  refine ⟨rfl, ⟨?_, ?_, ?_, ?_⟩, ?_⟩
  · rw [World.cell?_alloc_at _ _ _ _ (by simp)]; rfl
  · rw [World.cell?_alloc_at _ _ _ _ (by simp)]; rfl
  · rw [World.frozen?_alloc_at _ _ _ _ (by simp)]
  · exact (MapIs.made keyV entV w).below ((Below.refl _ _).alloc (by simp) _)
  · exact ((Below.refl _ _).alloc (Nat.le_refl _) _).alloc (by simp) _

/-- What Add answers, and the index behind it. -/
def addF (l : SubL) (n : Int) (c f : ByteArray) (q : Int) : (Bool × Int) × (SubL × Int) :=
  if filterF f = false then ((false, 121), (l, n)) else
  if q < 0 ∨ 2 < q then ((false, 1), (l, n)) else
  match at_ l (c, f) with
  | some e => ((true, 0), (put_ l (c, f) (q, e.2), n))
  | none => ((false, 0), (put_ l (c, f) (q, n + 1), n + 1))

/-- What a call hands back, and the index behind it. -/
def AddPost (g m : Nat) (r : (Bool × Int) × (SubL × Int)) (w : World) (e : Ending) (w' : World) : Prop :=
  e = .returned (.tuple #[.bool r.1.1, .int .i64 r.1.2]) ∧ IdxAt w' g m r.2.1 r.2.2 ∧ Turn g m w w'

theorem add_nil (c f : ByteArray) (q : Int) (w : World) :
    Calls Tryd.prog 23 #[.pointer none, .string c, .agg #[.string f, .int .i64 q]] w fun e w' => e = .returned (.tuple #[.bool false, .int .i64 3]) ∧ Below w.heap.size w w' := by
  go_enter Tryd.func23, Tryd.ntmps23
  go_wp2
  go_ret2
  exact ⟨rfl, (Below.refl _ _).alloc (Nat.le_refl _) _⟩

set_option maxHeartbeats 1000000 in
set_option maxRecDepth 100000 in
theorem add_walk (g m : Nat) (l : SubL) (n : Int) (c f : ByteArray) (q : Int) (w : World) (hG : Glob w) (hx : IdxAt w g m l n) (hn : 0 ≤ n ∧ n < 4611686018427387904) :
    Calls Tryd.prog 23 #[.pointer (some ⟨g, 0, none⟩), .string c, .agg #[.string f, .int .i64 q]] w (AddPost g m (addF l n c f q) w) := by
  obtain ⟨r, hr⟩ : ∃ r, r = addF l n c f q := ⟨_, rfl⟩
  rw [← hr]
  unfold addF at hr
  have hw1 : Below w.heap.size w (w.alloc (.cells #[.string f, .int .i64 q] 53)) := (Below.refl _ _).alloc (Nat.le_refl _) _
  have HF := Lib.hid (filter_walk f _ (hG.below' hw1))
  have hx1 := hx.below hw1
  cases hf : filterF f
  · rw [if_pos hf] at hr
    rw [hf] at HF
    subst hr
    clear hf
    go_enter Tryd.func23, Tryd.ntmps23
    go_wp2_with (go_at_call 37; refine HF.out.mono ?_; rintro e w2 ⟨rfl, hb2⟩)
    go_ret2
    exact ⟨rfl, hx1.below hb2, Turn.below (hw1.trans (hb2.mono hw1.size))⟩
  · rw [if_neg (by simp [hf])] at hr
    rw [hf] at HF
    clear hf
    have cf : ∀ w2, Below (w.alloc (.cells #[.string f, .int .i64 q] 53)).heap.size (w.alloc (.cells #[.string f, .int .i64 q] 53)) w2 → w2.cell? ⟨w.heap.size, 0, none⟩ = some (.string f) ∧ w2.cell? ⟨w.heap.size, 1, none⟩ = some (.int .i64 q) := fun w2 hb => by
      constructor
      · rw [(bcell hb).1 _ _ (by simp), World.cell?_alloc_at _ _ _ _ rfl]; rfl
      · rw [(bcell hb).1 _ _ (by simp), World.cell?_alloc_at _ _ _ _ rfl]; rfl
    have CF := Lib.hid cf; clear cf
    by_cases hq : q < 0 ∨ 2 < q
    · rw [if_pos hq] at hr
      subst hr
      by_cases h0 : q < 0
      · have b0 : decide (q < 0) = true := decide_eq_true h0
        go_enter Tryd.func23, Tryd.ntmps23
        go_wp2_with (go_at_call 37; refine HF.out.mono ?_; rintro e w2 ⟨rfl, hb2⟩; obtain ⟨d0, d1⟩ := CF.out _ hb2)
        go_ret2
        exact ⟨rfl, hx1.below hb2, Turn.below (hw1.trans (hb2.mono hw1.size))⟩
      · have b0 : decide (q < 0) = false := decide_eq_false h0
        have b2 : decide (2 < q) = true := decide_eq_true (by omega)
        go_enter Tryd.func23, Tryd.ntmps23
        go_wp2_with (go_at_call 37; refine HF.out.mono ?_; rintro e w2 ⟨rfl, hb2⟩; obtain ⟨d0, d1⟩ := CF.out _ hb2)
        go_ret2
        exact ⟨rfl, hx1.below hb2, Turn.below (hw1.trans (hb2.mono hw1.size))⟩
    · rw [if_neg hq] at hr
      have b0 : decide (q < 0) = false := decide_eq_false (by omega)
      have b2 : decide (2 < q) = false := decide_eq_false (by omega)
      go_enter Tryd.func23, Tryd.ntmps23
      go_wp2_with (go_at_call 37; refine HF.out.mono ?_; rintro e w2 ⟨rfl, hb2⟩; obtain ⟨d0, d1⟩ := CF.out _ hb2)
      have hx2 := hx1.below hb2
      have hlt2 := hx2.lt
      have hb3 : Below w2.heap.size w2 (w2.alloc (.cells #[.string c, .string f] 86)) := (Below.refl _ _).alloc (Nat.le_refl _) _
      have hx3 := hx2.below hb3
      have hB3 := hw1.trans (hb2.mono hw1.size) |>.trans (hb3.mono (Nat.le_trans hw1.size hb2.size))
      have k0 : (w2.alloc (.cells #[.string c, .string f] 86)).cell? ⟨w2.heap.size, 0, none⟩ = some (.string c) := by rw [World.cell?_alloc_at _ _ _ _ rfl]; rfl
      have k1 : (w2.alloc (.cells #[.string c, .string f] 86)).cell? ⟨w2.heap.size, 1, none⟩ = some (.string f) := by rw [World.cell?_alloc_at _ _ _ _ rfl]; rfl
      have s1 := (bcell hb3).1 w.heap.size 1 (by have := lt_of_cell d1; exact this)
      rw [d1] at s1
      have hlt3 : w2.heap.size < (w2.alloc (.cells #[.string c, .string f] 86)).heap.size := by simp
      have hwlt : w.heap.size < w2.heap.size := by have := lt_of_cell d1; exact this
      have hsg : w.heap.size ≠ g := by have := hx.lt.1; omega
      have hsm : w.heap.size ≠ m := by have := hx.lt.2; omega
      have hwg := hx.lt
      obtain ⟨W, hW⟩ : ∃ W, w2.alloc (.cells #[.string c, .string f] 86) = W := ⟨_, rfl⟩
      rw [hW] at hx3 hB3 k0 k1 s1 hlt3 ⊢
      obtain ⟨kb, hkb⟩ : ∃ kb, w2.heap.size = kb := ⟨_, rfl⟩
      rw [hkb] at k0 k1 hlt3 hwlt hlt2 ⊢
      obtain ⟨sb, hsb⟩ : ∃ sb, w.heap.size = sb := ⟨_, rfl⟩
      rw [hsb] at s1 hwlt hsg ⊢
      clear hW hb3 d0 d1 hx1 hx2 hb2 CF HF hkb hsb
      have look := fun W' (h : MapIs keyV entV W' m l) => h.look subKeys Tryd.underlying82 (entV (0, 0)) zeroEnt (c, f) true
      simp only [if_true] at look
      have L1 := look W.drew (hx3.map.same rfl)
      have L2 := look (W.alloc (.cells #[.int .i64 0, .int .i64 0] 88)).drew ((hx3.map.below ((Below.refl _ _).alloc (Nat.le_refl _) _)).same rfl)
      have c0 := hx3.c0; have c1 := hx3.c1; have f1 := hx3.f1
      have hbA : Below W.heap.size W (W.alloc (.cells #[.int .i64 0, .int .i64 0] 88)) := (Below.refl _ _).alloc (Nat.le_refl _) _
      have c0a := (hx3.below hbA).c0
      have k0a := ((bcell hbA).1 kb 0 hlt3).trans k0
      have k1a := ((bcell hbA).1 kb 1 hlt3).trans k1
      cases hat : at_ l (c, f) with
      | some e =>
        obtain ⟨e0, e1⟩ := e
        rw [hat] at hr L1 L2
        simp only [Option.map_some, Option.getD_some, Option.isSome_some, entV, keyV] at L1 L2
        have HR := Lib.hid hr; clear hr
        have hbE : Below W.heap.size W (W.alloc (.cells #[.int .i64 e0, .int .i64 e1] 88)).drew := ((Below.refl _ _).alloc (Nat.le_refl _) _).drew
        have hx4 := hx3.below hbE
        have c0e := hx4.c0
        have k0e := ((bcell hbE).1 kb 0 hlt3).trans k0
        have k1e := ((bcell hbE).1 kb 1 hlt3).trans k1
        have s1e := ((bcell hbE).1 sb 1 (by omega)).trans s1
        have p1e : ((W.alloc (.cells #[.int .i64 e0, .int .i64 e1] 88)).drew).cell? ⟨W.heap.size, 1, none⟩ = some (.int .i64 e1) := by
          show (W.alloc _).cell? _ = _
          rw [World.cell?_alloc_at _ _ _ _ rfl]; rfl
        have hB4 : Below w.heap.size w _ := hB3.trans (hbE.mono hB3.size)
        obtain ⟨o, hput, hmap⟩ := (hx4.map.same (w' := ((W.alloc (.cells #[.int .i64 e0, .int .i64 e1] 88)).drew).drew) rfl).put subKeys Tryd.underlying82 (c, f) (q, e1)
        simp only [entV, keyV] at hput
        go_region
        all_goals
          go_wp2
          generalize (W.alloc (.cells #[.int .i64 e0, .int .i64 e1] 88)).drew = W2 at *
          go_region
          all_goals
            go_wp2
            go_ret2
            have hx5 : IdxAt W2.drew g m l n := hx4.same rfl rfl
            have hT : Turn g m w W2.drew := Turn.below hB4.drew
            exact ⟨by rw [HR.out]; rfl, by rw [HR.out]; exact hx5.putMap hmap, hT.trans (Turn.put _ _)⟩
      | none =>
        rw [hat] at hr L1 L2
        simp only [Option.map_none, Option.getD_none, Option.isSome_none, entV, keyV] at L1 L2
        have HR := Lib.hid hr; clear hr
        obtain ⟨n1, hn1⟩ : ∃ n1, n1 = n + 1 := ⟨_, rfl⟩
        rw [← hn1] at HR
        have hplus : wrap64 (n + 1) = n1 := by unfold wrap64; omega
        clear hn hn1
        have hbE : Below W.heap.size W (W.alloc (.cells #[.int .i64 0, .int .i64 0] 88)).drew := ((Below.refl _ _).alloc (Nat.le_refl _) _).drew
        have hx4 := hx3.below hbE
        have c0e := hx4.c0; have c1e := hx4.c1; have f1e := hx4.f1
        have hlt4 := hx3.lt
        have p0 : ((W.alloc (.cells #[.int .i64 0, .int .i64 0] 88)).drew).cell? ⟨W.heap.size, 1, none⟩ = some (.int .i64 0) := by
          show (W.alloc _).cell? _ = _
          rw [World.cell?_alloc_at _ _ _ _ rfl]; rfl
        have pf : ((W.alloc (.cells #[.int .i64 0, .int .i64 0] 88)).drew).frozen? ⟨W.heap.size, 1, none⟩ = false := by
          show (W.alloc _).frozen? _ = _
          rw [World.frozen?_alloc_at _ _ _ _ rfl]
        have hsz : W.heap.size < ((W.alloc (.cells #[.int .i64 0, .int .i64 0] 88)).drew).heap.size := by show _ < (W.alloc _).heap.size; simp
        obtain ⟨eb, heb⟩ : ∃ eb, W.heap.size = eb := ⟨_, rfl⟩
        have hgne : g ≠ eb := by omega
        have hmne : m ≠ eb := by omega
        have hkne : kb ≠ eb := by omega
        have hsne : sb ≠ eb := by omega
        have hkg : kb ≠ g := by omega
        have k0e := ((bcell hbE).1 kb 0 hlt3).trans k0
        have k1e := ((bcell hbE).1 kb 1 hlt3).trans k1
        have s1e := ((bcell hbE).1 sb 1 (by omega)).trans s1
        have hB4 : Below w.heap.size w _ := hB3.trans (hbE.mono hB3.size)
        rw [heb] at p0 pf hsz
        go_region
        all_goals
          generalize (W.alloc (.cells #[.int .i64 0, .int .i64 0] 88)).drew = W1 at *
          have q0 : (W1.setCell ⟨g, 1, none⟩ (.int .i64 n1)).cell? ⟨eb, 1, none⟩ = some (.int .i64 0) := by
            rw [cell_congr (Below.heap_setCell _ _ _ _ (by show eb ≠ g; omega))]; exact p0
          have qf : (W1.setCell ⟨g, 1, none⟩ (.int .i64 n1)).frozen? ⟨eb, 1, none⟩ = false := by rw [World.frozen?_setCell]; exact pf
          obtain ⟨W2, hW2⟩ : ∃ W2, (W1.setCell ⟨g, 1, none⟩ (.int .i64 n1)).setCell ⟨eb, 1, none⟩ (.int .i64 n1) = W2 := ⟨_, rfl⟩
          have far : ∀ k, k ≠ g → k ≠ eb → W2.heap[k]? = W1.heap[k]? := fun k h1 h2 => by
            rw [← hW2, Below.heap_setCell _ _ _ _ (by show k ≠ eb; exact h2), Below.heap_setCell _ _ _ _ (by show k ≠ g; exact h1)]
          have hx5 : IdxAt W2 g m l n1 := by
            rw [← hW2]
            exact (hx4.setNext n1).same (Below.heap_setCell _ _ _ _ hgne) (Below.heap_setCell _ _ _ _ hmne)
          have k0f := (cell_congr (a := ⟨kb, 0, none⟩) (far kb hkg hkne)).trans k0e
          have k1f := (cell_congr (a := ⟨kb, 1, none⟩) (far kb hkg hkne)).trans k1e
          have s1f := (cell_congr (a := ⟨sb, 1, none⟩) (far sb hsg hsne)).trans s1e
          have p1f : W2.cell? ⟨eb, 1, none⟩ = some (.int .i64 n1) := by rw [← hW2]; exact World.cell?_setCell_same' _ _ _ (by rw [q0]; rfl)
          have c0f := hx5.c0
          have hT : Turn g m w W2.drew := by
            have hbig : w.heap.size ≤ eb := by rw [← heb]; exact hB3.size
            have hs : W2.heap.size = W1.heap.size := by rw [← hW2]; simp [World.setCell]
            have ho : W2.os = W1.os ∧ W2.tape = W1.tape ∧ W2.output = W1.output := by rw [← hW2]; exact ⟨rfl, rfl, rfl⟩
            exact ⟨ho.1.trans hB4.os, ho.2.1.trans hB4.tape, ho.2.2.trans hB4.output, by show _ ≤ W2.heap.size; rw [hs]; exact hB4.size, fun k hk h1 _ => (far k h1 (by omega)).trans (hB4.block k hk)⟩
          obtain ⟨o, hput, hmap⟩ := (hx5.map.same (w' := W2.drew) rfl).put subKeys Tryd.underlying82 (c, f) (q, n1)
          simp only [entV, keyV] at hput
          go_wp2
          try rw [hW2]
          go_region
          all_goals
            go_wp2
            go_ret2
            have hx6 : IdxAt W2.drew g m l n1 := hx5.same rfl rfl
            exact ⟨by rw [HR.out]; rfl, by rw [HR.out]; exact hx6.putMap hmap, hT.trans (Turn.put _ _)⟩

end Go.Proofs.YtaaaifeommdblaaDoor
