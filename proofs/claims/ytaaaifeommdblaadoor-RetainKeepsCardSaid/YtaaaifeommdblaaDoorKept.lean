/- retain.Kept: what it is in memory; New, Put, At, Count. -/
import Derived.Test.YtaaaifeommdblaaDoorSubsFind
import Derived.StillTailTactics
namespace Go.Proofs.YtaaaifeommdblaaDoor
open Go.RowKit Go.Sort

structure MsgR where
  topic : ByteArray
  load : ByteArray
  qos : Int
  keep : Bool
deriving Inhabited, DecidableEq
def msgE (x : MsgR) : List Value := [.string x.topic, .string x.load, .int .i64 x.qos, .bool x.keep]
def msgV (x : MsgR) : Value := .agg #[.string x.topic, .string x.load, .int .i64 x.qos, .bool x.keep]
def noMsg : MsgR := ⟨⟨#[]⟩, ⟨#[]⟩, 0, false⟩
abbrev KeptL := List (ByteArray × MsgR)

/-- Blocks g and m are what is kept. -/
structure KeptAt (w : World) (g m : Nat) (l : KeptL) : Prop where
  c0 : w.cell? ⟨g, 0, none⟩ = some (.map (some m))
  map : MapIs strV msgV w m l
theorem KeptAt.same {w w' : World} {g m : Nat} {l : KeptL} (h : KeptAt w g m l) (hg : w'.heap[g]? = w.heap[g]?) (hm : w'.heap[m]? = w.heap[m]?) : KeptAt w' g m l :=
  ⟨(cell_congr (a := ⟨g, 0, none⟩) hg).trans h.c0, h.map.same hm⟩
theorem KeptAt.lt {w : World} {g m : Nat} {l : KeptL} (h : KeptAt w g m l) : g < w.heap.size ∧ m < w.heap.size := ⟨lt_of_cell h.c0, h.map.lt⟩
theorem KeptAt.below {w w' : World} {g m : Nat} {l : KeptL} (h : KeptAt w g m l) (hb : Below w.heap.size w w') : KeptAt w' g m l := h.same (hb.block _ h.lt.1) (hb.block _ h.lt.2)
theorem KeptAt.ne {w : World} {g m : Nat} {l : KeptL} (h : KeptAt w g m l) : g ≠ m := by
  rintro rfl
  have h0 := h.c0
  obtain ⟨es, c, hm, _⟩ := h.map
  simp [World.cell?, hm] at h0
theorem KeptAt.putMap {w : World} {g m : Nat} {l l' : KeptL} (h : KeptAt w g m l) {o : Obj} (hm : MapIs strV msgV (w.putObj m o) m l') : KeptAt (w.putObj m o) g m l' := by
  have hg : (w.putObj m o).heap[g]? = w.heap[g]? := World.putObj_heap_other h.ne
  exact ⟨(cell_congr (a := ⟨g, 0, none⟩) hg).trans h.c0, hm⟩

theorem kept_new (w : World) : Calls Tryd.prog 9 #[] w fun e w' => e = .returned (.pointer (some ⟨w.heap.size + 1, 0, none⟩)) ∧ KeptAt w' (w.heap.size + 1) w.heap.size [] ∧ Below w.heap.size w w' := by
  have hmm := @run_makeMap Tryd.prog
  go_enter Tryd.func9, Tryd.ntmps9
  go_wp2
  go_ret
  refine ⟨rfl, ⟨?_, ?_⟩, ?_⟩
  · rw [World.cell?_alloc_at _ _ _ _ (by simp)]; rfl
  · exact (MapIs.made strV msgV w).below ((Below.refl _ _).alloc (by simp) _)
  · exact ((Below.refl _ _).alloc (Nat.le_refl _) _).alloc (by simp) _

/-- What Put answers, and what is kept behind it. -/
def putM (l : KeptL) (x : MsgR) : (Bool × Int) × KeptL :=
  if nameF x.topic = false then ((false, 120), l) else
  if x.qos < 0 ∨ 2 < x.qos then ((false, 1), l) else
  if x.keep = false then ((false, 0), l) else
  if x.load.size = 0 then ((true, 0), l.filter (fun p => decide (p.1 ≠ x.topic))) else ((true, 0), put_ l x.topic x)
def PutPost (g m : Nat) (r : (Bool × Int) × KeptL) (w : World) (e : Ending) (w' : World) : Prop :=
  e = .returned (.tuple #[.bool r.1.1, .int .i64 r.1.2]) ∧ KeptAt w' g m r.2 ∧ Turn g m w w'

theorem toList_nil_iff {s : ByteArray} : s.toList = [] ↔ s.size = 0 := by
  rw [Lib.toList_data]
  constructor
  · intro h; have := congrArg List.length h; simpa using this
  · intro h; exact List.eq_nil_of_length_eq_zero (by simpa using h)

theorem msgKeys : KeyOps Tryd.prog 9 strV := strKeys
theorem zeroMsg (w : World) : (zeroValue 33).run Tryd.prog w = .ok (msgV noMsg) w := by kernel_rfl

set_option maxHeartbeats 1000000 in
set_option maxRecDepth 100000 in
theorem kept_put (g m : Nat) (l : KeptL) (x : MsgR) (w : World) (hG : Glob w) (hx : KeptAt w g m l) :
    Calls Tryd.prog 10 #[.pointer (some ⟨g, 0, none⟩), msgV x] w (PutPost g m (putM l x) w) := by
  obtain ⟨t, p, q, k⟩ := x
  obtain ⟨r, hr⟩ : ∃ r, r = putM l ⟨t, p, q, k⟩ := ⟨_, rfl⟩
  rw [← hr]
  unfold putM at hr
  simp only at hr
  unfold msgV
  simp only
  have hw1 : Below w.heap.size w (w.alloc (.cells #[.string t, .string p, .int .i64 q, .bool k] 33)) := (Below.refl _ _).alloc (Nat.le_refl _) _
  have HN := Lib.hid (name_walk t _ (hG.below' hw1))
  have hx1 := hx.below hw1
  have cf : ∀ w2, Below (w.alloc (.cells #[.string t, .string p, .int .i64 q, .bool k] 33)).heap.size (w.alloc (.cells #[.string t, .string p, .int .i64 q, .bool k] 33)) w2 →
      w2.cell? ⟨w.heap.size, 0, none⟩ = some (.string t) ∧ w2.cell? ⟨w.heap.size, 1, none⟩ = some (.string p) ∧ w2.cell? ⟨w.heap.size, 2, none⟩ = some (.int .i64 q) ∧ w2.cell? ⟨w.heap.size, 3, none⟩ = some (.bool k) := fun w2 hb => by
    refine ⟨?_, ?_, ?_, ?_⟩ <;> (rw [(bcell hb).1 _ _ (by simp), World.cell?_alloc_at _ _ _ _ rfl]; rfl)
  have CF := Lib.hid cf; clear cf
  cases hn : nameF t
  · rw [if_pos hn] at hr
    rw [hn] at HN
    subst hr
    clear hn
    go_enter Tryd.func10, Tryd.ntmps10
    go_wp2_with (go_at_call 33; refine HN.out.mono ?_; rintro e w2 ⟨rfl, hb2⟩)
    go_ret2
    exact ⟨rfl, hx1.below hb2, Turn.below (hw1.trans (hb2.mono hw1.size))⟩
  rw [if_neg (by simp [hn])] at hr
  rw [hn] at HN
  clear hn
  by_cases hq : q < 0 ∨ 2 < q
  · rw [if_pos hq] at hr
    subst hr
    by_cases h0 : q < 0
    · have b0 : decide (q < 0) = true := decide_eq_true h0
      go_enter Tryd.func10, Tryd.ntmps10
      go_wp2_with (go_at_call 33; refine HN.out.mono ?_; rintro e w2 ⟨rfl, hb2⟩; obtain ⟨d0, d1, d2, d3⟩ := CF.out _ hb2)
      go_ret2
      exact ⟨rfl, hx1.below hb2, Turn.below (hw1.trans (hb2.mono hw1.size))⟩
    · have b0 : decide (q < 0) = false := decide_eq_false h0
      have b2 : decide (2 < q) = true := decide_eq_true (by omega)
      go_enter Tryd.func10, Tryd.ntmps10
      go_wp2_with (go_at_call 33; refine HN.out.mono ?_; rintro e w2 ⟨rfl, hb2⟩; obtain ⟨d0, d1, d2, d3⟩ := CF.out _ hb2)
      go_ret2
      exact ⟨rfl, hx1.below hb2, Turn.below (hw1.trans (hb2.mono hw1.size))⟩
  rw [if_neg hq] at hr
  have b0 : decide (q < 0) = false := decide_eq_false (by omega)
  have b2 : decide (2 < q) = false := decide_eq_false (by omega)
  clear hq
  cases k
  · rw [if_pos rfl] at hr
    subst hr
    go_enter Tryd.func10, Tryd.ntmps10
    go_wp2_with (go_at_call 33; refine HN.out.mono ?_; rintro e w2 ⟨rfl, hb2⟩; obtain ⟨d0, d1, d2, d3⟩ := CF.out _ hb2)
    go_ret2
    exact ⟨rfl, hx1.below hb2, Turn.below (hw1.trans (hb2.mono hw1.size))⟩
  rw [if_neg (by decide)] at hr
  by_cases hp : p.size = 0
  · rw [if_pos hp] at hr
    have P1 : p.toList = [] := toList_nil_iff.2 hp
    have P2 : p.toList.isEmpty = true := by rw [P1]; rfl
    have P3 : (p.toList == []) = true := by rw [P1]; rfl
    have HR := Lib.hid hr; clear hr
    have DEL := Lib.hid (fun W (h : MapIs strV msgV W m l) => h.del msgKeys Tryd.underlying72 t 9)
    clear hp
    go_enter Tryd.func10, Tryd.ntmps10
    go_wp2_with (go_at_call 33; refine HN.out.mono ?_; rintro e w2 ⟨rfl, hb2⟩; obtain ⟨d0, d1, d2, d3⟩ := CF.out _ hb2)
    have hx2 := hx1.below hb2
    have hx3 := hx2.same (w' := w2.drew) rfl rfl
    have hT : Turn g m w w2.drew := (Turn.below (hw1.trans (hb2.mono hw1.size))).trans (Turn.below (Below.refl _ _).drew)
    have c0 := hx3.c0
    have e0 : w2.drew.cell? ⟨w.heap.size, 0, none⟩ = some (.string t) := d0
    have D1 := DEL.out _ hx3.map
    simp only [strV] at D1
    obtain ⟨o, D2, hmap⟩ := D1 0
    refine wp_region_still_tail 6 (by kernel_rfl) (by kernel_rfl) ?_
    simp only [List.take_succ_cons, List.take_zero, List.drop_succ_cons, List.drop_zero]
    show wpStill _ _ w2.drew (fun a => wpList _ _ _ _ a w2.drew) _ _
    repeat still_step
    try refine wpStill_nil ?_
    go_wp2
    go_ret2
    exact ⟨by rw [HR.out]; rfl, by rw [HR.out]; exact hx3.putMap hmap, hT.trans (Turn.put _ _)⟩
  · rw [if_neg hp] at hr
    have P1 : ¬ p.toList = [] := fun e => hp (toList_nil_iff.1 e)
    have P2 : p.toList.isEmpty = false := by simpa using P1
    have P3 : (p.toList == []) = false := by simpa using P1
    have HR := Lib.hid hr; clear hr
    have PUT := Lib.hid (fun W (h : MapIs strV msgV W m l) => h.put msgKeys Tryd.underlying72 t ⟨t, p, q, true⟩)
    clear hp P1
    go_enter Tryd.func10, Tryd.ntmps10
    go_wp2_with (go_at_call 33; refine HN.out.mono ?_; rintro e w2 ⟨rfl, hb2⟩; obtain ⟨d0, d1, d2, d3⟩ := CF.out _ hb2)
    have hx2 := hx1.below hb2
    have hx3 := hx2.same (w' := w2.drew) rfl rfl
    have hT : Turn g m w w2.drew := (Turn.below (hw1.trans (hb2.mono hw1.size))).trans (Turn.below (Below.refl _ _).drew)
    have c0 := hx3.c0
    have e0 : w2.drew.cell? ⟨w.heap.size, 0, none⟩ = some (.string t) := d0
    have e1 : w2.drew.cell? ⟨w.heap.size, 1, none⟩ = some (.string p) := d1
    have e2 : w2.drew.cell? ⟨w.heap.size, 2, none⟩ = some (.int .i64 q) := d2
    have e3 : w2.drew.cell? ⟨w.heap.size, 3, none⟩ = some (.bool true) := d3
    have D1 := PUT.out _ hx3.map
    simp only [strV, msgV] at D1
    obtain ⟨o, D2, hmap⟩ := D1
    refine wp_region_still_tail 7 (by kernel_rfl) (by kernel_rfl) ?_
    simp only [List.take_succ_cons, List.take_zero, List.drop_succ_cons, List.drop_zero]
    show wpStill _ _ w2.drew (fun a => wpList _ _ _ _ a w2.drew) _ _
    repeat still_step
    try refine wpStill_nil ?_
    go_wp2
    go_ret2
    exact ⟨by rw [HR.out]; rfl, by rw [HR.out]; exact hx3.putMap hmap, hT.trans (Turn.put _ _)⟩

set_option maxHeartbeats 1000000 in
theorem kept_at (g m : Nat) (l : KeptL) (name : ByteArray) (w : World) (h : KeptAt w g m l) :
    Calls Tryd.prog 12 #[.pointer (some ⟨g, 0, none⟩), .string name] w fun e w' => e = .returned (.tuple #[msgV ((at_ l name).getD noMsg), .bool (at_ l name).isSome]) ∧ Below w.heap.size w w' := by
  obtain ⟨⟨t, p, q, k⟩, hx⟩ : ∃ x, x = (at_ l name).getD noMsg := ⟨_, rfl⟩
  obtain ⟨b, hb⟩ : ∃ b, b = (at_ l name).isSome := ⟨_, rfl⟩
  rw [← hx, ← hb]
  have hv : ((at_ l name).map msgV).getD (msgV noMsg) = msgV ((at_ l name).getD noMsg) := by cases at_ l name <;> rfl
  have look := fun W' (h : MapIs strV msgV W' m l) => h.look msgKeys Tryd.underlying72 (msgV noMsg) zeroMsg name true
  simp only [if_true, hv, ← hx, ← hb] at look
  simp only [strV, msgV] at look
  unfold msgV
  simp only
  have hw1 : Below w.heap.size w (w.alloc (.cells #[.string ⟨#[]⟩, .string ⟨#[]⟩, .int .i64 0, .bool false] 33)) := (Below.refl _ _).alloc (Nat.le_refl _) _
  have h1 := h.below hw1
  have c0 := h1.c0
  have L1 := look _ h1.map
  clear look hv hx hb
  go_enter Tryd.func12, Tryd.ntmps12
  go_wp2
  exact bodyPost_ret (v := .tuple #[.agg #[.string t, .string p, .int .i64 q, .bool k], .bool b]) (by simp [results, Tryd.results12, go_sem]) rfl ⟨rfl, ((Below.refl _ _).alloc (Nat.le_refl _) _).alloc (by simp) _⟩

theorem kept_count (g m : Nat) (l : KeptL) (w : World) (h : KeptAt w g m l) :
    Calls Tryd.prog 14 #[.pointer (some ⟨g, 0, none⟩)] w fun e w' => e = .returned (.int .i64 l.length) ∧ w' = w := by
  have c0 := h.c0
  have hl := fun ty => h.map.len (P := Tryd.prog) Tryd.underlying72 ty
  generalize l.length = n at *
  clear h
  go_enter Tryd.func14, Tryd.ntmps14
  go_wp2
  go_ret
  exact ⟨rfl, rfl⟩

end Go.Proofs.YtaaaifeommdblaaDoor
