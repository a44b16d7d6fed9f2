/- What topic.Name, Filter, Matches compute: plain. topic.Name, topic.Filter: the walks. topic.Matches: the walk. -/
import Derived.Test.YtaaaifeommdblaaDoorUtf
import Derived.Test.YtaaaifeommdblaaDoorAny
import Derived.Test.YtaaaifeommdblaaDoorLevels
namespace Go.Proofs.YtaaaifeommdblaaDoor

def wildB : ByteArray := ⟨#[43, 35]⟩
def isWild (x : List UInt8) : Bool := Lib.containsAny x [43, 35]

/-- topic.Name. -/
def nameF (s : ByteArray) : Bool := !decide (s.size = 0) && (utfIs s && !isWild s.data.toList)
/-- May a level be one of a filter's? -/
def levOk (x : ByteArray × Bool) : Bool := x.1.data.toList == [43] || (x.1.data.toList == [35] && x.2) || !isWild x.1.data.toList
/-- topic.Filter. -/
def filterF (s : ByteArray) : Bool := !decide (s.size = 0) && (utfIs s && (levs s.data.toList).all levOk)
/-- Do a filter's levels take a name's? -/
def matchL : List (List UInt8) → List (List UInt8) → Bool
  | [], n => n.isEmpty
  | v :: r, n => if v = [35] then true else
    match n with
    | [] => false
    | x :: n' => if v = [43] ∨ v = x then matchL r n' else false
/-- topic.Matches, of a filter and a name that may be. -/
def takesF (f n : ByteArray) : Bool := !(Lib.hasPrefix n.data.toList [36] && isWild (f.data.toList.take 1)) && matchL (levels f.data.toList) (levels n.data.toList)

theorem levels_le : ∀ (l x : List UInt8), x ∈ levels l → x.length ≤ l.length
  | [], x, h => by simp [levels] at h; simp [h]
  | b :: l, x, h => by
    rw [levels_cons] at h
    split at h
    · rcases List.mem_cons.1 h with rfl | h
      · simp
      · have := levels_le l x h; simp; omega
    · split at h
      · simp at h; subst h; simp
      · rename_i y r he
        rcases List.mem_cons.1 h with rfl | h
        · have := levels_le l y (by rw [he]; simp); simp; omega
        · have := levels_le l x (by rw [he]; simp [h]); simp; omega

theorem lasts_fst {α : Type} : ∀ l : List α, (lasts l).map (·.1) = l
  | [] => rfl
  | [x] => rfl
  | x :: y :: r => by rw [lasts_cons x (by simp)]; simp [lasts_fst (y :: r)]

theorem levs_fst (l : List UInt8) : (levs l).map (fun x => x.1.data.toList) = levels l := by
  have h := lasts_fst ((levels l).map fun x => (⟨x.toArray⟩ : ByteArray))
  unfold levs
  rw [show (fun x : ByteArray × Bool => x.1.data.toList) = (fun y : ByteArray => y.data.toList) ∘ (·.1) from rfl, ← List.map_map, h, List.map_map]
  conv => rhs; rw [← List.map_id (levels l)]
  apply List.map_congr_left
  intro x _
  simp

theorem prefix_size {ls : List UInt8} {pre : List (ByteArray × Bool)} {x : ByteArray × Bool} (h : pre ++ [x] <+: levs ls) : x.1.size ≤ ls.length := by
  have hm : x ∈ levs ls := h.subset (by simp)
  have h2 : x.1.data.toList ∈ levels ls := by rw [← levs_fst]; exact List.mem_map.2 ⟨x, hm, rfl⟩
  have := levels_le ls _ h2
  rw [Lib.size_eq]; exact this

theorem utfIs_size {s : ByteArray} (h : utfIs s = true) : s.size ≤ 65535 := by
  unfold utfIs at h; simp at h; exact h.1

theorem wild_ascii : Ascii wildB := by
  intro j hj
  have : j < 2 := hj
  match j, this with
  | 0, _ => decide
  | 1, _ => decide

open Go.RowKit in
theorem wild_walk (s : ByteArray) (w : World) (hs : s.size < 4294967281) : Calls Tryd.prog 49 #[.string s, .string ⟨#[43, 35]⟩] w (Gives (.bool (isWild s.data.toList)) w) :=
  containsAny_any s wildB wild_ascii w (by decide) hs (by decide)

end Go.Proofs.YtaaaifeommdblaaDoor

namespace Go.Proofs.YtaaaifeommdblaaDoor
open Go.RowKit Go.Shelf
attribute [local go_sem] Oper.semAt_some

theorem toList_nil {s : ByteArray} : s.toList = [] ↔ s.size = 0 := by
  rw [Lib.toList_data, Lib.size_eq]
  cases s.data.toList <;> simp

/-- **topic.Name.** -/
theorem name_walk (s : ByteArray) (w : World) (hG : Glob w) :
    Calls Tryd.prog 33 #[.string s] w (Gives (.int .i64 (if nameF s then 0 else 120)) w) := by
  obtain ⟨r, hr⟩ : ∃ r : Int, r = (if nameF s then 0 else 120) := ⟨_, rfl⟩
  rw [← hr]
  unfold nameF at hr
  by_cases h0 : s.size = 0
  · have h1 : s.toList = [] := toList_nil.2 h0
    have HR : Hid (r = 120) := Lib.hid (by rw [hr]; simp [h0])
    clear hr h0
    go_enter Tryd.func33, Tryd.ntmps33
    go_wp2
    go_ret
    exact ⟨by rw [HR.out]; rfl, Below.refl _ _⟩
  · have h1 : ¬ s.toList = [] := fun h => h0 (toList_nil.1 h)
    have h2 : s.toList.isEmpty = false := by simpa using h1
    have HI := Lib.hid (is_walk s w hG)
    cases hU : utfIs s
    · have HR : Hid (r = 120) := Lib.hid (by rw [hr]; simp [hU])
      clear hr h0
      rw [hU] at HI
      go_enter Tryd.func33, Tryd.ntmps33
      go_wp2_with (go_at_call 48; refine HI.out.mono ?_; rintro e w1 ⟨rfl, hb1⟩)
      go_ret
      exact ⟨by rw [HR.out]; rfl, hb1⟩
    · have hs := utfIs_size hU
      rw [hU] at HI
      have hW := fun W => wild_walk s W (by omega)
      cases hw : isWild s.data.toList
      · have HR : Hid (r = 0) := Lib.hid (by rw [hr]; simp [hU, hw, h0])
        rw [hw] at hW
        have HW := Lib.hid hW
        clear hr h0 hW hw hU
        go_enter Tryd.func33, Tryd.ntmps33
        go_wp2_with (first | (go_at_call 48; refine HI.out.mono ?_; rintro e w1 ⟨rfl, hb1⟩) | (go_at_call 49; refine (HW.out _).mono ?_; rintro e w2 ⟨rfl, hb2⟩))
        go_ret
        exact ⟨by rw [HR.out]; rfl, hb1.trans (hb2.mono hb1.size)⟩
      · have HR : Hid (r = 120) := Lib.hid (by rw [hr]; simp [hU, hw])
        rw [hw] at hW
        have HW := Lib.hid hW
        clear hr h0 hW hw hU
        go_enter Tryd.func33, Tryd.ntmps33
        go_wp2_with (first | (go_at_call 48; refine HI.out.mono ?_; rintro e w1 ⟨rfl, hb1⟩) | (go_at_call 49; refine (HW.out _).mono ?_; rintro e w2 ⟨rfl, hb2⟩))
        go_ret
        exact ⟨by rw [HR.out]; rfl, hb1.trans (hb2.mono hb1.size)⟩

/-- A cell of the call's own, the library's tables, and what lay below. -/
structure At (w : World) (c : Nat) (v : Value) (W : World) : Prop where
  cell : W.cell? ⟨c, 0, none⟩ = some v
  froz : W.frozen? ⟨c, 0, none⟩ = false
  glob : Glob W
  bel : Below w.heap.size w W

theorem At.heap {w W W' : World} {c : Nat} {v : Value} (h : At w c v W) (hc : W'.heap[c]? = W.heap[c]?) (hb : Below w.heap.size w W') (hG : Glob w) : At w c v W' :=
  ⟨(cell_congr (a := ⟨c, 0, none⟩) hc).trans h.cell, (frozen_congr (a := ⟨c, 0, none⟩) hc).trans h.froz, hG.below' hb, hb⟩
theorem At.lt {w W : World} {c : Nat} {v : Value} (h : At w c v W) : c < W.heap.size := lt_of_cell h.cell
theorem At.drewN {w W : World} {c : Nat} {v : Value} (h : At w c v W) (n : Nat) (hG : Glob w) : At w c v (W.drewN n) := h.heap rfl (h.bel.trans ((below_drewN W n).mono h.bel.size)) hG
theorem At.below {w W W' : World} {c : Nat} {v : Value} (h : At w c v W) (hb : Below W.heap.size W W') (hG : Glob w) : At w c v W' := h.heap (hb.block _ h.lt) (h.bel.trans (hb.mono h.bel.size)) hG
theorem At.alloc {w W : World} {c : Nat} {v : Value} (h : At w c v W) (o : Obj) (hG : Glob w) : At w c v (W.alloc o) := h.below ((Below.refl _ _).alloc (Nat.le_refl _) o) hG
theorem At.setOther {w W : World} {c : Nat} {v : Value} (h : At w c v W) {p : Addr} (hp : p.block ≠ c) (hw : w.heap.size ≤ p.block) (u : Value) (hG : Glob w) : At w c v (W.setCell p u) :=
  h.heap (Below.heap_setCell _ _ _ _ (Ne.symm hp)) (h.bel.setCell hw u) hG
theorem At.put {w W : World} {c : Nat} {v : Value} (h : At w c v W) {k : Nat} {o : Obj} (hk : W.heap[k]? = some o) (ho : o.isCells = false) (hw : w.heap.size ≤ k) (o' : Obj) (hG : Glob w) : At w c v (W.putObj k o') := by
  have hne : c ≠ k := by
    rintro rfl
    have := h.cell
    unfold World.cell? at this
    rw [hk] at this
    cases o <;> simp_all [Obj.isCells]
  exact h.heap (World.putObj_heap_other hne) ((h.bel).grown (grownBy_putObj' W k o') h.bel.size (fun j e => by cases e; exact hw)) hG
theorem At.set {w W : World} {c : Nat} {v : Value} (h : At w c v W) (hw : w.heap.size ≤ c) (u : Value) (hG : Glob w) : At w c u (W.setCell ⟨c, 0, none⟩ u) :=
  ⟨World.cell?_setCell_same' _ _ _ (by rw [h.cell]; rfl), by rw [World.frozen?_setCell]; exact h.froz, hG.below' (h.bel.setCell hw u), h.bel.setCell hw u⟩

set_option maxHeartbeats 1000000 in
set_option maxRecDepth 100000 in
/-- topic.Filter where the text is one: the levels one by one. -/
theorem filter_levels (s : ByteArray) (w : World) (hG : Glob w) (h0 : ¬ s.size = 0) (hU : utfIs s = true) :
    Calls Tryd.prog 37 #[.string s] w (Gives (.int .i64 (if (levs s.data.toList).all levOk then 0 else 121)) w) := by
  have h1 : ¬ s.toList = [] := fun h => h0 (toList_nil.1 h)
  have h2 : s.toList.isEmpty = false := by simpa using h1
  have hs := utfIs_size hU
  have HI : Hid (∀ W, Glob W → Calls Tryd.prog 48 #[.string s] W (Gives (.bool true) W)) := fun W hW => by have := is_walk s W hW; rwa [hU] at this
  clear h0 hU
  obtain ⟨r, hr⟩ : ∃ r : Int, r = (if (levs s.data.toList).all levOk then 0 else 121) := ⟨_, rfl⟩
  rw [← hr]
  have HR := Lib.hid hr; clear hr
  refine (callsIn_wide (n := 3)).1 ?_
  refine callsIn_of_wp_marks Tryd.func37 rfl trivial ?_ rfl
  simp only [Tryd.ntmps37, List.size_toArray, List.length_cons, List.length_nil, Nat.reduceAdd, Nat.reduceSub, Array.replicate_succ, Array.replicate_zero, List.push_toArray, List.append_toArray, List.nil_append, List.cons_append]
  gi_wp2_with (first
    | (refine ⟨trivial, ?_⟩; gi_at_call 48; refine (callsIn_wide.2 (HI.out _ (hG.alloc _))).mono ?_; rintro e w1 ⟨rfl, hb1⟩)
    | (refine ⟨trivial, ?_⟩; gi_at_call 53; refine (callsIn_wide.2 (levels_walk _ _)).mono ?_; rintro e w2 ⟨rfl, rfl⟩))
  have hA : At w w.heap.size (.int .i64 0) w1 := (show At w w.heap.size (.int .i64 0) (w.alloc (.cells #[.int .i64 0] 29)) from
    ⟨by rw [World.cell?_alloc_at _ _ _ _ rfl]; rfl, World.frozen?_alloc_at _ _ _ _ rfl, hG.alloc _, (Below.refl _ _).alloc (Nat.le_refl _) _⟩).below hb1 hG
  have hlt := hA.lt
  have hseq : LevSeq 72 w1.heap.size s.data.toList (w1.alloc (.cells #[.string s] 9)) :=
    levels_seq w1.heap.size s.data.toList _ (by rw [← Lib.size_eq]; omega) (by simp) (by rw [World.cell?_alloc_at _ _ _ _ rfl]; rfl) (World.frozen?_alloc_at _ _ _ _ rfl)
  refine range_levels (gf := 72) (b := w1.heap.size) (ls := s.data.toList) rfl (enters_of Tryd.func72 (by kernel_rfl) rfl) hseq (by simp) rfl
    (fun pre W => pre.all levOk = true ∧ At w w.heap.size (.int .i64 0) W)
    (fun c pre W => c = .ret ∧ pre.all levOk = false ∧ At w w.heap.size (.int .i64 121) W)
    (fun _ _ h => h.2.glob) (fun _ _ n h => ⟨h.1, h.2.drewN n hG⟩) (fun _ _ v h => ⟨h.1, h.2.setOther (by show w1.heap.size ≠ _; omega) (by show _ ≤ w1.heap.size; omega) v hG⟩)
    (fun _ _ k o o' h hk ho hc => ⟨h.1, h.2.put ho hc (by simp at hk; omega) o' hG⟩)
    (fun _ _ _ k o o' h hk ho hc => ⟨h.1, h.2.1, h.2.2.put ho hc (by simp at hk; omega) o' hG⟩)
    (fun _ o h => ⟨h.1, h.2.alloc o hG⟩) ⟨rfl, hA.alloc _ hG⟩
    (fun x => { tmps := #[Value.string s, undef, Value.pointer (some { block := w.heap.size, off := 0 }), .string x.1, .bool x.2, Value.string s,
          Value.bool false, Value.bool false, Value.string s, Value.bool true, Value.bool false, Value.bool false,
          Value.string s, Value.func (Fn.func 72) #[] #[Value.pointer (some { block := w1.heap.size, off := 0 })],
          .string x.1, .bool x.2, undef, undef, undef, undef, undef, undef, undef, undef, undef, undef, undef, undef, undef,
          undef], defers := [] }) ?assign ?body ?done ?stop
  case assign =>
    intro l x W K hK
    gi_wp2
    exact hK
  case body =>
    rintro l pre x W hpx ⟨hp, hAt⟩ hbW
    have hxs := prefix_size hpx
    rw [← Lib.size_eq] at hxs
    have hW := fun W => wild_walk x.1 W (by omega)
    have all_snoc : (pre ++ [x]).all levOk = levOk x := by rw [List.all_append, hp]; simp
    have hc := hAt.cell
    have hf := hAt.froz
    rw [← Lib.toList_data] at hW
    have HS := Lib.hid all_snoc; clear all_snoc hp hpx
    have good : ∀ W', Below W.heap.size W W' → (pre ++ [x]).all levOk = true → KeepsRest W W' ∧ W'.heap[w1.heap.size]? = W.heap[w1.heap.size]? ∧ (pre ++ [x]).all levOk = true ∧ At w w.heap.size (.int .i64 0) W' :=
      fun W' hb ha => ⟨KeepsRest.below hb, hb.block _ hbW, ha, hAt.below hb hG⟩
    have bad : ∀ W', Below W.heap.size W W' → (pre ++ [x]).all levOk = false → KeepsRest W (W'.setCell ⟨w.heap.size, 0, none⟩ (.int .i64 121)) ∧ (Code.ret = Code.ret ∧ (pre ++ [x]).all levOk = false ∧ At w w.heap.size (.int .i64 121) (W'.setCell ⟨w.heap.size, 0, none⟩ (.int .i64 121))) :=
      fun W' hb ha => ⟨(KeepsRest.below hb).trans (KeepsRest.setCell _ _ _), rfl, ha, (hAt.below hb hG).set (Nat.le_refl _) _ hG⟩
    have oldc : ∀ W', Below W.heap.size W W' → W'.cell? ⟨w.heap.size, 0, none⟩ = some (.int .i64 0) ∧ W'.frozen? ⟨w.heap.size, 0, none⟩ = false :=
      fun W' hb => ⟨(hAt.below hb hG).cell, (hAt.below hb hG).froz⟩
    have OLD := Lib.hid oldc; clear oldc
    have GOOD := Lib.hid good; have BAD := Lib.hid bad; clear good bad
    by_cases h43 : x.1.toList = [43]
    · have HT : Hid ((pre ++ [x]).all levOk = true) := Lib.hid (by rw [HS.out]; unfold levOk; rw [← Lib.toList_data, h43]; rfl)
      clear hW
      gi_wp2
      refine ⟨trivial, ?_⟩
      gi_wp2
      exact GOOD.out _ (Below.refl _ _) HT.out
    · by_cases h35 : x.1.toList = [35] ∧ x.2 = true
      · obtain ⟨h35, hx2⟩ := h35
        have HT : Hid ((pre ++ [x]).all levOk = true) := Lib.hid (by rw [HS.out]; unfold levOk; rw [← Lib.toList_data, h35, hx2]; rfl)
        clear hW
        gi_wp2
        refine ⟨trivial, ?_⟩
        gi_wp2
        exact GOOD.out _ (Below.refl _ _) HT.out
      · have hval : levOk x = !isWild x.1.toList := by
          unfold levOk
          rw [← Lib.toList_data]
          by_cases h : x.1.toList = [35]
          · have : x.2 = false := by cases h' : x.2 <;> simp_all
            simp [h, this]
          · simp [h43, h]
        generalize isWild x.1.toList = b at *
        have HW := Lib.hid hW; clear hW
        have HS' : Hid ((pre ++ [x]).all levOk = !b) := Lib.hid (by rw [HS.out, hval])
        clear hval
        have hx3 : ¬ x.1.toList = [35] ∨ (x.1.toList = [35] ∧ x.2 = false) := by
          by_cases h : x.1.toList = [35]
          · exact Or.inr ⟨h, by cases h' : x.2 <;> simp_all⟩
          · exact Or.inl h
        clear h35
        have n43 : (!(x.1.toList == [43])) = true := by simp [h43]
        rcases hx3 with h35 | ⟨h35, hx2⟩
        all_goals
          cases b
          · have HT : Hid ((pre ++ [x]).all levOk = true) := Lib.hid (by rw [HS'.out]; rfl)
            gi_wp2_with (refine ⟨trivial, ?_⟩; gi_at_call 49; refine (CallsIn.inRound l (callsIn_wide.2 (HW.out _))).mono ?_; rintro e w2 ⟨rfl, hb2⟩)
            exact GOOD.out _ hb2 HT.out
          · have HT : Hid ((pre ++ [x]).all levOk = false) := Lib.hid (by rw [HS'.out]; rfl)
            gi_wp2_with (refine ⟨trivial, ?_⟩; gi_at_call 49; refine (CallsIn.inRound l (callsIn_wide.2 (HW.out _))).mono ?_; rintro e w2 ⟨rfl, hb2⟩; obtain ⟨hc2, hf2⟩ := OLD.out _ hb2)
            obtain ⟨q1, _, q2, q3⟩ := BAD.out _ hb2 HT.out
            exact ⟨q1, rfl, q2, q3⟩
  case done =>
    rintro D W ⟨hp, hAt⟩ hD hK
    have hc := hAt.cell
    have hf := hAt.froz
    have hK' := (KeepsRest.setCell W ⟨w.heap.size, 0, none⟩ (.int .i64 0)).2 D _ hK rfl
    have hA2 := (hAt.set (Nat.le_refl _) (.int .i64 0) hG).put hK' rfl (by simp at hD; omega) (.deferred none) hG
    have HF : Hid (r = 0) := Lib.hid (by rw [HR.out, hp]; rfl)
    clear hp hAt
    gi_wp2
    refine ⟨by simp, .inl ⟨_, _, rfl, run_takeDeferred hK', ?_⟩⟩
    have hc3 := hA2.cell
    exact ⟨.int .i64 0, by simp [results, Tryd.results37, go_sem, hc3], by rw [HF.out]; exact ⟨rfl, hA2.bel⟩⟩
  case stop =>
    rintro D c pre W hpre ⟨rfl, hp, hAt⟩ hD hK
    have hc := hAt.cell
    have hA2 := hAt.put hK rfl (by simp at hD; omega) (.deferred none) hG
    have HF : Hid (r = 121) := Lib.hid (by
      have : (levs s.data.toList).all levOk = false := by
        obtain ⟨q, hq⟩ := hpre
        rw [← hq, List.all_append, hp]; rfl
      rw [HR.out, this]; rfl)
    gi_wp2
    refine ⟨by simp, .inl ⟨_, _, rfl, run_takeDeferred hK, ?_⟩⟩
    have hc3 := hA2.cell
    exact ⟨.int .i64 121, by simp [results, Tryd.results37, go_sem, hc3], by rw [HF.out]; exact ⟨rfl, hA2.bel⟩⟩

/-- **topic.Filter.** -/
theorem filter_walk (s : ByteArray) (w : World) (hG : Glob w) :
    Calls Tryd.prog 37 #[.string s] w (Gives (.int .i64 (if filterF s then 0 else 121)) w) := by
  by_cases h0 : s.size = 0
  · have h1 : s.toList = [] := toList_nil.2 h0
    have hf : filterF s = false := by simp [filterF, h0]
    rw [hf]
    clear hf h0
    go_enter Tryd.func37, Tryd.ntmps37
    go_wp2
    exact bodyPost_ret (v := .int .i64 121) (by simp [results, Tryd.results37, go_sem]) rfl ⟨rfl, (Below.refl _ _).alloc (Nat.le_refl _) _⟩
  · cases hU : utfIs s
    · have hf : filterF s = false := by simp [filterF, hU]
      rw [hf]
      have h1 : ¬ s.toList = [] := fun h => h0 (toList_nil.1 h)
      have h2 : s.toList.isEmpty = false := by simpa using h1
      have HI := Lib.hid (is_walk s (w.alloc (.cells #[.int .i64 0] 29)) (hG.alloc _))
      rw [hU] at HI
      clear hf h0 hU
      go_enter Tryd.func37, Tryd.ntmps37
      go_wp2_with (go_at_call 48; refine HI.out.mono ?_; rintro e w1 ⟨rfl, hb1⟩; have hA : At w w.heap.size (.int .i64 0) w1 := (show At w w.heap.size (.int .i64 0) (w.alloc (.cells #[.int .i64 0] 29)) from ⟨by rw [World.cell?_alloc_at _ _ _ _ rfl]; rfl, World.frozen?_alloc_at _ _ _ _ rfl, hG.alloc _, (Below.refl _ _).alloc (Nat.le_refl _) _⟩).below hb1 hG; have hc := hA.cell; have hf := hA.froz)
      have hA2 := hA.set (Nat.le_refl _) (.int .i64 121) hG
      have hc3 := hA2.cell
      exact bodyPost_ret (v := .int .i64 121) (by simp [results, Tryd.results37, go_sem, hc3]) rfl ⟨rfl, hA2.bel⟩
    · have hf : filterF s = (levs s.data.toList).all levOk := by simp [filterF, h0, hU]
      rw [hf]
      exact filter_levels s w hG h0 hU

end Go.Proofs.YtaaaifeommdblaaDoor

namespace Go.Proofs.YtaaaifeommdblaaDoor
open Go.RowKit Go.Shelf
attribute [local go_sem] Oper.semAt_some

theorem At.new {w W : World} (v : Value) (t : TypeId) (hB : Below w.heap.size w W) (hG : Glob w) (_h1 : v.oneCell' = true := by rfl) : At w W.heap.size v (W.alloc (.cells #[v] t)) :=
  ⟨by rw [World.cell?_alloc_at _ _ _ _ rfl]; rfl, World.frozen?_alloc_at _ _ _ _ rfl, hG.below' (hB.alloc hB.size _), hB.alloc hB.size _⟩

/-- topic.Matches. -/
def matchF (f n : ByteArray) : Bool × Int := if filterF f then if nameF n then (takesF f n, 0) else (false, 120) else (false, 121)

def dat (x : ByteArray × Bool) : List UInt8 := x.1.data.toList

theorem matchL_hash (r n : List (List UInt8)) : matchL ([35] :: r) n = true := rfl
theorem matchL_none {v : List UInt8} (h : v ≠ [35]) (r : List (List UInt8)) : matchL (v :: r) [] = false := by
  unfold matchL; rw [if_neg h]
theorem matchL_step {v : List UInt8} (h : v ≠ [35]) (r : List (List UInt8)) (x : List UInt8) (n : List (List UInt8)) (hx : v = [43] ∨ v = x) : matchL (v :: r) (x :: n) = matchL r n := by
  rw [matchL, if_neg h, if_pos hx]
theorem matchL_stop {v : List UInt8} (h : v ≠ [35]) (r : List (List UInt8)) (x : List UInt8) (n : List (List UInt8)) (hx : ¬ (v = [43] ∨ v = x)) : matchL (v :: r) (x :: n) = false := by
  rw [matchL, if_neg h, if_neg hx]

set_option maxHeartbeats 2000000 in
set_option maxRecDepth 100000 in
theorem matches_loop (f n : ByteArray) (w : World) (hG : Glob w) (hf : filterF f = true) (hn : nameF n = true) (hx : (Lib.hasPrefix n.data.toList [36] && isWild (f.data.toList.take 1)) = false) :
    Calls Tryd.prog 38 #[.string f, .string n] w (Gives (.tuple #[.bool (matchL (levels f.data.toList) (levels n.data.toList)), .int .i64 0]) w) := by
  have hfs : f.size ≤ 65535 := by unfold filterF at hf; simp at hf; exact utfIs_size hf.2.1
  have hns : n.size ≤ 65535 := by unfold nameF at hn; simp at hn; exact utfIs_size hn.2.1
  have hf0 : 1 ≤ f.size := by
    rcases Nat.eq_zero_or_pos f.size with h | h
    · simp [filterF, h] at hf
    · exact h
  have HF : Hid (∀ W, Glob W → Calls Tryd.prog 37 #[.string f] W (Gives (.int .i64 0) W)) := fun W hW => by have := filter_walk f W hW; rwa [hf] at this
  have HN : Hid (∀ W, Glob W → Calls Tryd.prog 33 #[.string n] W (Gives (.int .i64 0) W)) := fun W hW => by have := name_walk n W hW; rwa [hn] at this
  have hpre := fun W => Tryd.strings_HasPrefix n ⟨#[36]⟩ W
  have hex : (f.extract 0 1).size < 4294967281 := by rw [ByteArray.size_extract]; omega
  have hwild := fun W => wild_walk (f.extract 0 1) W hex
  clear hex
  have htake : (f.extract 0 1).data.toList = f.data.toList.take 1 := by simp
  rw [htake] at hwild
  simp only at hpre
  generalize Lib.hasPrefix n.data.toList [36] = p at *
  generalize isWild (f.data.toList.take 1) = q at *
  have HP := Lib.hid hpre; have HW := Lib.hid hwild; clear hpre hwild htake hf hn
  obtain ⟨r, hr⟩ : ∃ r, r = matchL (levels f.data.toList) (levels n.data.toList) := ⟨_, rfl⟩
  rw [← hr]
  have HR := Lib.hid hr; clear hr
  have hA4 := At.new (w := w) (W := w) (.bool false) 4 (Below.refl _ _) hG
  have hA4' := hA4.alloc (.cells #[.int .i64 0] 29) hG
  have hA5 := At.new (w := w) (.int .i64 0) 29 hA4.bel hG
  rw [World.size_alloc] at hA5
  refine (callsIn_wide (n := 3)).1 ?_
  refine callsIn_of_wp_marks Tryd.func38 rfl trivial ?_ rfl
  simp only [Tryd.ntmps38, List.size_toArray, List.length_cons, List.length_nil, Nat.reduceAdd, Nat.reduceSub, Array.replicate_succ, Array.replicate_zero, List.push_toArray, List.append_toArray, List.nil_append, List.cons_append]
  gi_wp2_with (refine ⟨trivial, ?_⟩; gi_at_call 37; refine (callsIn_wide.2 (HF.out _ hA5.glob)).mono ?_; rintro e w1 ⟨rfl, hb1⟩; have B4 := hA4'.below hb1 hG; have B5 := hA5.below hb1 hG; clear hb1)
  gi_wp2_with (refine ⟨trivial, ?_⟩; gi_at_call 33; refine (callsIn_wide.2 (HN.out _ B5.glob)).mono ?_; rintro e w2 ⟨rfl, hb2⟩; have C4 := B4.below hb2 hG; have C5 := B5.below hb2 hG; clear hb2 B4 B5)
  have hlt4 : w.heap.size < w2.heap.size := C4.lt
  have hlt5 : w.heap.size + 1 < w2.heap.size := by have := C5.lt; simpa using this
  have hone : decide (1 ≤ (f.size : Int)) = true := decide_eq_true (by omega)
  have hseq : ∀ w3, Below w2.heap.size w2 w3 → LevSeq 72 (w3.heap.size + 2) f.data.toList ((((w3.alloc (.cells #[.string n] 9)).alloc (.cells #[.bool true] 4))).alloc (.cells #[.string f] 9)) :=
    fun w3 _ => levels_seq (w3.heap.size + 2) f.data.toList _ (by rw [← Lib.size_eq]; omega) (by simp) (by rw [World.cell?_alloc_at _ _ _ _ (by simp)]; rfl) (World.frozen?_alloc_at _ _ _ _ (by simp))
  have HS := Lib.hid hseq; clear hseq
  have hbb := Below.refl w2.heap.size w2
  cases p
  case' false =>
    gi_wp2_with (first
      | (refine ⟨trivial, ?_⟩; gi_at_call 54; refine (callsIn_wide.2 (HP.out _)).mono ?_; rintro e w3 ⟨rfl, rfl⟩)
      | (refine ⟨trivial, ?_⟩; gi_at_call 53; refine (callsIn_wide.2 (levels_walk _ _)).mono ?_; rintro e w4 ⟨rfl, rfl⟩))
    refine ⟨trivial, ?_⟩
    gi_wp2_with (refine ⟨trivial, ?_⟩; gi_at_call 53; refine (callsIn_wide.2 (levels_walk _ _)).mono ?_; rintro e w4 ⟨rfl, rfl⟩)
    rename World => w3
  case' true =>
    cases q
    case' true => cases hx
    case' false =>
      gi_wp2_with (first
        | (refine ⟨trivial, ?_⟩; gi_at_call 54; refine (callsIn_wide.2 (HP.out _)).mono ?_; rintro e w3 ⟨rfl, rfl⟩)
        | (refine ⟨trivial, ?_⟩; gi_at_call 49; refine (callsIn_wide.2 (HW.out _)).mono ?_; rintro e w3 ⟨rfl, hb3⟩; replace hbb := hb3)
        | (refine ⟨trivial, ?_⟩; gi_at_call 53; refine (callsIn_wide.2 (levels_walk _ _)).mono ?_; rintro e w4 ⟨rfl, rfl⟩))
  all_goals
    have D4 := ((C4.below hbb hG).alloc (.cells #[.string n] 9) hG).alloc (.cells #[.bool true] 4) hG
    have D5 := ((C5.below hbb hG).alloc (.cells #[.string n] 9) hG).alloc (.cells #[.bool true] 4) hG
    have hw3 : Below w.heap.size w w3 := C4.bel.trans (hbb.mono C4.bel.size)
    have hlt3 : w.heap.size + 1 < w3.heap.size := Nat.lt_of_lt_of_le hlt5 hbb.size
    have D8 := (At.new (w := w) (.string n) 9 hw3 hG).alloc (.cells #[.bool true] 4) hG
    have D9 := At.new (w := w) (.bool true) 4 (hw3.alloc hw3.size (.cells #[.string n] 9)) hG
    rw [World.size_alloc] at D9
    have hsq := HS.out w3 hbb
    clear C4 C5 hbb HF HN HP HW HS hlt4 hlt5 hA4 hA4' hA5
    apply range_levels (gf := 72) (b := w3.heap.size + 2) (ls := f.data.toList) rfl (enters_of Tryd.func72 (by kernel_rfl) rfl) hsq (by simp) rfl
      (fun pre W => ∃ (t : List UInt8) (m : Bool), At w w.heap.size (.bool false) W ∧ At w (w.heap.size + 1) (.int .i64 0) W ∧ At w w3.heap.size (.string ⟨t.toArray⟩) W ∧ At w (w3.heap.size + 1) (.bool m) W ∧ t.length ≤ n.size ∧
        ∀ rest, matchL (pre.map dat ++ rest) (levels n.data.toList) = matchL rest (if m then levels t else []))
      (fun c pre W => c = .ret ∧ ∃ q : Bool, At w w.heap.size (.bool q) W ∧ At w (w.heap.size + 1) (.int .i64 0) W ∧ ∀ rest, matchL (pre.map dat ++ rest) (levels n.data.toList) = q)
      (fun _ _ ⟨_, _, h, _⟩ => h.glob)
      (fun _ _ k ⟨t, m, h4, h5, h8, h9, hr⟩ => ⟨t, m, h4.drewN k hG, h5.drewN k hG, h8.drewN k hG, h9.drewN k hG, hr⟩)
      (fun _ _ v ⟨t, m, h4, h5, h8, h9, hr⟩ => ⟨t, m, h4.setOther (by show _ + 2 ≠ _; omega) (by show _ ≤ _ + 2; omega) v hG, h5.setOther (by show _ + 2 ≠ _; omega) (by show _ ≤ _ + 2; omega) v hG, h8.setOther (by show _ + 2 ≠ _; omega) (by show _ ≤ _ + 2; omega) v hG, h9.setOther (by show _ + 2 ≠ _; omega) (by show _ ≤ _ + 2; omega) v hG, hr⟩)
      (fun _ _ k o o' ⟨t, m, h4, h5, h8, h9, hr⟩ hk ho hc => ⟨t, m, h4.put ho hc (by simp at hk; omega) o' hG, h5.put ho hc (by simp at hk; omega) o' hG, h8.put ho hc (by simp at hk; omega) o' hG, h9.put ho hc (by simp at hk; omega) o' hG, hr⟩)
      (fun _ _ _ k o o' ⟨hc0, q, h4, h5, hr⟩ hk ho hc => ⟨hc0, q, h4.put ho hc (by simp at hk; omega) o' hG, h5.put ho hc (by simp at hk; omega) o' hG, hr⟩)
      (fun _ o ⟨t, m, h4, h5, h8, h9, hr⟩ => ⟨t, m, h4.alloc o hG, h5.alloc o hG, h8.alloc o hG, h9.alloc o hG, hr⟩)
      ⟨n.data.toList, true, D4.alloc _ hG, D5.alloc _ hG, D8.alloc _ hG, D9.alloc _ hG, by rw [← Lib.size_eq]; exact Nat.le_refl _, fun rest => by simp⟩
    case hassign =>
      intro l x W K hK
      gi_wp2
      exact hK
    case hbody =>
      rintro l pre x W hpx ⟨t, m, h4, h5, h8, h9, htn, hr⟩ hbW
      have c4 := h4.cell; have f4 := h4.froz; have c5 := h5.cell; have f5 := h5.froz; have c8 := h8.cell; have f8 := h8.froz; have c9 := h9.cell; have f9 := h9.froz
      have hr' : ∀ rest, matchL ((pre ++ [x]).map dat ++ rest) (levels n.data.toList) = matchL (x.1.toList :: rest) (if m then levels t else []) := fun rest => by
        have := hr (x.1.toList :: rest)
        rw [← this, Lib.toList_data]
        simp [dat]
      have HR' := Lib.hid hr'; clear hr hr' hpx
      have ne1 : w.heap.size ≠ w.heap.size + 1 := by omega
      by_cases h35 : x.1.toList = [35]
      · have HT : Hid (∀ rest, matchL ((pre ++ [x]).map dat ++ rest) (levels n.data.toList) = true) := Lib.hid fun rest => by rw [HR'.out, h35]; rfl
        have fin : KeepsRest W ((W.setCell ⟨w.heap.size, 0, none⟩ (.bool true)).setCell ⟨w.heap.size + 1, 0, none⟩ (.int .i64 0)) ∧ ∃ q : Bool, At w w.heap.size (.bool q) ((W.setCell ⟨w.heap.size, 0, none⟩ (.bool true)).setCell ⟨w.heap.size + 1, 0, none⟩ (.int .i64 0)) ∧ At w (w.heap.size + 1) (.int .i64 0) ((W.setCell ⟨w.heap.size, 0, none⟩ (.bool true)).setCell ⟨w.heap.size + 1, 0, none⟩ (.int .i64 0)) ∧ ∀ rest, matchL ((pre ++ [x]).map dat ++ rest) (levels n.data.toList) = q :=
          ⟨(KeepsRest.setCell _ _ _).trans (KeepsRest.setCell _ _ _), true, (h4.set (Nat.le_refl _) _ hG).setOther (by show w.heap.size + 1 ≠ _; omega) (by show _ ≤ w.heap.size + 1; omega) _ hG, (h5.setOther (by show w.heap.size ≠ _; omega) (Nat.le_refl _) _ hG).set (by omega) _ hG, HT.out⟩
        have FIN := Lib.hid fin; clear fin
        gi_wp2
        obtain ⟨q1, q2⟩ := FIN.out
        exact ⟨q1, rfl, q2⟩
      · have e35 : (x.1.toList == [35]) = false := by simp [h35]
        have stop : ∀ W', Below W.heap.size W W' ∨ (∃ u v k, W' = ((W.drewN k).setCell ⟨w3.heap.size, 0, none⟩ u).setCell ⟨w3.heap.size + 1, 0, none⟩ v) →
            KeepsRest W ((W'.setCell ⟨w.heap.size, 0, none⟩ (.bool false)).setCell ⟨w.heap.size + 1, 0, none⟩ (.int .i64 0)) ∧ At w w.heap.size (.bool false) ((W'.setCell ⟨w.heap.size, 0, none⟩ (.bool false)).setCell ⟨w.heap.size + 1, 0, none⟩ (.int .i64 0)) ∧ At w (w.heap.size + 1) (.int .i64 0) ((W'.setCell ⟨w.heap.size, 0, none⟩ (.bool false)).setCell ⟨w.heap.size + 1, 0, none⟩ (.int .i64 0)) := by
          intro W' hW'
          have k0 : KeepsRest W W' ∧ At w w.heap.size (.bool false) W' ∧ At w (w.heap.size + 1) (.int .i64 0) W' := by
            rcases hW' with hb | ⟨u, v, k, rfl⟩
            · exact ⟨KeepsRest.below hb, h4.below hb hG, h5.below hb hG⟩
            · exact ⟨((KeepsRest.below (below_drewN W k)).trans (KeepsRest.setCell _ _ _)).trans (KeepsRest.setCell _ _ _),
                ((h4.drewN k hG).setOther (by show w3.heap.size ≠ _; omega) (by show _ ≤ w3.heap.size; omega) _ hG).setOther (by show w3.heap.size + 1 ≠ _; omega) (by show _ ≤ w3.heap.size + 1; omega) _ hG,
                ((h5.drewN k hG).setOther (by show w3.heap.size ≠ _; omega) (by show _ ≤ w3.heap.size; omega) _ hG).setOther (by show w3.heap.size + 1 ≠ _; omega) (by show _ ≤ w3.heap.size + 1; omega) _ hG⟩
          exact ⟨(k0.1.trans (KeepsRest.setCell _ _ _)).trans (KeepsRest.setCell _ _ _), (k0.2.1.set (Nat.le_refl _) _ hG).setOther (by show w.heap.size + 1 ≠ _; omega) (by show _ ≤ w.heap.size + 1; omega) _ hG, (k0.2.2.setOther (by show w.heap.size ≠ _; omega) (Nat.le_refl _) _ hG).set (by omega) _ hG⟩
        have STOP := Lib.hid stop; clear stop
        cases m
        · have HT : Hid (∀ rest, matchL ((pre ++ [x]).map dat ++ rest) (levels n.data.toList) = false) := Lib.hid fun rest => by rw [HR'.out]; exact matchL_none h35 rest
          gi_wp2
          obtain ⟨q1, q2, q3⟩ := STOP.out W (.inl (Below.refl _ _))
          exact ⟨q1, rfl, false, q2, q3, HT.out⟩
        · obtain ⟨mx, hm⟩ := h4.glob.maxl
          have hcut := Tryd.strings_Cut ⟨t.toArray⟩ ⟨#[47]⟩ mx W (by show t.toArray.size < _; simp; omega) hm
          simp only at hcut
          rw [cut_eq] at hcut
          have hlt := cut47_lt t
          have hpt := cut47_parts t
          have hlv := levels_cut t
          generalize cut47 t = d at *
          obtain ⟨y, t', fo⟩ := d
          simp only at *
          have htn' : t'.length ≤ n.size := by
            cases fo
            · simp at hpt; rw [hpt.2]; simp
            · have := hlt rfl; omega
          have hnm : levels t = y :: (if fo then levels t' else []) := by rw [hlv]; cases fo <;> rfl
          have HNM := Lib.hid hnm
          have HC := Lib.hid hcut
          clear hcut hlt hpt hlv hm hnm
          have fin : ∀ k, (x.1.toList = [43] ∨ x.1.toList = y) → KeepsRest W (((W.drewN k).setCell ⟨w3.heap.size, 0, none⟩ (.string ⟨t'.toArray⟩)).setCell ⟨w3.heap.size + 1, 0, none⟩ (.bool fo)) ∧
              (((W.drewN k).setCell ⟨w3.heap.size, 0, none⟩ (.string ⟨t'.toArray⟩)).setCell ⟨w3.heap.size + 1, 0, none⟩ (.bool fo)).heap[w3.heap.size + 2]? = W.heap[w3.heap.size + 2]? ∧
              ∃ (t : List UInt8) (m : Bool), At w w.heap.size (.bool false) (((W.drewN k).setCell ⟨w3.heap.size, 0, none⟩ (.string ⟨t'.toArray⟩)).setCell ⟨w3.heap.size + 1, 0, none⟩ (.bool fo)) ∧ At w (w.heap.size + 1) (.int .i64 0) (((W.drewN k).setCell ⟨w3.heap.size, 0, none⟩ (.string ⟨t'.toArray⟩)).setCell ⟨w3.heap.size + 1, 0, none⟩ (.bool fo)) ∧
              At w w3.heap.size (.string ⟨t.toArray⟩) (((W.drewN k).setCell ⟨w3.heap.size, 0, none⟩ (.string ⟨t'.toArray⟩)).setCell ⟨w3.heap.size + 1, 0, none⟩ (.bool fo)) ∧ At w (w3.heap.size + 1) (.bool m) (((W.drewN k).setCell ⟨w3.heap.size, 0, none⟩ (.string ⟨t'.toArray⟩)).setCell ⟨w3.heap.size + 1, 0, none⟩ (.bool fo)) ∧ t.length ≤ n.size ∧
              ∀ rest, matchL ((pre ++ [x]).map dat ++ rest) (levels n.data.toList) = matchL rest (if m then levels t else []) := by
            intro k hxy
            refine ⟨((KeepsRest.below (below_drewN W k)).trans (KeepsRest.setCell _ _ _)).trans (KeepsRest.setCell _ _ _), ?_, t', fo, ?_, ?_, ?_, ?_, htn', fun rest => ?_⟩
            · rw [Below.heap_setCell _ _ _ _ (by show w3.heap.size + 2 ≠ w3.heap.size + 1; omega), Below.heap_setCell _ _ _ _ (by show w3.heap.size + 2 ≠ w3.heap.size; omega)]; rfl
            · exact ((h4.drewN k hG).setOther (by show w3.heap.size ≠ _; omega) (by show _ ≤ w3.heap.size; omega) _ hG).setOther (by show w3.heap.size + 1 ≠ _; omega) (by show _ ≤ w3.heap.size + 1; omega) _ hG
            · exact ((h5.drewN k hG).setOther (by show w3.heap.size ≠ _; omega) (by show _ ≤ w3.heap.size; omega) _ hG).setOther (by show w3.heap.size + 1 ≠ _; omega) (by show _ ≤ w3.heap.size + 1; omega) _ hG
            · exact ((h8.drewN k hG).set (by omega) _ hG).setOther (by show w3.heap.size + 1 ≠ _; omega) (by show _ ≤ w3.heap.size + 1; omega) _ hG
            · exact ((h9.drewN k hG).setOther (p := ⟨w3.heap.size, 0, none⟩) (by show w3.heap.size ≠ _; omega) (by show _ ≤ w3.heap.size; omega) (.string ⟨t'.toArray⟩) hG).set (by omega) _ hG
            · rw [HR'.out]
              simp only [if_true]
              rw [HNM.out]
              exact matchL_step h35 rest y _ hxy
          have FIN := Lib.hid fin; clear fin
          by_cases h43 : x.1.toList = [43]
          · have n43 : (!(x.1.toList == [43])) = false := by simp [h43]
            gi_wp2_with (refine ⟨trivial, ?_⟩; gi_at_call 55; refine (CallsIn.inRound l (callsIn_wide.2 HC.out)).mono ?_; rintro e w5 ⟨rfl, k, rfl⟩)
            exact FIN.out k (.inl h43)
          · have n43 : (!(x.1.toList == [43])) = true := by simp [h43]
            by_cases hxy : x.1.toList = y
            · have nxy : (!(x.1.toList == y)) = false := by simp [hxy]
              have HXY := Lib.hid hxy; clear hxy
              gi_wp2_with (refine ⟨trivial, ?_⟩; gi_at_call 55; refine (CallsIn.inRound l (callsIn_wide.2 HC.out)).mono ?_; rintro e w5 ⟨rfl, k, rfl⟩)
              exact FIN.out k (.inr HXY.out)
            · have nxy : (!(x.1.toList == y)) = true := by simp [hxy]
              have HT : Hid (∀ rest, matchL ((pre ++ [x]).map dat ++ rest) (levels n.data.toList) = false) := Lib.hid fun rest => by
                rw [HR'.out]
                simp only [if_true]
                rw [HNM.out]
                exact matchL_stop h35 rest y _ (fun h => h.elim h43 hxy)
              gi_wp2_with (refine ⟨trivial, ?_⟩; gi_at_call 55; refine (CallsIn.inRound l (callsIn_wide.2 HC.out)).mono ?_; rintro e w5 ⟨rfl, k, rfl⟩)
              obtain ⟨q1, q2, q3⟩ := STOP.out _ (.inr ⟨.string ⟨t'.toArray⟩, .bool fo, k, rfl⟩)
              exact ⟨q1, rfl, false, q2, q3, HT.out⟩
    case hdone =>
      rintro D W ⟨t, m, h4, h5, h8, h9, htn, hr⟩ hD hK
      have c4 := h4.cell; have f4 := h4.froz; have c5 := h5.cell; have f5 := h5.froz; have c9 := h9.cell
      have hqr : Hid (r = !m) := Lib.hid (by
        have := hr []
        rw [HR.out]
        rw [show levels f.data.toList = (levs f.data.toList).map dat ++ [] by rw [List.append_nil]; exact (levs_fst _).symm, this]
        cases m
        · rfl
        · have := levels_ne t
          simp [matchL, this])
      have hK' := (KeepsRest.setCell (W.setCell ⟨w.heap.size, 0, none⟩ (.bool !m)) ⟨w.heap.size + 1, 0, none⟩ (.int .i64 0)).2 D _ ((KeepsRest.setCell W ⟨w.heap.size, 0, none⟩ (.bool !m)).2 D _ hK rfl) rfl
      have h4' := ((h4.set (Nat.le_refl _) (.bool !m) hG).setOther (p := ⟨w.heap.size + 1, 0, none⟩) (by show w.heap.size + 1 ≠ _; omega) (by show _ ≤ w.heap.size + 1; omega) (.int .i64 0) hG).put hK' rfl (by simp at hD; omega) (.deferred none) hG
      have h5' := ((h5.setOther (p := ⟨w.heap.size, 0, none⟩) (by show w.heap.size ≠ _; omega) (Nat.le_refl _) (.bool !m) hG).set (by omega) (.int .i64 0) hG).put hK' rfl (by simp at hD; omega) (.deferred none) hG
      clear hr
      gi_wp2
      refine ⟨by simp, .inl ⟨_, _, rfl, run_takeDeferred hK', ?_⟩⟩
      have d4 := h4'.cell
      have d5 := h5'.cell
      exact ⟨.tuple #[.bool !m, .int .i64 0], by simp [results, Tryd.results38, go_sem, d4, d5], by rw [hqr.out]; exact ⟨rfl, h4'.bel⟩⟩
    case hstop =>
      rintro D c pre W hpre ⟨rfl, q, h4, h5, hr⟩ hD hK
      have hqr : Hid (r = q) := Lib.hid (by
        obtain ⟨z, hz⟩ := hpre
        have := hr (z.map dat)
        rw [HR.out, ← this, ← List.map_append, hz]
        exact congrArg (fun y => matchL y _) (levs_fst _).symm)
      have h4' := h4.put hK rfl (by simp at hD; omega) (.deferred none) hG
      have h5' := h5.put hK rfl (by simp at hD; omega) (.deferred none) hG
      gi_wp2
      refine ⟨by simp, .inl ⟨_, _, rfl, run_takeDeferred hK, ?_⟩⟩
      have c4 := h4'.cell
      have c5 := h5'.cell
      exact ⟨.tuple #[.bool q, .int .i64 0], by simp [results, Tryd.results38, go_sem, c4, c5], by rw [hqr.out]; exact ⟨rfl, h4'.bel⟩⟩

/-- **topic.Matches.** -/
theorem matches_walk (f n : ByteArray) (w : World) (hG : Glob w) :
    Calls Tryd.prog 38 #[.string f, .string n] w (Gives (.tuple #[.bool (matchF f n).1, .int .i64 (matchF f n).2]) w) := by
  have hA4 := At.new (w := w) (W := w) (.bool false) 4 (Below.refl _ _) hG
  have hA4' := hA4.alloc (.cells #[.int .i64 0] 29) hG
  have hA5 := At.new (w := w) (.int .i64 0) 29 hA4.bel hG
  rw [World.size_alloc] at hA5
  have HF := Lib.hid (fun W hW => filter_walk f W hW)
  have HN := Lib.hid (fun W hW => name_walk n W hW)
  cases hf : filterF f
  · have hm : matchF f n = (false, 121) := by simp [matchF, hf]
    rw [hm]
    have HF : Hid (∀ W, Glob W → Calls Tryd.prog 37 #[.string f] W (Gives (.int .i64 121) W)) := fun W hW => by have := filter_walk f W hW; rwa [hf] at this
    clear hf hm
    go_enter Tryd.func38, Tryd.ntmps38
    go_wp2_with (go_at_call 37; refine (HF.out _ hA5.glob).mono ?_; rintro e w1 ⟨rfl, hb1⟩; have B4 := hA4'.below hb1 hG; have B5 := hA5.below hb1 hG; have c4 := B4.cell; have f4 := B4.froz; have c5 := B5.cell; have f5 := B5.froz)
    have B4' := (B4.set (Nat.le_refl _) (.bool false) hG).setOther (p := ⟨w.heap.size + 1, 0, none⟩) (by show w.heap.size + 1 ≠ _; omega) (by show _ ≤ w.heap.size + 1; omega) (.int .i64 121) hG
    have B5' := (B5.setOther (p := ⟨w.heap.size, 0, none⟩) (by show w.heap.size ≠ _; omega) (Nat.le_refl _) (.bool false) hG).set (by omega) (.int .i64 121) hG
    have d4 := B4'.cell; have d5 := B5'.cell
    exact bodyPost_ret (v := .tuple #[.bool false, .int .i64 121]) (by simp [results, Tryd.results38, go_sem, d4, d5]) rfl ⟨rfl, B4'.bel⟩
  · have HF : Hid (∀ W, Glob W → Calls Tryd.prog 37 #[.string f] W (Gives (.int .i64 0) W)) := fun W hW => by have := filter_walk f W hW; rwa [hf] at this
    cases hn : nameF n
    · have hm : matchF f n = (false, 120) := by simp [matchF, hf, hn]
      rw [hm]
      have HN : Hid (∀ W, Glob W → Calls Tryd.prog 33 #[.string n] W (Gives (.int .i64 120) W)) := fun W hW => by have := name_walk n W hW; rwa [hn] at this
      clear hf hm hn
      go_enter Tryd.func38, Tryd.ntmps38
      go_wp2_with (go_at_call 37; refine (HF.out _ hA5.glob).mono ?_; rintro e w1 ⟨rfl, hb1⟩; have B4 := hA4'.below hb1 hG; have B5 := hA5.below hb1 hG)
      go_wp2_with (go_at_call 33; refine (HN.out _ B5.glob).mono ?_; rintro e w2 ⟨rfl, hb2⟩; have C4 := B4.below hb2 hG; have C5 := B5.below hb2 hG; have c4 := C4.cell; have f4 := C4.froz; have c5 := C5.cell; have f5 := C5.froz)
      have B4' := (C4.set (Nat.le_refl _) (.bool false) hG).setOther (p := ⟨w.heap.size + 1, 0, none⟩) (by show w.heap.size + 1 ≠ _; omega) (by show _ ≤ w.heap.size + 1; omega) (.int .i64 120) hG
      have B5' := (C5.setOther (p := ⟨w.heap.size, 0, none⟩) (by show w.heap.size ≠ _; omega) (Nat.le_refl _) (.bool false) hG).set (by omega) (.int .i64 120) hG
      have d4 := B4'.cell; have d5 := B5'.cell
      exact bodyPost_ret (v := .tuple #[.bool false, .int .i64 120]) (by simp [results, Tryd.results38, go_sem, d4, d5]) rfl ⟨rfl, B4'.bel⟩
    · cases hx : (Lib.hasPrefix n.data.toList [36] && isWild (f.data.toList.take 1))
      · have hm : matchF f n = (matchL (levels f.data.toList) (levels n.data.toList), 0) := by simp [matchF, hf, hn, takesF, hx]
        rw [hm]
        exact matches_loop f n w hG hf hn hx
      · have hm : matchF f n = (false, 0) := by simp [matchF, hf, hn, takesF, hx]
        rw [hm]
        have hfs : f.size ≤ 65535 := by unfold filterF at hf; simp at hf; exact utfIs_size hf.2.1
        have hf0 : 1 ≤ f.size := by
          rcases Nat.eq_zero_or_pos f.size with h | h
          · simp [filterF, h] at hf
          · exact h
        have HN : Hid (∀ W, Glob W → Calls Tryd.prog 33 #[.string n] W (Gives (.int .i64 0) W)) := fun W hW => by have := name_walk n W hW; rwa [hn] at this
        have hpre := fun W => Tryd.strings_HasPrefix n ⟨#[36]⟩ W
        have hex : (f.extract 0 1).size < 4294967281 := by rw [ByteArray.size_extract]; omega
        have hwild := fun W => wild_walk (f.extract 0 1) W hex
        clear hex
        have htake : (f.extract 0 1).data.toList = f.data.toList.take 1 := by simp
        rw [htake] at hwild
        simp only at hpre
        simp only [Bool.and_eq_true] at hx
        rw [hx.1] at hpre
        rw [hx.2] at hwild
        have HP := Lib.hid hpre; have HW := Lib.hid hwild
        have hone : decide (1 ≤ (f.size : Int)) = true := decide_eq_true (by omega)
        clear hpre hwild htake hf hn hx hm
        go_enter Tryd.func38, Tryd.ntmps38
        go_wp2_with (go_at_call 37; refine (HF.out _ hA5.glob).mono ?_; rintro e w1 ⟨rfl, hb1⟩; have B4 := hA4'.below hb1 hG; have B5 := hA5.below hb1 hG)
        go_wp2_with (go_at_call 33; refine (HN.out _ B5.glob).mono ?_; rintro e w2 ⟨rfl, hb2⟩; have C4 := B4.below hb2 hG; have C5 := B5.below hb2 hG)
        go_wp2_with (first | (go_at_call 54; refine (HP.out _).mono ?_; rintro e w3 ⟨rfl, rfl⟩) | (go_at_call 49; refine (HW.out _).mono ?_; rintro e w4 ⟨rfl, hb4⟩; have D4 := C4.below hb4 hG; have D5 := C5.below hb4 hG; have c4 := D4.cell; have f4 := D4.froz; have c5 := D5.cell; have f5 := D5.froz))
        have B4' := (D4.set (Nat.le_refl _) (.bool false) hG).setOther (p := ⟨w.heap.size + 1, 0, none⟩) (by show w.heap.size + 1 ≠ _; omega) (by show _ ≤ w.heap.size + 1; omega) (.int .i64 0) hG
        have B5' := (D5.setOther (p := ⟨w.heap.size, 0, none⟩) (by show w.heap.size ≠ _; omega) (Nat.le_refl _) (.bool false) hG).set (by omega) (.int .i64 0) hG
        have d4 := B4'.cell; have d5 := B5'.cell
        exact bodyPost_ret (v := .tuple #[.bool false, .int .i64 0]) (by simp [results, Tryd.results38, go_sem, d4, d5]) rfl ⟨rfl, B4'.bel⟩

end Go.Proofs.YtaaaifeommdblaaDoor
