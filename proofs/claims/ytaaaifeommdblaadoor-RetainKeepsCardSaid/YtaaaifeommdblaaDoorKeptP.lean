/- What is kept: the program's map and the reference's row, plain. -/
import Derived.Test.YtaaaifeommdblaaDoorKept
namespace Go.Proofs.YtaaaifeommdblaaDoor
open Go.RowKit Go.Sort

structure KInv (l : KeptL) : Prop where
  nd : (l.map (·.1)).Nodup
  tp : ∀ p ∈ l, p.2.topic = p.1
  nm : ∀ p ∈ l, nameF p.1 = true

abbrev Rising (L : List MsgR) : Prop := L.Pairwise (fun a b => blt a.topic b.topic = true)
/-- The rising row of what is kept. -/
def SortedOf (l : KeptL) (L : List MsgR) : Prop := L.Perm (l.map (·.2)) ∧ Rising L

theorem rising_unique {a b : List MsgR} (ha : Rising a) (hb : Rising b) (hp : a.Perm b) : a = b := by
  refine List.Perm.eq_of_pairwise (le := fun a b : MsgR => blt a.topic b.topic = true) ?_ ha hb hp
  intro x y _ _ h1 h2
  have := blt_trans h1 h2
  rw [blt_irrefl] at this
  cases this
theorem sortedOf_unique {l : KeptL} {a b : List MsgR} (ha : SortedOf l a) (hb : SortedOf l b) : a = b := rising_unique ha.2 hb.2 (ha.1.trans hb.1.symm)

/-- The reference's round. -/
def insStep (x : MsgR) (s : List MsgR × Bool) (y : MsgR) : List MsgR × Bool :=
  (if y.topic = x.topic then (if !s.2 && blt x.topic y.topic then s.1 ++ [x] else s.1) else (if !s.2 && blt x.topic y.topic then s.1 ++ [x] else s.1) ++ [y], s.2 || blt x.topic y.topic)
def insR (L : List MsgR) (x : MsgR) : List MsgR :=
  if (L.foldl (insStep x) ([], decide (x.load.size = 0))).2 = true then (L.foldl (insStep x) ([], decide (x.load.size = 0))).1 else (L.foldl (insStep x) ([], decide (x.load.size = 0))).1 ++ [x]
def putR (L : List MsgR) (x : MsgR) : (Bool × Int) × List MsgR :=
  if nameF x.topic = false then ((false, 120), L) else
  if x.qos < 0 ∨ 2 < x.qos then ((false, 1), L) else
  if x.keep = false then ((false, 0), L) else ((true, 0), insR L x)

theorem ins_true (x : MsgR) : ∀ (L acc : List MsgR), L.foldl (insStep x) (acc, true) = (acc ++ L.filter (fun y => decide (y.topic ≠ x.topic)), true)
  | [], acc => by simp
  | y :: L, acc => by
    have hstep : insStep x (acc, true) y = (if y.topic = x.topic then acc else acc ++ [y], true) := by unfold insStep; simp
    rw [List.foldl_cons, List.filter_cons, hstep]
    by_cases h : y.topic = x.topic
    · rw [if_pos h, ins_true x L acc, if_neg (by simpa using h)]
    · rw [if_neg h, ins_true x L (acc ++ [y]), if_pos (by simpa using h)]; simp
theorem rising_cons {y : MsgR} {L : List MsgR} (h : Rising (y :: L)) : (∀ z ∈ L, blt y.topic z.topic = true) ∧ Rising L := List.pairwise_cons.1 h
theorem blt_ne {a b : ByteArray} (h : blt a b = true) : a ≠ b := fun e => by rw [e, blt_irrefl] at h; cases h
theorem ins_false (x : MsgR) : ∀ (L acc : List MsgR), Rising L → (if (L.foldl (insStep x) (acc, false)).2 = true then (L.foldl (insStep x) (acc, false)).1 else (L.foldl (insStep x) (acc, false)).1 ++ [x]) =
    acc ++ (L.filter (fun y => blt y.topic x.topic) ++ x :: L.filter (fun y => blt x.topic y.topic))
  | [], acc, _ => by simp
  | y :: L, acc, hr => by
    obtain ⟨hy, hL⟩ := rising_cons hr
    rw [List.foldl_cons]
    have hstep : insStep x (acc, false) y = (if y.topic = x.topic then (if blt x.topic y.topic then acc ++ [x] else acc) else (if blt x.topic y.topic then acc ++ [x] else acc) ++ [y], blt x.topic y.topic) := by
      unfold insStep; simp
    rw [hstep]
    cases h : blt x.topic y.topic
    · simp only [Bool.false_eq_true, if_false]
      by_cases he : y.topic = x.topic
      · rw [if_pos he, ins_false x L acc hL, List.filter_cons, List.filter_cons, if_neg (by rw [he, blt_irrefl]; decide), if_neg (by rw [h]; decide)]
      · have hlt : blt y.topic x.topic = true := by
          cases h2 : blt y.topic x.topic
          · exact absurd (blt_total h2 h) he
          · rfl
        rw [if_neg he, ins_false x L (acc ++ [y]) hL, List.filter_cons, List.filter_cons, if_pos hlt, if_neg (by rw [h]; decide)]; simp
    · have he : ¬ y.topic = x.topic := fun e => blt_ne h e.symm
      simp only [if_true]
      rw [if_neg he, ins_true]
      simp only [if_true]
      have h1 : ∀ z ∈ L, blt x.topic z.topic = true := fun z hz => blt_trans h (hy z hz)
      have e1 : L.filter (fun z => decide (z.topic ≠ x.topic)) = L := List.filter_eq_self.2 (fun z hz => by simpa using Ne.symm (blt_ne (h1 z hz)))
      have e2 : L.filter (fun z => blt z.topic x.topic) = [] := List.filter_eq_nil_iff.2 (fun z hz => by rw [blt_asymm (h1 z hz)]; decide)
      have e3 : L.filter (fun z => blt x.topic z.topic) = L := List.filter_eq_self.2 h1
      rw [List.filter_cons, List.filter_cons, if_neg (by rw [blt_asymm h]; decide), if_pos h, e1, e2, e3]
      simp

theorem split_perm (x : MsgR) : ∀ L : List MsgR, (L.filter (fun y => blt y.topic x.topic) ++ L.filter (fun y => blt x.topic y.topic)).Perm (L.filter (fun y => decide (y.topic ≠ x.topic)))
  | [] => by simp
  | y :: L => by
    have ih := split_perm x L
    rw [List.filter_cons, List.filter_cons, List.filter_cons]
    cases h1 : blt y.topic x.topic
    · cases h2 : blt x.topic y.topic
      · have he := blt_total h1 h2
        rw [if_neg (by decide), if_neg (by decide), if_neg (by simp [he])]; exact ih
      · have he : y.topic ≠ x.topic := fun e => blt_ne h2 e.symm
        rw [if_neg (by decide), if_pos rfl, if_pos (by simpa using he)]
        exact List.perm_middle.trans (ih.cons y)
    · have he : y.topic ≠ x.topic := blt_ne h1
      rw [blt_asymm h1, if_pos rfl, if_neg (by decide), if_pos (by simpa using he)]
      exact ih.cons y

theorem put_vals {l : KeptL} (hn : (l.map (·.1)).Nodup) (ht : ∀ p ∈ l, p.2.topic = p.1) (x : MsgR) : ((put_ l x.topic x).map (·.2)).Perm (x :: (l.map (·.2)).filter (fun y => decide (y.topic ≠ x.topic))) := by
  unfold put_
  split
  · rename_i hin
    induction l with
    | nil => simp at hin
    | cons p l ih =>
      rw [List.map_cons, List.nodup_cons] at hn
      have htl : ∀ q ∈ l, q.2.topic = q.1 := fun q hq => ht q (.tail _ hq)
      by_cases hp : p.1 = x.topic
      · have hno : ∀ q ∈ l, q.1 ≠ x.topic := fun q hq e => hn.1 (List.mem_map.2 ⟨q, hq, by rw [e, hp]⟩)
        rw [List.map_cons, List.map_cons, if_pos hp, List.map_cons, List.filter_cons, if_neg (by rw [ht p (.head _), hp]; simp)]
        have e1 : l.map (fun p => if p.1 = x.topic then (x.topic, x) else p) = l := by
          conv => rhs; rw [← List.map_id l]
          apply List.map_congr_left
          intro q hq
          rw [if_neg (hno q hq)]; rfl
        have e2 : (l.map (·.2)).filter (fun y => decide (y.topic ≠ x.topic)) = l.map (·.2) := List.filter_eq_self.2 (fun y hy => by
          obtain ⟨q, hq, rfl⟩ := List.mem_map.1 hy
          rw [htl q hq]; simpa using hno q hq)
        rw [e1, e2]
      · have hin' : x.topic ∈ l.map (·.1) := by
          rcases List.mem_cons.1 hin with h | h
          · exact absurd h.symm hp
          · exact h
        have := ih hn.2 htl hin'
        rw [List.map_cons, List.map_cons, if_neg hp, List.map_cons, List.filter_cons, if_pos (by rw [ht p (.head _)]; simpa using hp)]
        exact (this.cons p.2).trans (List.Perm.swap _ _ _)
  · rename_i hin
    have e2 : (l.map (·.2)).filter (fun y => decide (y.topic ≠ x.topic)) = l.map (·.2) := List.filter_eq_self.2 (fun y hy => by
      obtain ⟨q, hq, rfl⟩ := List.mem_map.1 hy
      rw [ht q hq]
      simp only [decide_eq_true_eq]
      exact fun e => hin (List.mem_map.2 ⟨q, hq, e⟩))
    rw [e2, List.map_append]
    exact List.perm_append_comm

/-- The program's map and the reference's row are the same. -/
structure Kin (l : KeptL) (L : List MsgR) : Prop where
  inv : KInv l
  st : SortedOf l L

theorem Kin.nil : Kin [] [] := ⟨⟨by simp, by simp, by simp⟩, by simp [SortedOf]⟩
theorem Kin.len {l : KeptL} {L : List MsgR} (h : Kin l L) : l.length = L.length := by have := h.st.1.length_eq; simpa using this.symm

theorem Kin.put {l : KeptL} {L : List MsgR} (h : Kin l L) (x : MsgR) : Kin (putM l x).2 (putR L x).2 ∧ (putM l x).1 = (putR L x).1 ∧ (putM l x).2.length ≤ l.length + 1 := by
  unfold putM putR
  split
  · exact ⟨h, rfl, by simp⟩
  rename_i hn
  split
  · exact ⟨h, rfl, by simp⟩
  split
  · exact ⟨h, rfl, by simp⟩
  have hn' : nameF x.topic = true := by simpa using hn
  by_cases hp : x.load.size = 0
  · rw [if_pos hp]
    have e : insR L x = L.filter (fun y => decide (y.topic ≠ x.topic)) := by
      unfold insR
      rw [decide_eq_true hp, ins_true]; simp
    refine ⟨⟨⟨(List.filter_sublist.map _).nodup h.inv.nd, fun p hp => h.inv.tp p (List.mem_filter.1 hp).1, fun p hp => h.inv.nm p (List.mem_filter.1 hp).1⟩, ?_, ?_⟩, rfl, ?_⟩
    · simp only [e]
      refine (h.st.1.filter _).trans ?_
      rw [List.filter_map]
      have : l.filter ((fun y : MsgR => decide (y.topic ≠ x.topic)) ∘ (·.2)) = l.filter (fun p => decide (p.1 ≠ x.topic)) := by
        apply List.filter_congr
        intro p hp
        simp only [Function.comp, h.inv.tp p hp]
      rw [this]
    · simp only [e]
      exact h.st.2.sublist List.filter_sublist
    · simp only
      have := List.length_filter_le (fun p : ByteArray × MsgR => decide (p.1 ≠ x.topic)) l
      omega
  · rw [if_neg hp]
    have e : insR L x = L.filter (fun y => blt y.topic x.topic) ++ x :: L.filter (fun y => blt x.topic y.topic) := by
      unfold insR
      rw [decide_eq_false hp]
      have := ins_false x L [] h.st.2
      simpa using this
    refine ⟨⟨⟨?_, ?_, ?_⟩, ?_, ?_⟩, rfl, put_length _ _ _⟩
    · rw [put_keys]
      split
      · exact h.inv.nd
      · rename_i hin
        rw [List.nodup_append]
        refine ⟨h.inv.nd, by simp, fun a ha b hb => ?_⟩
        simp at hb
        rintro rfl
        exact hin (hb ▸ ha)
    · intro p hp
      unfold put_ at hp
      split at hp
      · obtain ⟨q, hq, rfl⟩ := List.mem_map.1 hp
        split
        · rfl
        · exact h.inv.tp q hq
      · rcases List.mem_append.1 hp with hp | hp
        · exact h.inv.tp p hp
        · simp at hp; subst hp; rfl
    · intro p hp
      unfold put_ at hp
      split at hp
      · obtain ⟨q, hq, rfl⟩ := List.mem_map.1 hp
        split
        · exact hn'
        · exact h.inv.nm q hq
      · rcases List.mem_append.1 hp with hp | hp
        · exact h.inv.nm p hp
        · simp at hp; subst hp; exact hn'
    · simp only [e]
      have h1 := put_vals h.inv.nd h.inv.tp x
      refine (List.perm_middle.trans ?_).trans h1.symm
      exact ((split_perm x L).trans (h.st.1.filter _)).cons x
    · simp only [e]
      rw [Rising, List.pairwise_append, List.pairwise_cons]
      refine ⟨h.st.2.sublist List.filter_sublist, ⟨fun y hy => (List.mem_filter.1 hy).2, h.st.2.sublist List.filter_sublist⟩, fun a ha b hb => ?_⟩
      have ha' : blt a.topic x.topic = true := (List.mem_filter.1 ha).2
      rcases List.mem_cons.1 hb with rfl | hb
      · exact ha'
      · exact blt_trans ha' (List.mem_filter.1 hb).2

theorem Kin.find {l : KeptL} {L : List MsgR} (h : Kin l L) (name : ByteArray) : L.find? (fun y => decide (y.topic = name)) = at_ l name := by
  have hmem : ∀ y, y ∈ L ↔ (y.topic, y) ∈ l := fun y => by
    rw [h.st.1.mem_iff, List.mem_map]
    constructor
    · rintro ⟨p, hp, rfl⟩
      have := h.inv.tp p hp
      rw [this]; exact hp
    · intro hp; exact ⟨_, hp, rfl⟩
  cases hat : at_ l name with
  | none =>
    rw [List.find?_eq_none]
    intro y hy
    simp only [decide_eq_true_eq]
    rintro rfl
    have := (at_mem h.inv.nd y.topic y).1 ((hmem y).1 hy)
    rw [hat] at this; cases this
  | some y =>
    have hin := (at_mem h.inv.nd name y).2 hat
    have hty : y.topic = name := h.inv.tp _ hin
    cases hf : L.find? (fun y => decide (y.topic = name)) with
    | none =>
      rw [List.find?_eq_none] at hf
      have := hf y ((hmem y).2 (by rw [hty]; exact hin))
      simp [hty] at this
    | some z =>
      have hz1 := List.find?_some hf
      have hz2 := List.mem_of_find?_eq_some hf
      simp only [decide_eq_true_eq] at hz1
      have := (at_mem h.inv.nd z.topic z).1 ((hmem z).1 hz2)
      rw [hz1, hat] at this
      exact this.symm

theorem Kin.takes {l : KeptL} {L : List MsgR} (h : Kin l L) {f : ByteArray} (hf : filterF f = true) : SortedOf (l.filter (fun p => (matchF f p.1).1)) (L.filter (fun y => takesF f y.topic)) := by
  refine ⟨(h.st.1.filter _).trans ?_, h.st.2.sublist List.filter_sublist⟩
  rw [List.filter_map]
  have : l.filter ((fun y : MsgR => takesF f y.topic) ∘ (·.2)) = l.filter (fun p => (matchF f p.1).1) := by
    apply List.filter_congr
    intro p hp
    simp only [Function.comp, h.inv.tp p hp]
    unfold matchF
    rw [if_pos hf, if_pos (h.inv.nm p hp)]
  rw [this]

end Go.Proofs.YtaaaifeommdblaaDoor
