/- subs.Index: in whatever order filters are added, the same is found. -/
import Derived.Test.YtaaaifeommdblaaDoorFew
import Derived.Test.YtaaaifeommdblaaDoorSubsAwake
namespace Go.Proofs.YtaaaifeommdblaaDoor
open Go.RowKit Go.Sort

def keyO (o : OpR) : ByteArray × ByteArray := (o.client, o.text)
def okO (o : OpR) : Bool := filterF o.text && (decide (0 ≤ o.qos) && decide (o.qos ≤ 2))
def addO (s : SubL × Int) (o : OpR) : SubL × Int := (addF s.1 s.2 o.client o.text o.qos).2
def adds (ops : List OpR) : SubL × Int := ops.foldl addO ([], 0)
theorem adds_snoc (ops : List OpR) (o : OpR) : adds (ops ++ [o]) = addO (adds ops) o := by unfold adds; rw [List.foldl_append]; rfl

theorem adds_inv (ops : List OpR) : Inv (adds ops).1 (adds ops).2 ∧ (adds ops).1.length ≤ ops.length ∧ (adds ops).2 ≤ ops.length := by
  obtain ⟨r, hr⟩ : ∃ r, r = ops.reverse := ⟨_, rfl⟩
  have : ops = r.reverse := by rw [hr, List.reverse_reverse]
  subst this
  clear hr
  induction r with
  | nil => exact ⟨Inv.nil, by simp [adds], by simp [adds]⟩
  | cons o r ih =>
    rw [List.reverse_cons, adds_snoc]
    have h := ih.1.add o.client o.text o.qos
    refine ⟨h.1, ?_, ?_⟩
    · have := h.2.1; have := ih.2.1; simp only [List.length_append, List.length_cons, List.length_nil] at *; show (addF _ _ _ _ _).2.1.length ≤ _; omega
    · have := h.2.2; have := ih.2.2; simp only [List.length_append, List.length_cons, List.length_nil] at *; show (addF _ _ _ _ _).2.2 ≤ _; omega

/-- The keys with their qualities. -/
def kq (l : SubL) : List ((ByteArray × ByteArray) × Int) := l.map (fun p => (p.1, p.2.1))
theorem kq_keys (l : SubL) : l.map (·.1) = (kq l).map (·.1) := by unfold kq; simp

theorem at_none_of {l : SubL} {k : ByteArray × ByteArray} (h : k ∉ l.map (·.1)) : at_ l k = none := by
  cases e : at_ l k with
  | none => rfl
  | some x => exact absurd (at_some_mem e) h

theorem adds_kq (ops : List OpR) (hd : (ops.map keyO).Nodup) : kq (adds ops).1 = (ops.filter okO).map (fun o => (keyO o, o.qos)) := by
  obtain ⟨r, hr⟩ : ∃ r, r = ops.reverse := ⟨_, rfl⟩
  have : ops = r.reverse := by rw [hr, List.reverse_reverse]
  subst this
  clear hr
  induction r with
  | nil => rfl
  | cons o r ih =>
    rw [List.reverse_cons] at hd ⊢
    rw [List.map_append, List.nodup_append] at hd
    have ih' := ih hd.1
    rw [adds_snoc, List.filter_append, List.map_append, ← ih']
    have hno : keyO o ∉ (adds r.reverse).1.map (·.1) := by
      rw [kq_keys, ih']
      intro hm
      simp only [List.map_map, List.mem_map, Function.comp] at hm
      obtain ⟨x, hx, hxe⟩ := hm
      exact hd.2.2 (keyO x) (List.mem_map.2 ⟨x, (List.mem_filter.1 hx).1, rfl⟩) (keyO o) (by simp) hxe
    generalize adds r.reverse = s at *
    obtain ⟨l, n⟩ := s
    unfold addO addF
    simp only
    by_cases h1 : filterF o.text = false
    · have : okO o = false := by unfold okO; rw [h1]; rfl
      rw [if_pos h1]; simp [this]
    · rw [if_neg h1]
      have h1' : filterF o.text = true := by simpa using h1
      by_cases h2 : o.qos < 0 ∨ 2 < o.qos
      · have : okO o = false := by unfold okO; rw [h1']; simp; omega
        rw [if_pos h2]; simp [this]
      · have : okO o = true := by unfold okO; rw [h1']; simp; omega
        rw [if_neg h2]
        have ha : at_ l (o.client, o.text) = none := at_none_of hno
        rw [ha]
        simp only [put_]
        rw [if_neg (show (o.client, o.text) ∉ l.map (·.1) from hno)]
        unfold kq
        rw [List.map_append]
        simp [this, keyO]

def wantK (l : List ((ByteArray × ByteArray) × Int)) (name c : ByteArray) : Option Int :=
  l.foldl (fun o p => if p.1.1 = c ∧ (matchF p.1.2 name).1 = true then some (max (o.getD 0) p.2) else o) none
theorem want_kq (l : SubL) (name c : ByteArray) : wantOf l name c = wantK (kq l) name c := by
  unfold wantOf wantK kq; rw [List.foldl_map]
theorem wantK_perm {l l' : List ((ByteArray × ByteArray) × Int)} (h : l.Perm l') (name c : ByteArray) : wantK l name c = wantK l' name c := by
  unfold wantK
  apply foldl_perm _ h
  intro b x y
  by_cases hx : x.1.1 = c ∧ (matchF x.1.2 name).1 = true <;> by_cases hy : y.1.1 = c ∧ (matchF y.1.2 name).1 = true
  · simp only [if_pos hx, if_pos hy, Option.getD_some]
    congr 1
    rw [Int.max_assoc, Int.max_comm x.2, ← Int.max_assoc]
  · simp only [if_pos hx, if_neg hy]
  · simp only [if_neg hx, if_pos hy]
  · simp only [if_neg hx, if_neg hy]

theorem find_same {a b : List OpR} (hp : a.Perm b) (hd : (a.map keyO).Nodup) {name : ByteArray} {xs ys : List (ByteArray × Int)} (hx : IsFind (adds a).1 name xs) (hy : IsFind (adds b).1 name ys) : xs = ys := by
  refine isFind_unique hx ⟨hy.1, fun c q => ?_⟩
  rw [hy.2 c q, want_kq, want_kq, adds_kq a hd, adds_kq b ((hp.map keyO).nodup_iff.1 hd), wantK_perm ((hp.filter okO).map _)]

/-- A list, turned. -/
def rot (l : List OpR) (by_ : Nat) : List OpR := l.drop by_ ++ l.take by_
theorem rot_perm (l : List OpR) (b : Nat) : l.Perm (rot l b) := by
  unfold rot
  conv => lhs; rw [← List.take_append_drop b l]
  exact List.perm_append_comm
theorem rot_length (l : List OpR) (b : Nat) : (rot l b).length = l.length := (rot_perm l b).length_eq.symm
theorem rot_get (l : List OpR) (b i : Nat) (hb : b < l.length) (hi : i < l.length) : (rot l b)[i]'(by rw [rot_length]; exact hi) = l[(i + b) % l.length]'(Nat.mod_lt _ (by omega)) := by
  unfold rot
  by_cases h : i < l.length - b
  · rw [List.getElem_append_left (by rw [List.length_drop]; exact h), List.getElem_drop]
    congr 1
    rw [Nat.mod_eq_of_lt (by omega)]; omega
  · rw [List.getElem_append_right (by rw [List.length_drop]; omega), List.getElem_take]
    congr 1
    rw [List.length_drop, show (i + b) = (i + b - l.length) + l.length by omega, Nat.add_mod_right, Nat.mod_eq_of_lt (by omega)]; omega

theorem want_gone (l : SubL) (name g c : ByteArray) : wantOf (goneL l g) name c = if c = g then none else wantOf l name c := by
  have hgen : ∀ (l : SubL) (o : Option Int), (c = g → o = none) → (goneL l g).foldl (fun o p => if p.1.1 = c ∧ (matchF p.1.2 name).1 = true then some (max (o.getD 0) p.2.1) else o) o =
      if c = g then none else l.foldl (fun o p => if p.1.1 = c ∧ (matchF p.1.2 name).1 = true then some (max (o.getD 0) p.2.1) else o) o := by
    intro l
    induction l with
    | nil =>
      intro o ho
      by_cases h : c = g
      · rw [if_pos h, ho h]; rfl
      · rw [if_neg h]; rfl
    | cons p l ih =>
      intro o ho
      unfold goneL
      rw [List.filter_cons]
      by_cases hg : p.1.1 = g
      · rw [if_neg (by simpa using hg)]
        rw [show l.filter (fun p => decide (p.1.1 ≠ g)) = goneL l g from rfl, ih o ho]
        by_cases h : c = g
        · rw [if_pos h, if_pos h]
        · rw [if_neg h, if_neg h, List.foldl_cons, if_neg (fun x => h (x.1.symm.trans hg))]
      · rw [if_pos (by simpa using hg), List.foldl_cons]
        rw [show l.filter (fun p => decide (p.1.1 ≠ g)) = goneL l g from rfl]
        by_cases h : c = g
        · rw [if_neg (fun x => hg (x.1.trans h)), ih o ho, if_pos h, if_pos h]
        · rw [ih _ (fun e => absurd e h), if_neg h, if_neg h, List.foldl_cons]
  exact hgen l none (fun _ => rfl)

theorem find_gone {l : SubL} {name g : ByteArray} {xs cs : List (ByteArray × Int)} (hx : IsFind l name xs) (hc : IsFind (goneL l g) name cs) : cs = xs.filter (fun p => decide (p.1 ≠ g)) := by
  refine isFind_unique hc ⟨hx.1.sublist List.filter_sublist, fun c q => ?_⟩
  rw [want_gone, List.mem_filter, hx.2 c q]
  by_cases h : c = g
  · rw [if_pos h]; simp [h]
  · rw [if_neg h]; simp [h]

theorem IdxAt.turn {w w' : World} {g m g' m' : Nat} {l : SubL} {n : Int} (h : IdxAt w g' m' l n) (ht : Turn g m w w') (h1 : g' ≠ g) (h2 : g' ≠ m) (h3 : m' ≠ g) (h4 : m' ≠ m) : IdxAt w' g' m' l n :=
  h.same (ht.block _ h.lt.1 h1 h2) (ht.block _ h.lt.2 h3 h4)

end Go.Proofs.YtaaaifeommdblaaDoor
