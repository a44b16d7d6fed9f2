/- The levels of a text: plain. -/
import Derived.Lib.IndexMore
import Derived.Lib.IndexAny
namespace Go.Proofs.YtaaaifeommdblaaDoor

/-- What stands ahead of the first slash, what behind it, and is there one? -/
def cut47 : List UInt8 → List UInt8 × List UInt8 × Bool
  | [] => ([], [], false)
  | b :: l => if b = 47 then ([], l, true) else (b :: (cut47 l).1, (cut47 l).2.1, (cut47 l).2.2)

theorem index47 : ∀ l : List UInt8, Lib.index l [47] = if (cut47 l).2.2 then ((cut47 l).1.length : Int) else -1
  | [] => rfl
  | b :: l => by
    have ih := index47 l
    unfold Lib.index cut47
    by_cases hb : b = 47
    · subst hb; simp
    · have h1 : ([47] : List UInt8).isPrefixOf (b :: l) = false := by
        simp [List.isPrefixOf, Ne.symm hb]
      rw [h1, if_neg hb, ih]
      cases (cut47 l).2.2
      · simp
      · have hne : (((cut47 l).1.length : Int) == -1) = false := beq_eq_false_iff_ne.2 (by omega)
        simp [hne]

theorem cut47_parts : ∀ l : List UInt8, (if (cut47 l).2.2 then l = (cut47 l).1 ++ 47 :: (cut47 l).2.1 else l = (cut47 l).1 ∧ (cut47 l).2.1 = [])
  | [] => by simp [cut47]
  | b :: l => by
    have ih := cut47_parts l
    unfold cut47
    by_cases hb : b = 47
    · subst hb; simp
    · rw [if_neg hb]
      simp only
      cases h : (cut47 l).2.2
      · rw [h] at ih
        simp at ih ⊢
        exact ih
      · rw [h] at ih
        simp at ih ⊢
        exact ih

theorem cut_eq (l : List UInt8) : Lib.cut l [47] = cut47 l := by
  have h1 := index47 l
  have h2 := cut47_parts l
  unfold Lib.cut
  rw [h1]
  generalize cut47 l = d at *
  obtain ⟨a, m, f⟩ := d
  cases f
  · simp at h2 ⊢
    exact ⟨h2.1, h2.2⟩
  · simp at h2 ⊢
    rw [h2]
    simp

theorem cut47_lt (l : List UInt8) (h : (cut47 l).2.2 = true) : (cut47 l).2.1.length < l.length := by
  have := cut47_parts l
  rw [h] at this
  simp at this
  have h2 := congrArg List.length this
  simp at h2
  omega

/-- The levels of a text: what stands between its slashes. -/
def levels : List UInt8 → List (List UInt8)
  | [] => [[]]
  | b :: l => if b = 47 then [] :: levels l else
    match levels l with
    | [] => [[b]]
    | x :: r => (b :: x) :: r

theorem levels_cons (b : UInt8) (l : List UInt8) : levels (b :: l) = if b = 47 then [] :: levels l else
    match levels l with
    | [] => [[b]]
    | x :: r => (b :: x) :: r := rfl

theorem cut47_cons (b : UInt8) (l : List UInt8) : cut47 (b :: l) = if b = 47 then ([], l, true) else (b :: (cut47 l).1, (cut47 l).2.1, (cut47 l).2.2) := rfl

theorem levels_cut : ∀ l : List UInt8, levels l = if (cut47 l).2.2 then (cut47 l).1 :: levels (cut47 l).2.1 else [(cut47 l).1]
  | [] => rfl
  | b :: l => by
    have ih := levels_cut l
    rw [levels_cons, cut47_cons]
    by_cases hb : b = 47
    · simp only [if_pos hb]; rfl
    · simp only [if_neg hb]
      rw [ih]
      cases (cut47 l).2.2 <;> rfl

theorem levels_ne : ∀ l : List UInt8, levels l ≠ []
  | [] => by simp [levels]
  | b :: l => by
    rw [levels_cons]
    split
    · simp
    · split <;> simp

/-- Each level, and is it the last one? -/
def lasts {α : Type} : List α → List (α × Bool)
  | [] => []
  | [x] => [(x, true)]
  | x :: y :: r => (x, false) :: lasts (y :: r)

theorem lasts_cons {α : Type} (x : α) {r : List α} (h : r ≠ []) : lasts (x :: r) = (x, false) :: lasts r := by
  cases r with
  | nil => exact absurd rfl h
  | cons y r => rfl

/-- The levels as they are handed to a round. -/
def levs (l : List UInt8) : List (ByteArray × Bool) := lasts ((levels l).map fun x => (⟨x.toArray⟩ : ByteArray))

theorem levs_last (l : List UInt8) (h : (cut47 l).2.2 = false) : levs l = [(⟨(cut47 l).1.toArray⟩, true)] := by
  unfold levs
  rw [levels_cut, h]
  rfl

theorem levs_more (l : List UInt8) (h : (cut47 l).2.2 = true) : levs l = (⟨(cut47 l).1.toArray⟩, false) :: levs (cut47 l).2.1 := by
  unfold levs
  rw [levels_cut, h]
  simp only [if_true, List.map_cons]
  exact lasts_cons _ (by simp [levels_ne])

end Go.Proofs.YtaaaifeommdblaaDoor
