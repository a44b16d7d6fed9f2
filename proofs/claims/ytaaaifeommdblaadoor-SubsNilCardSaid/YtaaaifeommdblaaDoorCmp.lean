/- cmp.Compare at strings; the order of texts. -/
import Derived.Test.YtaaaifeommdblaaDoorSort
import Derived.WalkLawsBesides
namespace Go.Proofs.YtaaaifeommdblaaDoor
open Go.RowKit Go.Sort

theorem bl_irrefl : ∀ a : List UInt8, Op.bytesLess a a = false
  | [] => rfl
  | x :: a => by simp [Op.bytesLess, bl_irrefl a]

theorem bl_trans : ∀ a b c : List UInt8, Op.bytesLess a b = true → Op.bytesLess b c = true → Op.bytesLess a c = true
  | _, [], _, h, _ => by simp [Op.bytesLess] at h
  | _, _ :: _, [], _, h => by simp [Op.bytesLess] at h
  | [], _ :: _, _ :: _, _, _ => rfl
  | x :: a, y :: b, z :: c, h1, h2 => by
    simp only [Op.bytesLess, Bool.or_eq_true, decide_eq_true_eq, Bool.and_eq_true, beq_iff_eq] at *
    rcases h1 with h1 | ⟨rfl, h1⟩
    · rcases h2 with h2 | ⟨rfl, h2⟩
      · exact Or.inl (UInt8.lt_trans h1 h2)
      · exact Or.inl h1
    · rcases h2 with h2 | ⟨rfl, h2⟩
      · exact Or.inl h2
      · exact Or.inr ⟨rfl, bl_trans a b c h1 h2⟩

theorem bl_total : ∀ a b : List UInt8, Op.bytesLess a b = false → Op.bytesLess b a = false → a = b
  | [], [], _, _ => rfl
  | [], _ :: _, h, _ => by simp [Op.bytesLess] at h
  | _ :: _, [], _, h => by simp [Op.bytesLess] at h
  | x :: a, y :: b, h1, h2 => by
    simp only [Op.bytesLess, Bool.or_eq_false_iff, decide_eq_false_iff_not, Bool.and_eq_false_iff, beq_eq_false_iff_ne] at *
    have hxy : x = y := UInt8.le_antisymm (UInt8.not_lt.1 h2.1) (UInt8.not_lt.1 h1.1)
    subst hxy
    rw [bl_total a b (by simpa using h1.2) (by simpa using h2.2)]

theorem bl_asymm {a b : List UInt8} (h : Op.bytesLess a b = true) : Op.bytesLess b a = false := by
  cases h2 : Op.bytesLess b a
  · rfl
  · have := bl_trans a b a h h2
    rw [bl_irrefl] at this; cases this

/-- Is a text below another? -/
def blt (a b : ByteArray) : Bool := Op.bytesLess a.toList b.toList
/-- What cmp.Compare answers of two texts. -/
def cmpS (a b : ByteArray) : Int := if blt a b then -1 else if a = b then 0 else 1

theorem toList_inj {a b : ByteArray} (h : a.toList = b.toList) : a = b := by
  rw [Lib.toList_data, Lib.toList_data] at h
  cases a; cases b
  simp at h; rw [h]

theorem blt_irrefl (a : ByteArray) : blt a a = false := bl_irrefl _
theorem blt_trans {a b c : ByteArray} (h : blt a b = true) (h' : blt b c = true) : blt a c = true := bl_trans _ _ _ h h'
theorem blt_total {a b : ByteArray} (h : blt a b = false) (h' : blt b a = false) : a = b := toList_inj (bl_total _ _ h h')
theorem blt_asymm {a b : ByteArray} (h : blt a b = true) : blt b a = false := bl_asymm h

theorem ltOf_cmpS {α : Type} (key : α → ByteArray) (x y : α) : ltOf (fun x y => cmpS (key x) (key y)) x y = blt (key x) (key y) := by
  show decide (cmpS (key x) (key y) < 0) = _
  unfold cmpS
  cases h : blt (key x) (key y)
  · simp only [Bool.false_eq_true, if_false]
    split <;> rfl
  · rfl

theorem swo_key {α : Type} (key : α → ByteArray) : SWO (ltOf fun x y => cmpS (key x) (key y)) where
  irrefl x := by rw [ltOf_cmpS]; exact blt_irrefl _
  trans x y z h1 h2 := by rw [ltOf_cmpS] at *; exact blt_trans h1 h2
  ntrans x y z h1 h2 := by
    rw [ltOf_cmpS] at *
    cases h : blt (key x) (key z)
    · rfl
    · exfalso
      cases h3 : blt (key y) (key x)
      · have := blt_total h1 h3
        rw [this] at h; rw [h2] at h; cases h
      · have := blt_trans h3 h
        rw [h2] at this; cases this

theorem isNaN_str (x : ByteArray) (w : World) : Calls Tryd.prog 52 #[.string x] w fun e w' => e = .returned (.bool false) ∧ w = w' := by
  go_enter Tryd.func52, Tryd.ntmps52
  go_wp2
  go_ret
  exact ⟨rfl, rfl⟩

theorem compare_str (x y : ByteArray) (w : World) : Calls Tryd.prog 36 #[.string x, .string y] w fun e w' => e = .returned (.int .i64 (cmpS x y)) ∧ w = w' := by
  obtain ⟨r, hr⟩ : ∃ r, r = cmpS x y := ⟨_, rfl⟩
  rw [← hr]
  unfold cmpS blt at hr
  have HR := Lib.hid hr; clear hr
  cases h : Op.bytesLess x.toList y.toList
  · by_cases he : x = y
    · subst he
      go_enter Tryd.func36, Tryd.ntmps36
      go_wp2_with (go_at_call 52; refine (isNaN_str _ _).mono ?_; rintro e w1 ⟨rfl, rfl⟩)
      go_ret
      exact ⟨by rw [HR.out, h]; simp, rfl⟩
    · have hne : (!(x.toList == y.toList)) = true := by
        have : ¬ x.toList = y.toList := fun e => he (toList_inj e)
        simp [this]
      go_enter Tryd.func36, Tryd.ntmps36
      go_wp2_with (go_at_call 52; refine (isNaN_str _ _).mono ?_; rintro e w1 ⟨rfl, rfl⟩)
      go_ret
      exact ⟨by rw [HR.out, h]; simp [he], rfl⟩
  · go_enter Tryd.func36, Tryd.ntmps36
    go_wp2_with (go_at_call 52; refine (isNaN_str _ _).mono ?_; rintro e w1 ⟨rfl, rfl⟩)
    go_ret
    exact ⟨by rw [HR.out, h]; simp, rfl⟩

end Go.Proofs.YtaaaifeommdblaaDoor
