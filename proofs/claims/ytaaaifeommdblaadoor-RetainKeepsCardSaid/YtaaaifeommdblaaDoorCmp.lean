/- slices.SortFunc at rows that the call owns: what it leaves. cmp.Compare at strings; the order of texts. -/
import Derived.Test.YtaaaifeommdblaaDoorGlob
import Derived.Test.YtaaaifeommdblaaDoorShelfG
import Derived.Shelf.SlSortCmp.WholeK
import Derived.Shelf.SlSortCmp.NoneTotal
import Derived.WalkLawsBesides
namespace Go.Proofs.YtaaaifeommdblaaDoor
open Go.RowKit Go.Shelf Go.Sort

theorem flat_len {α : Type} {enc : α → List Value} {k : Nat} (hk : ∀ x, (enc x).length = k) : ∀ zs : List α, (zs.flatMap enc).length = zs.length * k
  | [] => by simp
  | z :: zs => by rw [List.flatMap_cons, List.length_append, hk, flat_len hk zs]; simp [Nat.succ_mul]; omega

section
variable {α : Type} [Inhabited α] {enc : α → List Value} {k : Nat}

theorem flat_get (hk : ∀ x, (enc x).length = k) (hk0 : 0 < k) : ∀ (zs : List α) (j : Nat), j < zs.length * k → (zs.flatMap enc)[j]? = some ((enc (zs[j / k]!))[j % k]!)
  | [], j, h => by simp at h
  | z :: zs, j, h => by
    rw [List.flatMap_cons]
    by_cases hj : j < k
    · rw [List.getElem?_append_left (by rw [hk]; exact hj), Nat.div_eq_of_lt hj, Nat.mod_eq_of_lt hj]
      rw [List.getElem?_eq_getElem (by rw [hk]; exact hj)]
      simp [getElem!_pos, hk, hj]
    · rw [List.getElem?_append_right (by rw [hk]; omega), hk]
      have hlen : (z :: zs).length * k = zs.length * k + k := by simp [Nat.succ_mul]
      rw [flat_get hk hk0 zs (j - k) (by omega)]
      have h1 : j / k = (j - k) / k + 1 := by
        have := Nat.sub_add_cancel (show k ≤ j by omega)
        rw [← this, Nat.add_div_right _ hk0]; simp
      have h2 : j % k = (j - k) % k := (Nat.mod_eq_sub_mod (by omega))
      rw [h1, h2]
      simp

theorem flatK_list (hk : ∀ x, (enc x).length = k) (hk0 : 0 < k) (zs : List α) : (flatK enc k zs.toArray).toList = zs.flatMap enc := by
  apply List.ext_getElem?
  intro j
  by_cases hj : j < zs.length * k
  · rw [flat_get hk hk0 zs j hj]
    have h2 := get_flatK enc k zs.toArray j (by simpa using hj)
    rw [Array.getElem?_toList, Array.getElem?_eq_getElem (by simpa using hj)]
    rw [getElem!_pos _ j (by simpa using hj)] at h2
    rw [h2]
    simp
  · rw [List.getElem?_eq_none (by simpa using hj), List.getElem?_eq_none (by rw [flat_len hk]; omega)]

theorem holds_of_owns (hk : ∀ x, (enc x).length = k) (hk0 : 0 < k) {w : World} {base : Nat} {e : TypeId} {g cap : Nat} {zs : List α}
    (h : w.ownsRow base e k (.slice (some ⟨g, 0, none⟩) zs.length cap) zs.length (zs.flatMap enc)) : HoldsK enc k w g 0 zs.toArray := by
  intro j hj
  have hj' : j < zs.length * k := by simpa using hj
  refine ⟨?_, ?_⟩
  · rw [Nat.zero_add, h.cellAt j hj', flat_get hk hk0 zs j hj', get_flatK enc k zs.toArray j (by simpa using hj)]
    simp
  · rw [Nat.zero_add]; exact h.frozenAt j

theorem owns_sorted (hk : ∀ x, (enc x).length = k) (hk0 : 0 < k) {w : World} {base : Nat} {e : TypeId} {g cap : Nat} {zs ys : List α} {m : Nat} {os : Array Obj}
    (h : w.ownsRow base e k (.slice (some ⟨g, 0, none⟩) zs.length cap) zs.length (zs.flatMap enc)) (hy : ys.length = zs.length) :
    (sortWorldK enc k w g 0 m ys.toArray os).ownsRow base e k (.slice (some ⟨g, 0, none⟩) ys.length cap) ys.length (ys.flatMap enc) := by
  rcases h.2 with ⟨e0, _⟩ | ⟨g', cap', cur, e0, hb, hg, hn, hm, hs, ht⟩
  · cases e0
  · injection e0 with e1 _ e3
    injection e1 with e1
    injection e1 with e1
    subst e1; subst e3
    have hglt : g < w.heap.size := (Array.getElem?_eq_some_iff.1 hg).1
    refine ⟨by rw [flat_len hk], .inr ⟨g, cap, putCells id 0 (flatK enc k ys.toArray) cur, rfl, hb, ?_, by omega, hm, by simpa [putCells] using hs, ?_⟩⟩
    · unfold sortWorldK grow putRowK putRow mapBlock Sort.ahead
      simp only
      rw [Array.getElem?_append_left (by simpa using hglt), Array.getElem?_modify]
      simp [hg, onCells]
    · apply List.ext_getElem?
      intro j
      have hsz : ys.length * k ≤ cur.size := by rw [hs, hy]; exact Nat.mul_le_mul_right k hn
      rw [List.getElem?_take]
      by_cases hj : j < ys.length * k
      · have hjc : j < cur.size := by omega
        rw [if_pos hj, flat_get hk hk0 ys j hj, Array.getElem?_toList]
        simp only [putCells, Array.getElem?_mapIdx, Array.getElem?_eq_getElem hjc, Option.map_some]
        rw [if_pos (by simp; omega), Nat.sub_zero, get_flatK enc k ys.toArray j (by simpa using hj)]
        simp
      · rw [if_neg hj, List.getElem?_eq_none (by rw [flat_len hk]; omega)]

theorem grown_sorted (enc : α → List Value) (k : Nat) (w : World) (g off m : Nat) (d : Array α) (os : Array Obj) : w.grownBy (sortWorldK enc k w g off m d os) (some g) := by
  refine ⟨rfl, rfl, rfl, ?_, fun i hi hne => ?_⟩
  · unfold sortWorldK grow putRowK putRow mapBlock Sort.ahead; simp
  · unfold sortWorldK grow putRowK putRow mapBlock Sort.ahead
    simp only
    rw [Array.getElem?_append_left (by simpa using hi), Array.getElem?_modify, if_neg (fun e => hne (by rw [e]))]

/-- What a sort leaves of a list. -/
def Sorted (lt : α → α → Bool) (zs ys : List α) : Prop := ys.Perm zs ∧ ys.Pairwise (fun a b => lt b a = false)

theorem sorted_of {lt : α → α → Bool} {zs : List α} {d' : Array α} (hp : PermIn 0 zs.toArray.size zs.toArray d') (hs : SortedIn lt 0 zs.toArray.size d') : d'.toList.length = zs.length ∧ Sorted lt zs d'.toList := by
  obtain ⟨h1, _, h3⟩ := hp
  have hsz : d'.size = zs.length := by simpa using h1
  refine ⟨by simpa using hsz, ?_, ?_⟩
  · have e1 : (d'.extract 0 zs.toArray.size).toList = d'.toList := by
      rw [show zs.toArray.size = d'.size by simp [hsz], Array.extract_size]
    have e2 : (zs.toArray.extract 0 zs.toArray.size).toList = zs := by simp
    rw [e1, e2] at h3
    exact h3
  · rw [List.pairwise_iff_getElem]
    intro i j hi hj hij
    have hi' : i < d'.size := by simpa using hi
    have hj' : j < d'.size := by simpa using hj
    have := hs i j (Nat.zero_le _) hij (by simp; omega)
    rw [getElem!_pos d' i hi', getElem!_pos d' j hj'] at this
    simpa using this

end

/-- **slices.SortFunc of a row that the call owns.** -/
theorem sort_row {α : Type} [Inhabited α] {P : Program} {ρ : Ren} (L : SlLaysF0.n6 P ρ) (enc : α → List Value) (k : Nat) (hk : ∀ x, (enc x).length = k) (hk0 : 0 < k) (h1 : ∀ x, ∀ v ∈ enc x, v.oneCell' = true)
    (aE : ∀ w, (isAgg (ρ.t 24)).run P w = .ok true w) (zE : ∀ w, (Go.sizeOf (ρ.t 24)).run P w = .ok k w) (cf : α → α → Int) (hO : SWO (ltOf cf)) (g : Nat) (cb : Array Value)
    (eg : ∀ args w, (callFunc g args).run P w = .ok (.enter g args) w) (w : World) (base : Nat) (e : TypeId) (v : Value) (zs : List α)
    (hcmp : ∀ blk off, base ≤ blk → CmpLays P g cb enc k cf blk off zs.length w) (hown : w.ownsRow base e k v zs.length (zs.flatMap enc)) (hsz : zs.length < 4611686018427387904) :
    Calls P (ρ.f 6) #[v, .func (.func g) #[] cb] w fun e' w' => e' = .returned (.tuple #[]) ∧ ∃ ys, Sorted (ltOf cf) zs ys ∧ w'.ownsRow base e k v ys.length (ys.flatMap enc) ∧ w.grownBy w' v.ownBlock := by
  rcases hown.2 with ⟨hv, hn⟩ | ⟨b, cap, cur, hv, hb, hg, hle, hm, hs, ht⟩
  · have hz : zs = [] := List.eq_nil_of_length_eq_zero hn
    subst hz
    subst hv
    refine (AnyF.slices_SortFunc_none L none 0 _ w).mono ?_
    rintro e' w' ⟨he, hw⟩
    subst hw
    exact ⟨he, [], ⟨List.Perm.refl _, List.Pairwise.nil⟩, hown, ⟨rfl, rfl, rfl, Nat.le_refl _, fun _ _ _ => rfl⟩⟩
  · subst hv
    have hH := holds_of_owns hk hk0 hown
    have hblk : b < w.heap.size := (Array.getElem?_eq_some_iff.1 hg).1
    have hc := AnyQ.slices_SortFunc L k aE zE enc hk h1 cf hO g cb b 0 cap zs.toArray w eg (by simpa using hcmp b 0 hb) hH hblk (by simpa using hsz)
    simp only [List.size_toArray] at hc
    refine hc.mono ?_
    rintro e' w' ⟨he, d', n, os, hp, hso, rfl⟩
    obtain ⟨hlen, hsd⟩ := sorted_of (zs := zs) (by simpa using hp) (by simpa using hso)
    refine ⟨he, d'.toList, hsd, ?_, grown_sorted _ _ _ _ _ _ _ _⟩
    have := owns_sorted hk hk0 (m := n) (os := os) hown hlen
    rw [hlen] at this ⊢
    simpa using this

end Go.Proofs.YtaaaifeommdblaaDoor

namespace Go.Proofs.YtaaaifeommdblaaDoor
open Go.RowKit Go.Sort

theorem bl_irrefl : ∀ a : List UInt8, Op.bytesLess a a = false
  | [] => rfl
  | x :: a => by simp [Op.bytesLess, bl_irrefl a]

theorem bl_trans : ∀ a b c : List UInt8, Op.bytesLess a b = true → Op.bytesLess b c = true → Op.bytesLess a c = true
  | _, [], _, h, _ => by simp [Op.bytesLess] at h
  | _, _ :: _, [], _, h => by simp [Op.bytesLess] at h
  | [], _ :: _, _ :: _, _, _ => rfl
  | x :: a, y :: b, z :: c, h1, h2 => by
    simp only [Op.bytesLess, Bool.or_eq_true, decide_eq_true_eq, Bool.and_eq_true, beq_iff_eq] at *
    rcases h1 with h1 | ⟨rfl, h1⟩
    · rcases h2 with h2 | ⟨rfl, h2⟩
      · exact Or.inl (UInt8.lt_trans h1 h2)
      · exact Or.inl h1
    · rcases h2 with h2 | ⟨rfl, h2⟩
      · exact Or.inl h2
      · exact Or.inr ⟨rfl, bl_trans a b c h1 h2⟩

theorem bl_total : ∀ a b : List UInt8, Op.bytesLess a b = false → Op.bytesLess b a = false → a = b
  | [], [], _, _ => rfl
  | [], _ :: _, h, _ => by simp [Op.bytesLess] at h
  | _ :: _, [], _, h => by simp [Op.bytesLess] at h
  | x :: a, y :: b, h1, h2 => by
    simp only [Op.bytesLess, Bool.or_eq_false_iff, decide_eq_false_iff_not, Bool.and_eq_false_iff, beq_eq_false_iff_ne] at *
    have hxy : x = y := UInt8.le_antisymm (UInt8.not_lt.1 h2.1) (UInt8.not_lt.1 h1.1)
    subst hxy
    rw [bl_total a b (by simpa using h1.2) (by simpa using h2.2)]

theorem bl_asymm {a b : List UInt8} (h : Op.bytesLess a b = true) : Op.bytesLess b a = false := by
  cases h2 : Op.bytesLess b a
  · rfl
  · have := bl_trans a b a h h2
    rw [bl_irrefl] at this; cases this

/-- Is a text below another? -/
def blt (a b : ByteArray) : Bool := Op.bytesLess a.toList b.toList
/-- What cmp.Compare answers of two texts. -/
def cmpS (a b : ByteArray) : Int := if blt a b then -1 else if a = b then 0 else 1

theorem toList_inj {a b : ByteArray} (h : a.toList = b.toList) : a = b := by
  rw [Lib.toList_data, Lib.toList_data] at h
  cases a; cases b
  simp at h; rw [h]

theorem blt_irrefl (a : ByteArray) : blt a a = false := bl_irrefl _
theorem blt_trans {a b c : ByteArray} (h : blt a b = true) (h' : blt b c = true) : blt a c = true := bl_trans _ _ _ h h'
theorem blt_total {a b : ByteArray} (h : blt a b = false) (h' : blt b a = false) : a = b := toList_inj (bl_total _ _ h h')
theorem blt_asymm {a b : ByteArray} (h : blt a b = true) : blt b a = false := bl_asymm h

theorem ltOf_cmpS {α : Type} (key : α → ByteArray) (x y : α) : ltOf (fun x y => cmpS (key x) (key y)) x y = blt (key x) (key y) := by
  show decide (cmpS (key x) (key y) < 0) = _
  unfold cmpS
  cases h : blt (key x) (key y)
  · simp only [Bool.false_eq_true, if_false]
    split <;> rfl
  · rfl

theorem swo_key {α : Type} (key : α → ByteArray) : SWO (ltOf fun x y => cmpS (key x) (key y)) where
  irrefl x := by rw [ltOf_cmpS]; exact blt_irrefl _
  trans x y z h1 h2 := by rw [ltOf_cmpS] at *; exact blt_trans h1 h2
  ntrans x y z h1 h2 := by
    rw [ltOf_cmpS] at *
    cases h : blt (key x) (key z)
    · rfl
    · exfalso
      cases h3 : blt (key y) (key x)
      · have := blt_total h1 h3
        rw [this] at h; rw [h2] at h; cases h
      · have := blt_trans h3 h
        rw [h2] at this; cases this

theorem isNaN_str (x : ByteArray) (w : World) : Calls Tryd.prog 52 #[.string x] w fun e w' => e = .returned (.bool false) ∧ w = w' := by
  go_enter Tryd.func52, Tryd.ntmps52
  go_wp2
  go_ret
  exact ⟨rfl, rfl⟩

theorem compare_str (x y : ByteArray) (w : World) : Calls Tryd.prog 36 #[.string x, .string y] w fun e w' => e = .returned (.int .i64 (cmpS x y)) ∧ w = w' := by
  obtain ⟨r, hr⟩ : ∃ r, r = cmpS x y := ⟨_, rfl⟩
  rw [← hr]
  unfold cmpS blt at hr
  have HR := Lib.hid hr; clear hr
  cases h : Op.bytesLess x.toList y.toList
  · by_cases he : x = y
    · subst he
      go_enter Tryd.func36, Tryd.ntmps36
      go_wp2_with (go_at_call 52; refine (isNaN_str _ _).mono ?_; rintro e w1 ⟨rfl, rfl⟩)
      go_ret
      exact ⟨by rw [HR.out, h]; simp, rfl⟩
    · have hne : (!(x.toList == y.toList)) = true := by
        have : ¬ x.toList = y.toList := fun e => he (toList_inj e)
        simp [this]
      go_enter Tryd.func36, Tryd.ntmps36
      go_wp2_with (go_at_call 52; refine (isNaN_str _ _).mono ?_; rintro e w1 ⟨rfl, rfl⟩)
      go_ret
      exact ⟨by rw [HR.out, h]; simp [he], rfl⟩
  · go_enter Tryd.func36, Tryd.ntmps36
    go_wp2_with (go_at_call 52; refine (isNaN_str _ _).mono ?_; rintro e w1 ⟨rfl, rfl⟩)
    go_ret
    exact ⟨by rw [HR.out, h]; simp, rfl⟩

end Go.Proofs.YtaaaifeommdblaaDoor
