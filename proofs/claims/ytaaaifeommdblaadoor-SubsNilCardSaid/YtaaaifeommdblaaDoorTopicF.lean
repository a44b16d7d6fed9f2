/- What topic.Name, Filter, Matches compute: plain. -/
import Derived.Test.YtaaaifeommdblaaDoorUtf
import Derived.Test.YtaaaifeommdblaaDoorAny
import Derived.Test.YtaaaifeommdblaaDoorLevels
namespace Go.Proofs.YtaaaifeommdblaaDoor

def wildB : ByteArray := ⟨#[43, 35]⟩
def isWild (x : List UInt8) : Bool := Lib.containsAny x [43, 35]

/-- topic.Name. -/
def nameF (s : ByteArray) : Bool := !decide (s.size = 0) && (utfIs s && !isWild s.data.toList)
/-- May a level be one of a filter's? -/
def levOk (x : ByteArray × Bool) : Bool := x.1.data.toList == [43] || (x.1.data.toList == [35] && x.2) || !isWild x.1.data.toList
/-- topic.Filter. -/
def filterF (s : ByteArray) : Bool := !decide (s.size = 0) && (utfIs s && (levs s.data.toList).all levOk)
/-- Do a filter's levels take a name's? -/
def matchL : List (List UInt8) → List (List UInt8) → Bool
  | [], n => n.isEmpty
  | v :: r, n => if v = [35] then true else
    match n with
    | [] => false
    | x :: n' => if v = [43] ∨ v = x then matchL r n' else false
/-- topic.Matches, of a filter and a name that may be. -/
def takesF (f n : ByteArray) : Bool := !(Lib.hasPrefix n.data.toList [36] && isWild (f.data.toList.take 1)) && matchL (levels f.data.toList) (levels n.data.toList)

theorem levels_le : ∀ (l x : List UInt8), x ∈ levels l → x.length ≤ l.length
  | [], x, h => by simp [levels] at h; simp [h]
  | b :: l, x, h => by
    rw [levels_cons] at h
    split at h
    · rcases List.mem_cons.1 h with rfl | h
      · simp
      · have := levels_le l x h; simp; omega
    · split at h
      · simp at h; subst h; simp
      · rename_i y r he
        rcases List.mem_cons.1 h with rfl | h
        · have := levels_le l y (by rw [he]; simp); simp; omega
        · have := levels_le l x (by rw [he]; simp [h]); simp; omega

theorem lasts_fst {α : Type} : ∀ l : List α, (lasts l).map (·.1) = l
  | [] => rfl
  | [x] => rfl
  | x :: y :: r => by rw [lasts_cons x (by simp)]; simp [lasts_fst (y :: r)]

theorem levs_fst (l : List UInt8) : (levs l).map (fun x => x.1.data.toList) = levels l := by
  have h := lasts_fst ((levels l).map fun x => (⟨x.toArray⟩ : ByteArray))
  unfold levs
  rw [show (fun x : ByteArray × Bool => x.1.data.toList) = (fun y : ByteArray => y.data.toList) ∘ (·.1) from rfl, ← List.map_map, h, List.map_map]
  conv => rhs; rw [← List.map_id (levels l)]
  apply List.map_congr_left
  intro x _
  simp

theorem prefix_size {ls : List UInt8} {pre : List (ByteArray × Bool)} {x : ByteArray × Bool} (h : pre ++ [x] <+: levs ls) : x.1.size ≤ ls.length := by
  have hm : x ∈ levs ls := h.subset (by simp)
  have h2 : x.1.data.toList ∈ levels ls := by rw [← levs_fst]; exact List.mem_map.2 ⟨x, hm, rfl⟩
  have := levels_le ls _ h2
  rw [Lib.size_eq]; exact this

theorem utfIs_size {s : ByteArray} (h : utfIs s = true) : s.size ≤ 65535 := by
  unfold utfIs at h; simp at h; exact h.1

theorem wild_ascii : Ascii wildB := by
  intro j hj
  have : j < 2 := hj
  match j, this with
  | 0, _ => decide
  | 1, _ => decide

open Go.RowKit in
theorem wild_walk (s : ByteArray) (w : World) (hs : s.size < 4294967281) : Calls Tryd.prog 49 #[.string s, .string ⟨#[43, 35]⟩] w (Gives (.bool (isWild s.data.toList)) w) :=
  containsAny_any s wildB wild_ascii w (by decide) hs (by decide)

end Go.Proofs.YtaaaifeommdblaaDoor
