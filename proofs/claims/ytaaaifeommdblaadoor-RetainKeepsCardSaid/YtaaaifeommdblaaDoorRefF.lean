/- basculeref12.Filter: what it computes. -/
import Derived.Test.YtaaaifeommdblaaDoorRefZ
namespace Go.Proofs.YtaaaifeommdblaaDoor
open Go.RowKit Go.Proofs.YtaaaifeommdblaaDoorW.PrintWords Go.Proofs.YtaaaifeommdblaaDoor.PSubsAgain

theorem lasts_length {α : Type} : ∀ l : List α, (lasts l).length = l.length := fun l => by
  have := congrArg List.length (lasts_fst l)
  simpa using this
theorem lasts_drop {α : Type} : ∀ (l : List α) (i : Nat) (h : i < l.length), (lasts l).drop i = (l[i], decide (i + 1 = l.length)) :: (lasts l).drop (i + 1)
  | [x], 0, _ => rfl
  | x :: y :: r, 0, _ => by
    show lasts (x :: y :: r) = _
    rw [lasts_cons x (by simp)]
    simp
  | x :: y :: r, i + 1, h => by
    rw [lasts_cons x (by simp), List.drop_succ_cons, lasts_drop (y :: r) i (by simpa using h), List.drop_succ_cons]
    simp

theorem filter_l0 (L : List ByteArray) (hL : L.length < 4611686018427387904) (n : Nat) (hn : ∀ x ∈ L, x.size ≤ n) (hn' : n < 4611686018427387904) : ∀ (j i k : Nat), i + j = L.length →
    basculeref12_Filter.l0 (n + 3 + 2 * j + k) L (i : Nat) = some (((lasts L).drop i).all levOk)
  | 0, i, k, h => by
    rw [show n + 3 + 2 * 0 + k = (n + 2 + k) + 1 by omega, basculeref12_Filter.l0, if_neg (by omega), List.drop_eq_nil_of_le (by rw [lasts_length]; omega)]; rfl
  | j + 1, i, k, h => by
    have hi : i < L.length := by omega
    have ih := filter_l0 L hL n hn hn' j (i + 1) k (by omega)
    have hrd : rdOf ByteArray.empty L (i : Nat) = L[i] := by
      unfold rdOf; rw [Int.toNat_natCast, List.getD_eq_getElem?_getD, List.getElem?_eq_getElem hi]; rfl
    have hsz := hn L[i] (List.getElem_mem hi)
    rw [lasts_drop L i hi, List.all_cons]
    rw [show n + 3 + 2 * (j + 1) + k = (n + 3 + 2 * j + k) + 1 + 1 by omega, basculeref12_Filter.l0, if_pos (by omega), if_pos (by omega), hrd]
    rw [show (((i + 1 : Nat)) : Int) = (i : Int) + 1 by omega] at ih
    have hw : wrap64 ((i : Int) + 1) = (i : Int) + 1 := wr _ (by omega) (by omega)
    have hj : ∀ b, basculeref12_Filter.j2 (n + 3 + 2 * j + k + 1) L (i : Nat) b = some ((b || !isWild L[i].data.toList) && ((lasts L).drop (i + 1)).all levOk) := by
      intro b
      rw [basculeref12_Filter.j2]
      cases b
      · rw [if_neg (by decide), if_pos (by omega), if_pos (by omega), hrd]
        have a1 := has_f L[i] 43 (by omega) (n - L[i].size + 2 + 2 * j + k)
        have a2 := has_f L[i] 35 (by omega) (n - L[i].size + 2 + 2 * j + k)
        rw [show L[i].size + 1 + (n - L[i].size + 2 + 2 * j + k) = n + 3 + 2 * j + k by omega] at a1 a2
        rw [a1, a2, wild_any, Option.bind_some, Option.bind_some, hw, ih]
        cases (L[i].data.toList.any fun b => decide ((b.toNat : Int) = 43)) <;> cases (L[i].data.toList.any fun b => decide ((b.toNat : Int) = 35)) <;> rfl
      · rw [if_pos rfl, hw, ih]; rfl
    have hle : (L[i]).toList = L[i].data.toList := Lib.toList_data _
    rw [hle, hj, hj, hj]
    have hlast : ((i : Int) == wrap64 ((L.length : Int) - 1)) = decide (i + 1 = L.length) := by
      rw [wr _ (by omega) (by omega), Bool.eq_iff_iff, beq_iff_eq, decide_eq_true_eq]; omega
    rw [hlast]
    unfold levOk
    simp only
    by_cases h43 : L[i].data.toList = [43]
    · rw [if_pos h43]; simp [h43]
    · rw [if_neg h43]
      have e43 : (L[i].data.toList == [43]) = false := by simpa using h43
      rw [e43]
      by_cases h35 : L[i].data.toList = [35]
      · rw [if_pos h35, h35]; simp
      · have e35 : (L[i].data.toList == [35]) = false := by simpa using h35
        rw [if_neg h35, e35]; rfl

theorem filter_f (s : ByteArray) : basculeref12_Filter.f (3 * s.size + 40) s = some (filterF s) := by
  unfold basculeref12_Filter.f filterF
  by_cases h0 : s.size = 0
  · rw [if_pos (by rw [Lib.toList_data]; exact List.eq_nil_of_length_eq_zero (by simpa using h0)), decide_eq_true h0, show 3 * s.size + 40 = (3 * s.size + 39) + 1 by omega, basculeref12_Filter.j0, if_pos rfl]; rfl
  · rw [if_neg (by rw [Lib.toList_data]; intro e; have := congrArg List.length e; simp at this; exact h0 (by simpa using this)), decide_eq_false h0]
    have hi := is_f s (2 * s.size + 15)
    rw [show s.size + 25 + (2 * s.size + 15) = 3 * s.size + 40 by omega] at hi
    rw [hi, Option.bind_some, show 3 * s.size + 40 = (3 * s.size + 39) + 1 by omega, basculeref12_Filter.j0]
    cases hu : utfIs s
    · rw [if_pos (by decide)]; rfl
    · have hsz := utf_size hu
      rw [if_neg (by decide)]
      have hl := levels_f s (by omega) (2 * s.size + 37)
      rw [show s.size + 2 + (2 * s.size + 37) = 3 * s.size + 39 by omega] at hl
      rw [hl, Option.bind_some]
      have hlen := levels_len s.data.toList
      have hsl : s.data.toList.length = s.size := Array.length_toList
      have hf := filter_l0 ((levels s.data.toList).map ba) (by simp; omega) s.size (fun x hx => by
        obtain ⟨y, hy, rfl⟩ := List.mem_map.1 hx
        have := levels_le _ _ hy
        show (y.toArray).size ≤ _
        simp; omega) (by omega) ((levels s.data.toList).map ba).length 0 (3 * s.size + 39 - (s.size + 3 + 2 * ((levels s.data.toList).map ba).length)) (by omega)
      rw [List.length_map] at hf
      rw [show s.size + 3 + 2 * (levels s.data.toList).length + (3 * s.size + 39 - (s.size + 3 + 2 * (levels s.data.toList).length)) = 3 * s.size + 39 by omega] at hf
      exact hf

theorem filter_ref (s : ByteArray) (w : World) : Calls Tryd.prog 18 #[.string s] w fun e w' => e = .returned (.bool (filterF s)) ∧ Below w.heap.size w w' :=
  basculeref12_Filter.calls _ s _ w (filter_f s)

end Go.Proofs.YtaaaifeommdblaaDoor
