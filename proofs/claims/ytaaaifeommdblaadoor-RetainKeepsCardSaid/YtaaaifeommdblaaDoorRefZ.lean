/- basculeref09: the printed functions are this seat's own plain ones. basculeref09.first: what it computes. basculeref09: Points, Is. basculeref09.Is, basculeref12.has: what they compute. basculeref12: Name, Levels: what they compute. basculeref12: Takes, Filter: what they compute. -/
import Derived.Test.YtaaaifeommdblaaDoorRefB
import Derived.Test.YtaaaifeommdblaaDoorUtf
import Derived.Test.YtaaaifeommdblaaDoorMatch
namespace Go.Proofs.YtaaaifeommdblaaDoor
open Go.RowKit Go.Proofs.YtaaaifeommdblaaDoorW.PrintWords Go.Proofs.YtaaaifeommdblaaDoor.PSubsAgain

theorem wr (x : Int) (h0 : -4611686018427387904 ≤ x) (h1 : x < 4611686018427387904) : wrap64 x = x := by
  unfold wrap64; omega

theorem bt_get (s : ByteArray) (i : Nat) : ((s.get! i).toNat : Int) = bt s (i : Nat) := by
  obtain ⟨bs⟩ := s
  show ((bs[i]!).toNat : Int) = _
  unfold bt
  split
  · rename_i h
    have h' : i < bs.size := by rw [Int.toNat_natCast] at h; exact h
    rw [getElem!_pos bs i h']
    rfl
  · rename_i h
    have h' : ¬ i < bs.size := by rw [Int.toNat_natCast] at h; exact h
    rw [getElem!_neg bs i h']
    rfl

def bytesZ (n : Int) : List Int := if n < 128 then [n] else if n < 2048 then [192 + n / 64, 128 + n % 64] else if n < 65536 then [224 + n / 4096, 128 + n / 64 % 64, 128 + n % 64]
  else [240 + n / 262144, 128 + n / 4096 % 64, 128 + n / 64 % 64, 128 + n % 64]

theorem bytes_f (n : Int) (h0 : 0 ≤ n) (h1 : n ≤ 1114111) : basculeref09_Bytes.f n = some (strOfNums (bytesZ n)) := by
  unfold basculeref09_Bytes.f bytesZ
  have d1 : Int.tdiv n 64 = n / 64 := Int.tdiv_eq_ediv_of_nonneg h0
  have d2 : Int.tdiv n 4096 = n / 4096 := Int.tdiv_eq_ediv_of_nonneg h0
  have d3 : Int.tdiv n 262144 = n / 262144 := Int.tdiv_eq_ediv_of_nonneg h0
  have m1 : Int.tmod n 64 = n % 64 := Int.tmod_eq_emod_of_nonneg h0
  simp only [d1, d2, d3, m1]
  have w1 := wr (n / 64) (by omega) (by omega)
  have w2 := wr (n / 4096) (by omega) (by omega)
  have w3 := wr (n / 262144) (by omega) (by omega)
  simp only [w1, w2, w3]
  have m2 : Int.tmod (n / 64) 64 = n / 64 % 64 := Int.tmod_eq_emod_of_nonneg (by omega)
  have m3 : Int.tmod (n / 4096) 64 = n / 4096 % 64 := Int.tmod_eq_emod_of_nonneg (by omega)
  simp only [m2, m3]
  repeat' split
  all_goals congr 2
  all_goals (repeat rw [wr _ (by omega) (by omega)])
  all_goals simp
  all_goals omega

def pt (n : Int) : Bool := decide (1 ≤ n ∧ n ≤ 1114111 ∧ (n < 55296 ∨ 57343 < n))
theorem point_f (n : Int) : basculeref09_Point.f n = some (pt n) := by
  unfold basculeref09_Point.f pt
  repeat' split
  all_goals (rw [Option.some.injEq, Bool.eq_iff_iff]; simp only [decide_eq_true_eq, Bool.false_eq_true, true_iff, false_iff]; omega)

theorem nums_inj {xs ys : List Int} (hx : ∀ x ∈ xs, 0 ≤ x ∧ x < 256) (hy : ∀ x ∈ ys, 0 ≤ x ∧ x < 256) (h : xs.map (fun n => UInt8.ofNat n.toNat) = ys.map (fun n => UInt8.ofNat n.toNat)) : xs = ys := by
  induction xs generalizing ys with
  | nil => cases ys with
    | nil => rfl
    | cons y ys => simp at h
  | cons x xs ih =>
    cases ys with
    | nil => simp at h
    | cons y ys =>
      simp only [List.map_cons, List.cons.injEq] at h
      have h1 := hx x (.head _)
      have h2 := hy y (.head _)
      have h3 := congrArg UInt8.toNat h.1
      simp only [UInt8.toNat_ofNat'] at h3
      rw [Nat.mod_eq_of_lt (by omega), Nat.mod_eq_of_lt (by omega)] at h3
      rw [ih (fun z hz => hx z (.tail _ hz)) (fun z hz => hy z (.tail _ hz)) h.2, show x = y by omega]

theorem bytesZ_range {n : Int} (h0 : 0 ≤ n) (h1 : n ≤ 1114111) : ∀ x ∈ bytesZ n, 0 ≤ x ∧ x < 256 := by
  unfold bytesZ
  repeat' split
  all_goals simp
  all_goals omega

theorem ext_nums (s : ByteArray) (k : Nat) (hk : k ≤ s.size) : (s.extract 0 k).toList = ((List.range k).map fun i => bt s (i : Nat)).map (fun n => UInt8.ofNat n.toNat) := by
  rw [Lib.toList_data]
  apply List.ext_getElem?
  intro i
  by_cases hi : i < k
  · have hs : i < s.data.size := by have : s.size = s.data.size := rfl; omega
    have hb : bt s (i : Nat) = ((s.data[i]'hs).toNat : Int) := by
      unfold bt
      rw [dif_pos (by simpa using (show i < s.size from hs))]
      rfl
    simp only [ByteArray.data_extract, Array.toList_extract, List.map_map]
    rw [List.getElem?_map, List.getElem?_range hi, Option.map_some]
    rw [List.getElem?_eq_getElem (by simp; omega)]
    simp [hb]
  · have h1 : (s.extract 0 k).data.toList.length ≤ i := by simp; omega
    rw [List.getElem?_eq_none h1, List.getElem?_eq_none (by simp; omega)]

def okZ (s : ByteArray) (n : Int) (sz : Nat) : Bool := pt n && decide (bytesZ n = (List.range sz).map fun i => bt s (i : Nat))

theorem first_tail (s : ByteArray) (sz : Nat) (h : sz ≤ s.size) (h4 : sz ≤ 4) (n : Int) (k : Nat) :
    ((basculeref09_Point.f n).bind fun t122 => (if t122 = true then ((basculeref09_Bytes.f n).bind fun t123 => (if 0 ≤ (sz : Int) then (if (sz : Int) ≤ (s.size : Int) then (if t123.toList = (s.extract 0 ((sz : Int) : Int).toNat).toList then (some n) else (basculeref09_first.l0 k s (wrap64 ((sz : Int) + 1)))) else (none)) else (none))) else (basculeref09_first.l0 k s (wrap64 ((sz : Int) + 1)))))
      = if okZ s n sz then some n else basculeref09_first.l0 k s (sz + 1) := by
  rw [point_f, wr _ (by omega) (by omega)]
  unfold okZ
  cases hp : pt n
  · simp
  · have hn : 1 ≤ n ∧ n ≤ 1114111 := by unfold pt at hp; simp at hp; omega
    rw [bytes_f n (by omega) hn.2]
    have e : ((strOfNums (bytesZ n)).toList = (s.extract 0 sz).toList) = (bytesZ n = (List.range sz).map fun i => bt s (i : Nat)) := by
      rw [ext_nums s sz h, Lib.toList_data, strOfNums_data]
      exact propext ⟨fun e => nums_inj (bytesZ_range (by omega) hn.2) (fun x hx => by simp at hx; obtain ⟨i, _, rfl⟩ := hx; have := bt_range s (i : Nat); omega) e, fun e => by rw [e]⟩
    simp only [Option.bind_some, if_true, Int.toNat_natCast, e]
    rw [if_pos (by omega), if_pos (by omega)]
    simp only [Bool.true_and, decide_eq_true_eq]

end Go.Proofs.YtaaaifeommdblaaDoor

namespace Go.Proofs.YtaaaifeommdblaaDoor
open Go.RowKit Go.Proofs.YtaaaifeommdblaaDoorW.PrintWords Go.Proofs.YtaaaifeommdblaaDoor.PSubsAgain

def n2 (s : ByteArray) : Int := 64 * (bt s 0 - 192) + bt s 1 - 128
def n3 (s : ByteArray) : Int := 64 * (64 * (bt s 0 - 224) + bt s 1 - 128) + bt s 2 - 128
def n4 (s : ByteArray) : Int := 64 * (64 * (64 * (bt s 0 - 240) + bt s 1 - 128) + bt s 2 - 128) + bt s 3 - 128

theorem step1 (s : ByteArray) (hs : 0 < s.size) (k : Nat) : basculeref09_first.l0 (k + 4) s 1 = if okZ s (bt s 0) 1 then some (bt s 0) else basculeref09_first.l0 k s 2 := by
  have r0 := bt_range s 0
  have W1 := wr (bt s 0) (by omega) (by omega)
  have h1 : (1 : Int) ≤ (s.size : Int) := by omega
  have h0 : (0 : Int) < (s.size : Int) := by omega
  rw [basculeref09_first.l0, if_pos (by decide), decide_eq_true h1, basculeref09_first.j1, if_pos rfl, if_pos h0, if_neg (by decide), if_neg (by decide), if_neg (by decide), basculeref09_first.j2, basculeref09_first.l1, if_neg (by decide), W1]
  exact first_tail s 1 hs (by omega) _ k

theorem step2 (s : ByteArray) (hs : 2 ≤ s.size) (k : Nat) : basculeref09_first.l0 (k + 5) s 2 = if okZ s (n2 s) 2 then some (n2 s) else basculeref09_first.l0 k s 3 := by
  have r0 := bt_range s 0
  have r1 := bt_range s 1
  have W1 := wr (bt s 0) (by omega) (by omega)
  have W2 := wr (bt s 0 - 192) (by omega) (by omega)
  have W3 := wr (64 * (bt s 0 - 192)) (by omega) (by omega)
  have V1 := wr (bt s 1) (by omega) (by omega)
  have W4 := wr (64 * (bt s 0 - 192) + bt s 1) (by omega) (by omega)
  have W5 := wr (64 * (bt s 0 - 192) + bt s 1 - 128) (by omega) (by omega)
  have h1 : (2 : Int) ≤ (s.size : Int) := by omega
  have h0 : (0 : Int) < (s.size : Int) := by omega
  rw [basculeref09_first.l0, if_pos (by decide), decide_eq_true h1, basculeref09_first.j1, if_pos rfl, if_pos h0, if_pos rfl, basculeref09_first.j2, basculeref09_first.l1, if_pos (by decide), if_pos (by decide), if_pos (show (1 : Int) < (s.size : Int) by omega), show wrap64 (1 + 1) = 2 from wr (1 + 1) (by omega) (by omega), basculeref09_first.l1, if_neg (by decide), W1, W2, W3, V1, W4, W5]
  exact first_tail s 2 hs (by omega) _ k

theorem step3 (s : ByteArray) (hs : 3 ≤ s.size) (k : Nat) : basculeref09_first.l0 (k + 6) s 3 = if okZ s (n3 s) 3 then some (n3 s) else basculeref09_first.l0 k s 4 := by
  have r0 := bt_range s 0
  have r1 := bt_range s 1
  have r2 := bt_range s 2
  have W1 := wr (bt s 0) (by omega) (by omega)
  have W2 := wr (bt s 0 - 224) (by omega) (by omega)
  have W3 := wr (64 * (bt s 0 - 224)) (by omega) (by omega)
  have V1 := wr (bt s 1) (by omega) (by omega)
  have V2 := wr (bt s 2) (by omega) (by omega)
  have W4 := wr (64 * (bt s 0 - 224) + bt s 1) (by omega) (by omega)
  have W5 := wr (64 * (bt s 0 - 224) + bt s 1 - 128) (by omega) (by omega)
  have W6 := wr (64 * (64 * (bt s 0 - 224) + bt s 1 - 128)) (by omega) (by omega)
  have W7 := wr (64 * (64 * (bt s 0 - 224) + bt s 1 - 128) + bt s 2) (by omega) (by omega)
  have W8 := wr (64 * (64 * (bt s 0 - 224) + bt s 1 - 128) + bt s 2 - 128) (by omega) (by omega)
  have h1 : (3 : Int) ≤ (s.size : Int) := by omega
  have h0 : (0 : Int) < (s.size : Int) := by omega
  rw [basculeref09_first.l0, if_pos (by decide), decide_eq_true h1, basculeref09_first.j1, if_pos rfl, if_pos h0, if_neg (by decide), if_pos rfl, basculeref09_first.j2, basculeref09_first.l1, if_pos (by decide), if_pos (by decide), if_pos (show (1 : Int) < (s.size : Int) by omega), show wrap64 (1 + 1) = 2 from wr (1 + 1) (by omega) (by omega),
    basculeref09_first.l1, if_pos (by decide), if_pos (by decide), if_pos (show (2 : Int) < (s.size : Int) by omega), show wrap64 (2 + 1) = 3 from wr (2 + 1) (by omega) (by omega), basculeref09_first.l1, if_neg (by decide), W1, W2, W3, V1, W4, W5, W6, V2, W7, W8]
  exact first_tail s 3 hs (by omega) _ k

theorem step4 (s : ByteArray) (hs : 4 ≤ s.size) (k : Nat) : basculeref09_first.l0 (k + 7) s 4 = if okZ s (n4 s) 4 then some (n4 s) else basculeref09_first.l0 k s 5 := by
  have r0 := bt_range s 0
  have r1 := bt_range s 1
  have r2 := bt_range s 2
  have r3 := bt_range s 3
  have W1 := wr (bt s 0) (by omega) (by omega)
  have W2 := wr (bt s 0 - 240) (by omega) (by omega)
  have W3 := wr (64 * (bt s 0 - 240)) (by omega) (by omega)
  have V1 := wr (bt s 1) (by omega) (by omega)
  have V2 := wr (bt s 2) (by omega) (by omega)
  have V3 := wr (bt s 3) (by omega) (by omega)
  have W4 := wr (64 * (bt s 0 - 240) + bt s 1) (by omega) (by omega)
  have W5 := wr (64 * (bt s 0 - 240) + bt s 1 - 128) (by omega) (by omega)
  have W6 := wr (64 * (64 * (bt s 0 - 240) + bt s 1 - 128)) (by omega) (by omega)
  have W7 := wr (64 * (64 * (bt s 0 - 240) + bt s 1 - 128) + bt s 2) (by omega) (by omega)
  have W8 := wr (64 * (64 * (bt s 0 - 240) + bt s 1 - 128) + bt s 2 - 128) (by omega) (by omega)
  have W9 := wr (64 * (64 * (64 * (bt s 0 - 240) + bt s 1 - 128) + bt s 2 - 128)) (by omega) (by omega)
  have Wa := wr (64 * (64 * (64 * (bt s 0 - 240) + bt s 1 - 128) + bt s 2 - 128) + bt s 3) (by omega) (by omega)
  have Wb := wr (64 * (64 * (64 * (bt s 0 - 240) + bt s 1 - 128) + bt s 2 - 128) + bt s 3 - 128) (by omega) (by omega)
  have h1 : (4 : Int) ≤ (s.size : Int) := by omega
  have h0 : (0 : Int) < (s.size : Int) := by omega
  rw [basculeref09_first.l0, if_pos (by decide), decide_eq_true h1, basculeref09_first.j1, if_pos rfl, if_pos h0, if_neg (by decide), if_neg (by decide), if_pos rfl, basculeref09_first.j2, basculeref09_first.l1, if_pos (by decide), if_pos (by decide), if_pos (show (1 : Int) < (s.size : Int) by omega), show wrap64 (1 + 1) = 2 from wr (1 + 1) (by omega) (by omega),
    basculeref09_first.l1, if_pos (by decide), if_pos (by decide), if_pos (show (2 : Int) < (s.size : Int) by omega), show wrap64 (2 + 1) = 3 from wr (2 + 1) (by omega) (by omega), basculeref09_first.l1, if_pos (by decide), if_pos (by decide), if_pos (show (3 : Int) < (s.size : Int) by omega), show wrap64 (3 + 1) = 4 from wr (3 + 1) (by omega) (by omega),
    basculeref09_first.l1, if_neg (by decide), W1, W2, W3, V1, W4, W5, W6, V2, W7, W8, W9, V3, Wa, Wb]
  exact first_tail s 4 hs (by omega) _ k

theorem short (s : ByteArray) (sz : Int) (h : ¬ (sz ≤ 4 ∧ sz ≤ (s.size : Int))) (k : Nat) : basculeref09_first.l0 (k + 2) s sz = some 0 := by
  rw [basculeref09_first.l0]
  by_cases h4 : sz ≤ 4
  · rw [if_pos h4, decide_eq_false (by omega), basculeref09_first.j1, if_neg (by decide)]
  · rw [if_neg h4, basculeref09_first.j1, if_neg (by decide)]

def firstZ (s : ByteArray) : Int :=
  if okZ s (bt s 0) 1 then bt s 0 else if 2 ≤ s.size then (if okZ s (n2 s) 2 then n2 s else if 3 ≤ s.size then (if okZ s (n3 s) 3 then n3 s else if 4 ≤ s.size then (if okZ s (n4 s) 4 then n4 s else 0) else 0) else 0) else 0

theorem first_f (s : ByteArray) (hs : 0 < s.size) (k : Nat) : basculeref09_first.f (k + 24) s = some (firstZ s) := by
  unfold basculeref09_first.f firstZ
  rw [step1 s hs (k + 20)]
  split
  · rfl
  by_cases h2 : 2 ≤ s.size
  · rw [if_pos h2, step2 s h2 (k + 15)]
    split
    · rfl
    by_cases h3 : 3 ≤ s.size
    · rw [if_pos h3, step3 s h3 (k + 9)]
      split
      · rfl
      by_cases h4 : 4 ≤ s.size
      · rw [if_pos h4, step4 s h4 (k + 2)]
        split
        · rfl
        exact short s 5 (by omega) k
      · rw [if_neg h4]; exact short s 4 (by omega) (k + 7)
    · rw [if_neg h3]; exact short s 3 (by omega) (k + 13)
  · rw [if_neg h2]; exact short s 2 (by omega) (k + 18)

theorem range1 (s : ByteArray) : ((List.range 1).map fun i => bt s (i : Nat)) = [bt s 0] := rfl
theorem range2 (s : ByteArray) : ((List.range 2).map fun i => bt s (i : Nat)) = [bt s 0, bt s 1] := rfl
theorem range3 (s : ByteArray) : ((List.range 3).map fun i => bt s (i : Nat)) = [bt s 0, bt s 1, bt s 2] := rfl
theorem range4 (s : ByteArray) : ((List.range 4).map fun i => bt s (i : Nat)) = [bt s 0, bt s 1, bt s 2, bt s 3] := rfl

theorem ok1 (s : ByteArray) : okZ s (bt s 0) 1 = true ↔ (1 ≤ bt s 0 ∧ bt s 0 < 128) := by
  have r0 := bt_range s 0
  unfold okZ pt bytesZ
  rw [range1]
  generalize bt s 0 = a at *
  repeat' split
  all_goals simp only [Bool.and_eq_true, decide_eq_true_eq, List.cons.injEq, and_true, reduceCtorEq, and_false, false_iff]
  all_goals omega
theorem ok2 (s : ByteArray) : okZ s (n2 s) 2 = true ↔ (bt s 0 / 32 = 6 ∧ bt s 1 / 64 = 2 ∧ 128 ≤ bt s 0 % 32 * 64 + bt s 1 % 64) := by
  have r0 := bt_range s 0
  have r1 := bt_range s 1
  unfold okZ pt bytesZ n2
  rw [range2]
  generalize bt s 0 = a at *
  generalize bt s 1 = b at *
  repeat' split
  all_goals simp only [Bool.and_eq_true, decide_eq_true_eq, List.cons.injEq, and_true, reduceCtorEq, and_false, false_iff]
  all_goals omega
theorem ok3 (s : ByteArray) : okZ s (n3 s) 3 = true ↔ (bt s 0 / 16 = 14 ∧ bt s 1 / 64 = 2 ∧ bt s 2 / 64 = 2 ∧ 2048 ≤ n3 s ∧ (n3 s < 55296 ∨ 57344 ≤ n3 s)) := by
  have r0 := bt_range s 0
  have r1 := bt_range s 1
  have r2 := bt_range s 2
  unfold okZ pt bytesZ n3
  rw [range3]
  generalize bt s 0 = a at *
  generalize bt s 1 = b at *
  generalize bt s 2 = c at *
  repeat' split
  all_goals simp only [Bool.and_eq_true, decide_eq_true_eq, List.cons.injEq, and_true, reduceCtorEq, and_false, false_iff]
  all_goals omega
theorem ok4 (s : ByteArray) : okZ s (n4 s) 4 = true ↔ (bt s 0 / 8 = 30 ∧ bt s 1 / 64 = 2 ∧ bt s 2 / 64 = 2 ∧ bt s 3 / 64 = 2 ∧ 65536 ≤ n4 s ∧ n4 s ≤ 1114111) := by
  have r0 := bt_range s 0
  have r1 := bt_range s 1
  have r2 := bt_range s 2
  have r3 := bt_range s 3
  unfold okZ pt bytesZ n4
  rw [range4]
  generalize bt s 0 = a at *
  generalize bt s 1 = b at *
  generalize bt s 2 = c at *
  generalize bt s 3 = d at *
  repeat' split
  all_goals simp only [Bool.and_eq_true, decide_eq_true_eq, List.cons.injEq, and_true, reduceCtorEq, and_false, false_iff]
  all_goals omega

end Go.Proofs.YtaaaifeommdblaaDoor

namespace Go.Proofs.YtaaaifeommdblaaDoor
open Go.RowKit Go.Proofs.YtaaaifeommdblaaDoorW.PrintWords Go.Proofs.YtaaaifeommdblaaDoor.PSubsAgain

theorem bz1 {n : Int} (h : n < 128) : (bytesZ n).length = 1 := by unfold bytesZ; rw [if_pos h]; rfl
theorem bz2 {n : Int} (h : 128 ≤ n) (h2 : n < 2048) : (bytesZ n).length = 2 := by unfold bytesZ; rw [if_neg (by omega), if_pos h2]; rfl
theorem bz3 {n : Int} (h : 2048 ≤ n) (h2 : n < 65536) : (bytesZ n).length = 3 := by unfold bytesZ; rw [if_neg (by omega), if_neg (by omega), if_pos h2]; rfl
theorem bz4 {n : Int} (h : 65536 ≤ n) : (bytesZ n).length = 4 := by unfold bytesZ; rw [if_neg (by omega), if_neg (by omega), if_neg (by omega)]; rfl

section
variable (n a b c d : Nat) (ha : a < 256) (hb : b < 256) (hc : c < 256) (hd : d < 256)
theorem dA (h : a < 128) : Lib.decodeN n a b c d = (a, 1) := by unfold Lib.decodeN; rw [if_pos h]
def cB : Prop := a / 32 = 6 ∧ b / 64 = 2 ∧ 128 ≤ a % 32 * 64 + b % 64
def vC : Nat := a % 16 * 4096 + b % 64 * 64 + c % 64
def vD : Nat := a % 8 * 262144 + b % 64 * 4096 + c % 64 * 64 + d % 64
def cC : Prop := a / 16 = 14 ∧ b / 64 = 2 ∧ c / 64 = 2 ∧ 2048 ≤ vC a b c ∧ (vC a b c < 55296 ∨ 57344 ≤ vC a b c)
def cD : Prop := a / 8 = 30 ∧ b / 64 = 2 ∧ c / 64 = 2 ∧ d / 64 = 2 ∧ 65536 ≤ vD a b c d ∧ vD a b c d ≤ 1114111
theorem dB (h1 : 1 < n) (h : cB a b) : Lib.decodeN n a b c d = (a % 32 * 64 + b % 64, 2) := by
  unfold cB at h
  unfold Lib.decodeN; rw [if_neg (by omega), if_pos (by omega), if_pos (by omega)]
theorem dC (h1 : 2 < n) (h : cC a b c) : Lib.decodeN n a b c d = (vC a b c, 3) := by
  unfold cC vC at h
  unfold Lib.decodeN vC; rw [if_neg (by omega), if_neg (by omega), if_pos (by omega), if_pos (by omega)]
theorem dD (h1 : 3 < n) (h : cD a b c d) : Lib.decodeN n a b c d = (vD a b c d, 4) := by
  unfold cD vD at h
  unfold Lib.decodeN vD; rw [if_neg (by omega), if_neg (by omega), if_neg (by omega), if_pos (by omega), if_pos (by omega)]
theorem dE (h0 : 128 ≤ a) (h1 : ¬ (1 < n ∧ cB a b)) (h2 : ¬ (2 < n ∧ cC a b c)) (h3 : ¬ (3 < n ∧ cD a b c d)) : Lib.decodeN n a b c d = (65533, 1) := by
  unfold cB at h1
  unfold cC vC at h2
  unfold cD vD at h3
  unfold Lib.decodeN
  rw [if_neg (by omega)]
  by_cases g1 : a / 32 = 6 ∧ (1 < n ∧ b / 64 = 2)
  · rw [if_pos g1, if_neg (by omega)]
  · rw [if_neg g1]
    by_cases g2 : a / 16 = 14 ∧ (1 < n ∧ b / 64 = 2) ∧ (2 < n ∧ c / 64 = 2)
    · rw [if_pos g2, if_neg (by omega)]
    · rw [if_neg g2]
      by_cases g3 : a / 8 = 30 ∧ (1 < n ∧ b / 64 = 2) ∧ (2 < n ∧ c / 64 = 2) ∧ (3 < n ∧ d / 64 = 2)
      · rw [if_pos g3, if_neg (by omega)]
      · rw [if_neg g3]
end

def pf (p : Nat × Nat) : Nat × Nat := if p.1 = 0 ∨ (p.1 = 65533 ∧ p.2 < 2) then (0, 0) else p
theorem pF0 (x y : Nat) (h : x = 0 ∨ (x = 65533 ∧ y < 2)) : pf (x, y) = (0, 0) := if_pos h
theorem pF1 (x y : Nat) (h : ¬ (x = 0 ∨ (x = 65533 ∧ y < 2))) : pf (x, y) = (x, y) := if_neg h

theorem point_first (s : ByteArray) (hs : 0 < s.size) : firstZ s = ((pointF s).1 : Int) ∧ ((firstZ s = 0 ∧ (pointF s).2 = 0) ∨ (firstZ s ≠ 0 ∧ (bytesZ (firstZ s)).length = (pointF s).2 ∧ 0 < (pointF s).2)) := by
  have hd : Lib.decodeGo s = Lib.decodeN s.size (s.get! 0).toNat (s.get! 1).toNat (s.get! 2).toNat (s.get! 3).toNat := by
    unfold Lib.decodeGo
    rw [if_neg (by omega), Lib.decode_at]; rfl
  show firstZ s = ((pf (Lib.decodeGo s)).1 : Int) ∧ ((firstZ s = 0 ∧ (pf (Lib.decodeGo s)).2 = 0) ∨ (firstZ s ≠ 0 ∧ (bytesZ (firstZ s)).length = (pf (Lib.decodeGo s)).2 ∧ 0 < (pf (Lib.decodeGo s)).2))
  rw [hd]
  clear hd
  have r0 := (s.get! 0).toNat_lt; have r1 := (s.get! 1).toNat_lt; have r2 := (s.get! 2).toNat_lt; have r3 := (s.get! 3).toNat_lt
  have b0 : bt s 0 = ((s.get! 0).toNat : Int) := (bt_get s 0).symm
  have b1 : bt s 1 = ((s.get! 1).toNat : Int) := (bt_get s 1).symm
  have b2 : bt s 2 = ((s.get! 2).toNat : Int) := (bt_get s 2).symm
  have b3 : bt s 3 = ((s.get! 3).toNat : Int) := (bt_get s 3).symm
  have o1 := ok1 s; have o2 := ok2 s; have o3 := ok3 s; have o4 := ok4 s
  have m2 : n2 s = 64 * (bt s 0 - 192) + bt s 1 - 128 := rfl
  have m3 : n3 s = 64 * (64 * (bt s 0 - 224) + bt s 1 - 128) + bt s 2 - 128 := rfl
  have m4 : n4 s = 64 * (64 * (64 * (bt s 0 - 240) + bt s 1 - 128) + bt s 2 - 128) + bt s 3 - 128 := rfl
  have z1 := @bz1 (bt s 0); have z2 := @bz2 (n2 s); have z3 := @bz3 (n3 s); have z4 := @bz4 (n4 s)
  unfold firstZ
  rw [b0, b1] at o2 m2
  rw [b0] at o1 z1
  rw [b0, b1, b2] at o3 m3
  rw [b0, b1, b2, b3] at o4 m4
  rw [b0]
  generalize okZ s ((s.get! 0).toNat : Int) 1 = k1 at *
  generalize okZ s (n2 s) 2 = k2 at *
  generalize okZ s (n3 s) 3 = k3 at *
  generalize okZ s (n4 s) 4 = k4 at *
  generalize n2 s = q2 at *
  generalize n3 s = q3 at *
  generalize n4 s = q4 at *
  clear b0 b1 b2 b3
  generalize (s.get! 0).toNat = a at *
  generalize (s.get! 1).toNat = b at *
  generalize (s.get! 2).toNat = c at *
  generalize (s.get! 3).toNat = d at *
  generalize s.size = n at *
  by_cases hA : a < 128
  · rw [dA _ _ _ _ _ hA]
    have e2 : k2 = false := by cases k2 with | false => rfl | true => (have := o2.1 rfl; omega)
    have e3 : k3 = false := by cases k3 with | false => rfl | true => (have := o3.1 rfl; omega)
    have e4 : k4 = false := by cases k4 with | false => rfl | true => (have := o4.1 rfl; omega)
    subst e2; subst e3; subst e4
    simp only [Bool.false_eq_true, if_false, ite_self]
    by_cases h0 : a = 0
    · have e1 : k1 = false := by cases k1 with | false => rfl | true => (have := o1.1 rfl; omega)
      subst e1
      rw [pF0 _ _ (.inl h0)]
      simp
    · have e1 : k1 = true := o1.2 (by omega)
      subst e1
      rw [pF1 _ _ (by omega)]
      rw [if_pos rfl]
      refine ⟨rfl, .inr ⟨by omega, z1 (by omega), by omega⟩⟩
  · have e1 : k1 = false := by cases k1 with | false => rfl | true => (have := o1.1 rfl; omega)
    subst e1
    simp only [Bool.false_eq_true, if_false]
    by_cases hB : 1 < n ∧ cB a b
    · have hB' := hB.2
      unfold cB at hB'
      have e2 : k2 = true := o2.2 (by omega)
      subst e2
      rw [dB _ _ _ _ _ hB.1 hB.2, if_pos (show 2 ≤ n by omega), if_pos rfl, pF1 _ _ (by omega)]
      refine ⟨by omega, .inr ⟨by omega, z2 (by omega) (by omega), by omega⟩⟩
    · by_cases hC : 2 < n ∧ cC a b c
      · have hC' := hC.2
        unfold cC at hC'
        have hv : (vC a b c : Int) = q3 := by unfold vC; omega
        have e2 : k2 = false := by cases k2 with | false => rfl | true => (have := o2.1 rfl; omega)
        have e3 : k3 = true := o3.2 (by omega)
        subst e2; subst e3
        rw [dC _ _ _ _ _ hC.1 hC.2, if_pos (show 2 ≤ n by omega), if_neg (by simp), if_pos (show 3 ≤ n by omega), if_pos rfl, pF1 _ _ (by omega)]
        refine ⟨by omega, .inr ⟨by omega, z3 (by omega) (by unfold vC at hv; omega), by omega⟩⟩
      · by_cases hD : 3 < n ∧ cD a b c d
        · have hD' := hD.2
          unfold cD at hD'
          have hv : (vD a b c d : Int) = q4 := by unfold vD; omega
          have e2 : k2 = false := by cases k2 with | false => rfl | true => (have := o2.1 rfl; omega)
          have e3 : k3 = false := by cases k3 with | false => rfl | true => (have := o3.1 rfl; omega)
          have e4 : k4 = true := o4.2 (by omega)
          subst e2; subst e3; subst e4
          rw [dD _ _ _ _ _ hD.1 hD.2, if_pos (show 2 ≤ n by omega), if_neg (by simp), if_pos (show 3 ≤ n by omega), if_neg (by simp), if_pos (show 4 ≤ n by omega), if_pos rfl, pF1 _ _ (by omega)]
          refine ⟨by omega, .inr ⟨by omega, z4 (by omega), by omega⟩⟩
        · rw [dE _ _ _ _ _ (by omega) hB hC hD, pF0 _ _ (by omega)]
          unfold cB at hB; unfold cC vC at hC; unfold cD vD at hD
          have fin : (if 2 ≤ n then (if k2 = true then q2 else if 3 ≤ n then (if k3 = true then q3 else if 4 ≤ n then (if k4 = true then q4 else 0) else 0) else 0) else 0) = (0 : Int) := by
            split
            · split
              · have := o2.1 (by assumption); omega
              · split
                · split
                  · have := o3.1 (by assumption); omega
                  · split
                    · split
                      · have := o4.1 (by assumption); omega
                      · rfl
                    · rfl
                · rfl
            · rfl
          rw [fin]
          simp

end Go.Proofs.YtaaaifeommdblaaDoor

namespace Go.Proofs.YtaaaifeommdblaaDoor
open Go.RowKit Go.Proofs.YtaaaifeommdblaaDoorW.PrintWords Go.Proofs.YtaaaifeommdblaaDoor.PSubsAgain

theorem points_l0 : ∀ (m : Nat) (s : ByteArray) (acc : List Int), s.size ≤ m → acc.length + m < 17592186044416 → ∃ out, basculeref09_Points.l0 (m + 25) s acc = some (out, isU m s)
  | 0, s, acc, hs, _ => by
    rw [basculeref09_Points.l0, if_neg (by omega)]
    exact ⟨acc, by rw [isU, decide_eq_true (by omega)]⟩
  | m + 1, s, acc, hs, ha => by
    rw [show m + 1 + 25 = (m + 25) + 1 by omega, basculeref09_Points.l0, isU]
    by_cases h0 : s.size = 0
    · rw [if_neg (by omega), if_pos h0]; exact ⟨acc, rfl⟩
    rw [if_pos (by omega), if_neg h0]
    have hf := first_f s (by omega) (m + 1)
    rw [show m + 1 + 24 = m + 25 by omega] at hf
    rw [hf, Option.bind_some]
    obtain ⟨he, hc⟩ := point_first s (by omega)
    obtain ⟨hl, _, hm⟩ := pointF_le s
    rcases hc with ⟨hz, hp⟩ | ⟨hz, hb, hp⟩
    · rw [if_pos hz, if_neg (by omega)]; exact ⟨[], rfl⟩
    · rw [if_neg hz, if_pos (by omega), if_pos hp, bytes_f (firstZ s) (by omega) (by omega), Option.bind_some, strOfNums_size, hb, if_pos (by omega), if_pos (by omega), Int.toNat_natCast]
      exact points_l0 m _ _ (by rw [ByteArray.size_extract]; omega) (by rw [List.length_append]; simp; omega)

theorem is_f (s : ByteArray) (j : Nat) : basculeref09_Is.f (s.size + 25 + j) s = some (utfIs s) := by
  have h : basculeref09_Is.f (s.size + 25) s = some (utfIs s) := by
    unfold basculeref09_Is.f basculeref09_Points.f utfIs
    by_cases hs : s.size ≤ 65535
    · rw [if_neg (by omega)]
      obtain ⟨out, ho⟩ := points_l0 s.size s [] (Nat.le_refl _) (by simp; omega)
      rw [ho, decide_eq_true hs]; rfl
    · rw [if_pos (by omega), decide_eq_false hs]; rfl
  induction j with
  | zero => exact h
  | succ j ih => exact basculeref09_Is.mono _ _ _ ih

theorem bt_list (s : ByteArray) (i : Nat) (h : i < s.size) : bt s (i : Nat) = ((s.data.toList[i]'(by simpa using h)).toNat : Int) := by
  unfold bt
  rw [dif_pos (by simpa using h)]
  rfl

theorem has_l0 (s : ByteArray) (c : Int) (hs : s.size < 4611686018427387904) : ∀ (j i k : Nat), i + j = s.size → basculeref12_has.l0 (j + 1 + k) s c (i : Nat) = some ((s.data.toList.drop i).any fun b => decide ((b.toNat : Int) = c))
  | 0, i, k, h => by
    rw [show 0 + 1 + k = k + 1 by omega, basculeref12_has.l0, if_neg (by omega), List.drop_eq_nil_of_le (by simp; omega)]; rfl
  | j + 1, i, k, h => by
    rw [show j + 1 + 1 + k = (j + 1 + k) + 1 by omega, basculeref12_has.l0, if_pos (by omega), if_pos (by omega), wr _ (by omega) (by omega), bt_list s i (by omega)]
    rw [List.drop_eq_getElem_cons (by simp; omega), List.any_cons]
    have ih := has_l0 s c hs j (i + 1) k (by omega)
    rw [show ((i : Int) + 1) = ((i + 1 : Nat) : Int) by omega, ih]
    split
    · rename_i e; rw [decide_eq_true e]; rfl
    · rename_i e; rw [decide_eq_false e]; rfl

theorem has_f (s : ByteArray) (c : Int) (hs : s.size < 4611686018427387904) (k : Nat) : basculeref12_has.f (s.size + 1 + k) s c = some (s.data.toList.any fun b => decide ((b.toNat : Int) = c)) := has_l0 s c hs s.size 0 k (by omega)

end Go.Proofs.YtaaaifeommdblaaDoor

namespace Go.Proofs.YtaaaifeommdblaaDoor
open Go.RowKit Go.Proofs.YtaaaifeommdblaaDoorW.PrintWords Go.Proofs.YtaaaifeommdblaaDoor.PSubsAgain

theorem wild_cons (b : UInt8) (l : List UInt8) : isWild (b :: l) = (decide ((b.toNat : Int) = 43) || decide ((b.toNat : Int) = 35) || isWild l) := by
  have e1 : decide ((b.toNat : Int) = 43) = decide (b = 43) := by
    rw [decide_eq_decide]
    exact ⟨fun h => UInt8.toNat_inj.1 (by show b.toNat = 43; omega), fun h => by rw [h]; rfl⟩
  have e2 : decide ((b.toNat : Int) = 35) = decide (b = 35) := by
    rw [decide_eq_decide]
    exact ⟨fun h => UInt8.toNat_inj.1 (by show b.toNat = 35; omega), fun h => by rw [h]; rfl⟩
  rw [e1, e2]
  unfold isWild Lib.containsAny
  rw [Lib.indexAny]
  have hg := Lib.indexAny_ge [43, 35] l
  by_cases h1 : b = 43
  · subst h1; rfl
  by_cases h2 : b = 35
  · subst h2; rfl
  rw [if_neg (by simp [h1, h2]), decide_eq_false h1, decide_eq_false h2]
  simp only [Bool.or_self, Bool.false_or]
  by_cases h3 : Lib.indexAny l [43, 35] = -1
  · rw [h3]; rfl
  · rw [if_neg (by simpa using h3), decide_eq_decide]; omega

theorem wild_any (l : List UInt8) : isWild l = ((l.any fun b => decide ((b.toNat : Int) = 43)) || (l.any fun b => decide ((b.toNat : Int) = 35))) := by
  induction l with
  | nil => rfl
  | cons b l ih =>
    rw [wild_cons, ih, List.any_cons, List.any_cons]
    cases decide ((b.toNat : Int) = 43) <;> cases decide ((b.toNat : Int) = 35) <;> simp

theorem utf_size {s : ByteArray} (h : utfIs s = true) : s.size ≤ 65535 := by
  unfold utfIs at h; simp at h; exact h.1

theorem name_f (s : ByteArray) : basculeref12_Name.f (s.size + 25) s = some (nameF s) := by
  unfold basculeref12_Name.f nameF
  by_cases h0 : s.size = 0
  · rw [if_pos (by rw [Lib.toList_data]; exact List.eq_nil_of_length_eq_zero (by simpa using h0)), decide_eq_true h0]; rfl
  · rw [if_neg (by rw [Lib.toList_data]; intro e; have := congrArg List.length e; simp at this; exact h0 (by simpa using this)), decide_eq_false h0]
    have hi := is_f s 0
    rw [Nat.add_zero] at hi
    rw [hi, Option.bind_some]
    cases hu : utfIs s
    · rw [if_neg (by decide)]; rfl
    · have hsz := utf_size hu
      have a1 := has_f s 43 (by omega) 24
      have a2 := has_f s 35 (by omega) 24
      rw [show s.size + 1 + 24 = s.size + 25 by omega] at a1 a2
      rw [if_pos rfl, a1, a2, wild_any]
      simp only [Option.bind_some]
      cases (s.data.toList.any fun b => decide ((b.toNat : Int) = 43)) <;> simp

theorem name_ref (s : ByteArray) (w : World) : Calls Tryd.prog 28 #[.string s] w fun e w' => e = .returned (.bool (nameF s)) ∧ Below w.heap.size w w' :=
  basculeref12_Name.calls _ s _ w (name_f s)

def addHead (p : List UInt8) (ls : List (List UInt8)) : List (List UInt8) := match ls with | [] => [p] | x :: r => (p ++ x) :: r
def ba (l : List UInt8) : ByteArray := ⟨l.toArray⟩
theorem extract_ba (s : ByteArray) (i j : Nat) : s.extract i j = ba ((s.data.toList.drop i).take (j - i)) := by
  unfold ba
  cases s with | mk bs =>
  apply ByteArray.ext
  apply Array.toList_inj.1
  simp only [ByteArray.data_extract, Array.toList_extract, List.extract]

theorem levels_l0 (s : ByteArray) (hs : s.size < 8796093022208) : ∀ (j i fr : Nat) (out : List ByteArray) (k : Nat), fr ≤ i → i + j = s.size → out.length ≤ i →
    basculeref12_Levels.l0 (j + 2 + k) s out (fr : Nat) (i : Nat) = some (out ++ (addHead ((s.data.toList.drop fr).take (i - fr)) (levels (s.data.toList.drop i))).map ba)
  | 0, i, fr, out, k, h1, h2, h3 => by
    have hd : s.data.toList.drop i = [] := List.drop_eq_nil_of_le (by simp; omega)
    rw [show 0 + 2 + k = (k + 1) + 1 by omega, basculeref12_Levels.l0, if_pos (by omega), if_pos (by omega), if_pos (by omega), if_pos (by omega), if_pos (by omega), wr _ (by omega) (by omega), basculeref12_Levels.l0, if_neg (by omega), hd]
    simp only [levels, addHead, Int.toNat_natCast, List.append_nil, List.map_cons, List.map_nil]
    rw [extract_ba]
  | j + 1, i, fr, out, k, h1, h2, h3 => by
    rw [show j + 1 + 2 + k = (j + 2 + k) + 1 by omega, basculeref12_Levels.l0, if_pos (by omega), if_neg (by omega), if_pos (by omega), if_pos (by omega), wr _ (by omega) (by omega), bt_list s i (by omega)]
    have hlt : i < s.data.toList.length := by simp; omega
    rw [List.drop_eq_getElem_cons hlt, levels]
    by_cases hb : s.data.toList[i] = 47
    · rw [if_pos (by rw [hb]; rfl), if_pos (by omega), if_pos (by omega), if_pos (by omega), if_pos hb]
      rw [show ((i : Int) + 1) = ((i + 1 : Nat) : Int) by omega, levels_l0 s hs j (i + 1) (i + 1) _ k (Nat.le_refl _) (by omega) (by simp; omega)]
      rw [Int.toNat_natCast, Int.toNat_natCast, extract_ba]
      simp only [addHead, Nat.sub_self, List.take_zero, List.append_nil, List.map_cons, List.append_assoc, List.cons_append, List.nil_append]
      cases hl : levels (s.data.toList.drop (i + 1)) with
      | nil => exact absurd hl (levels_ne _)
      | cons x r => rfl
    · rw [if_neg (fun e => hb (UInt8.toNat_inj.1 (by show s.data.toList[i].toNat = 47; omega))), if_neg hb]
      rw [show ((i : Int) + 1) = ((i + 1 : Nat) : Int) by omega, levels_l0 s hs j (i + 1) fr out k (by omega) (by omega) (by omega)]
      have ht : (s.data.toList.drop fr).take (i + 1 - fr) = (s.data.toList.drop fr).take (i - fr) ++ [s.data.toList[i]] := by
        rw [show i + 1 - fr = (i - fr) + 1 by omega, List.take_succ_eq_append_getElem (by simp; omega)]
        simp [List.getElem_drop, show fr + (i - fr) = i by omega]
      rw [ht]
      cases hl : levels (s.data.toList.drop (i + 1)) with
      | nil => rfl
      | cons x r => simp [addHead]

theorem levels_f (s : ByteArray) (hs : s.size < 8796093022208) (k : Nat) : basculeref12_Levels.f (s.size + 2 + k) s = some ((levels s.data.toList).map ba) := by
  have h := levels_l0 s hs s.size 0 0 [] k (Nat.le_refl _) (by omega) (by simp)
  refine h.trans ?_
  simp only [List.drop_zero, Nat.sub_self, List.take_zero, List.nil_append]
  cases hl : levels s.data.toList with
  | nil => exact absurd hl (levels_ne _)
  | cons x r => rfl

end Go.Proofs.YtaaaifeommdblaaDoor

namespace Go.Proofs.YtaaaifeommdblaaDoor
open Go.RowKit Go.Proofs.YtaaaifeommdblaaDoorW.PrintWords Go.Proofs.YtaaaifeommdblaaDoor.PSubsAgain

theorem ba_list (l : List UInt8) : (ba l).toList = l := by rw [Lib.toList_data]; rfl
theorem rd_at (L : List (List UInt8)) (i : Nat) (h : i < L.length) : (rdOf ByteArray.empty (L.map ba) (i : Nat)).toList = L[i] := by
  unfold rdOf
  rw [Int.toNat_natCast, List.getD_eq_getElem?_getD, List.getElem?_map, List.getElem?_eq_getElem h]
  exact ba_list _

theorem matchL_cons (v : List UInt8) (r n : List (List UInt8)) : matchL (v :: r) n = if v = [35] then true else match n with | [] => false | x :: n' => if v = [43] ∨ v = x then matchL r n' else false := by
  cases n <;> rfl
theorem levels_len : ∀ l : List UInt8, (levels l).length ≤ l.length + 1
  | [] => by simp [levels]
  | b :: l => by
    have ih := levels_len l
    rw [levels_cons]
    split
    · simp; omega
    · split
      · simp
      · rename_i h; rw [h] at ih; simp at ih ⊢; omega

theorem takes_l0 (F N : List (List UInt8)) (hf : F.length < 4611686018427387904) : ∀ (j i k : Nat), i + j = F.length → i ≤ N.length →
    basculeref12_Takes.l0 (j + 1 + k) (F.map ba) (N.map ba) (i : Nat) = some (matchL (F.drop i) (N.drop i))
  | 0, i, k, h, hn => by
    have hi : i = F.length := by omega
    have hd : F.drop i = [] := List.drop_eq_nil_of_le (by omega)
    rw [show 0 + 1 + k = k + 1 by omega, basculeref12_Takes.l0, if_neg (by simp; omega), hd]
    simp only [matchL, List.length_map]
    rw [Option.some.injEq, Bool.eq_iff_iff]
    simp only [beq_iff_eq, List.isEmpty_iff, List.drop_eq_nil_iff]
    omega
  | j + 1, i, k, h, hn => by
    have hi : i < F.length := by omega
    rw [show j + 1 + 1 + k = (j + 1 + k) + 1 by omega, basculeref12_Takes.l0, if_pos (by simp; omega), if_pos (by omega), rd_at F i hi, List.drop_eq_getElem_cons hi, matchL_cons]
    by_cases h35 : F[i] = [35]
    · rw [if_pos h35, if_pos h35]
    rw [if_neg h35, if_neg h35]
    by_cases hN : i < N.length
    · rw [if_neg (by simp; omega), List.drop_eq_getElem_cons hN]
      have ih := takes_l0 F N hf j (i + 1) k (by omega) (by omega)
      rw [show (((i + 1 : Nat)) : Int) = (i : Int) + 1 by omega] at ih
      rw [wr _ (by omega) (by omega), ih]
      show _ = some (if F[i] = [43] ∨ F[i] = N[i] then matchL (F.drop (i + 1)) (N.drop (i + 1)) else false)
      by_cases h43 : F[i] = [43]
      · rw [if_pos h43, if_pos (.inl h43)]
      · rw [if_neg h43, if_pos (show (i : Int) < ((N.map ba).length : Int) by rw [List.length_map]; omega), rd_at N i hN]
        by_cases he : F[i] = N[i]
        · rw [if_pos he, if_pos (.inr he)]
        · rw [if_neg he, if_neg (by simp [h43, he])]
    · have hd : N.drop i = [] := List.drop_eq_nil_of_le (by omega)
      rw [if_pos (by simp; omega), hd]

/-- The first level of a filter is wild just where its first byte is. -/
theorem head_wild {f : ByteArray} (hf : filterF f = true) : ∀ x r, levels f.data.toList = x :: r → isWild (f.data.toList.take 1) = (decide (x = [43]) || decide (x = [35])) := by
  intro x r hl
  have hall : levOk (ba x, (lasts (((x :: r)).map ba)).head?.any (·.2)) = true := by
    unfold filterF at hf
    simp only [Bool.and_eq_true] at hf
    have h := List.all_eq_true.1 hf.2.2
    unfold levs at h
    rw [hl] at h
    cases r with
    | nil => exact h _ (by simp [lasts, ba])
    | cons y r => exact h _ (by simp [lasts, ba])
  generalize ((lasts (((x :: r)).map ba)).head?.any (·.2)) = la at hall
  unfold levOk at hall
  rw [show (ba x).data.toList = x from rfl] at hall
  cases hb : f.data.toList with
  | nil => rw [hb] at hl; simp [levels] at hl; rw [hl.1]; rfl
  | cons b l =>
    rw [hb, levels_cons] at hl
    rw [List.take_succ_cons, List.take_zero, wild_cons]
    have wn : isWild [] = false := rfl
    rw [wn, Bool.or_false]
    by_cases h47 : b = 47
    · rw [if_pos h47] at hl
      obtain ⟨rfl, _⟩ := List.cons.inj hl
      subst h47; rfl
    rw [if_neg h47] at hl
    obtain ⟨x', rfl⟩ : ∃ x', x = b :: x' := by
      cases hx : levels l with
      | nil => rw [hx] at hl; exact ⟨[], (List.cons.inj hl).1.symm⟩
      | cons y s => rw [hx] at hl; exact ⟨y, (List.cons.inj hl).1.symm⟩
    rw [wild_cons] at hall
    have e1 : decide ((b.toNat : Int) = 43) = decide (b = 43) := by
      rw [decide_eq_decide]
      exact ⟨fun h => UInt8.toNat_inj.1 (by show b.toNat = 43; omega), fun h => by rw [h]; rfl⟩
    have e2 : decide ((b.toNat : Int) = 35) = decide (b = 35) := by
      rw [decide_eq_decide]
      exact ⟨fun h => UInt8.toNat_inj.1 (by show b.toNat = 35; omega), fun h => by rw [h]; rfl⟩
    rw [e1, e2] at hall ⊢
    by_cases h1 : b = 43
    · subst h1
      simp at hall ⊢
      exact hall
    · by_cases h2 : b = 35
      · subst h2
        simp at hall ⊢
        exact hall.1
      · simp [h1, h2]

theorem takes_f (f n : ByteArray) (hf : filterF f = true) (hn : nameF n = true) : basculeref12_Takes.f (f.size + n.size + 10) f n = some (takesF f n) := by
  have hfs : f.size ≤ 65535 := by
    unfold filterF at hf; simp only [Bool.and_eq_true] at hf; exact utf_size hf.2.1
  have hn' := hn
  unfold nameF at hn'
  simp only [Bool.and_eq_true, Bool.not_eq_true', decide_eq_false_iff_not] at hn'
  have hns : n.size ≤ 65535 := utf_size hn'.2.1
  have hn0 : 0 < n.size := by omega
  unfold basculeref12_Takes.f
  have l1 := levels_f f (by omega) (n.size + 8)
  have l2 := levels_f n (by omega) (f.size + 8)
  rw [show f.size + 2 + (n.size + 8) = f.size + n.size + 10 by omega] at l1
  rw [show n.size + 2 + (f.size + 8) = f.size + n.size + 10 by omega] at l2
  rw [l1, l2, Option.bind_some, Option.bind_some, if_pos (by omega)]
  have hlen := levels_len f.data.toList
  have hfl : f.data.toList.length = f.size := Array.length_toList
  have hm := takes_l0 (levels f.data.toList) (levels n.data.toList) (by omega) (levels f.data.toList).length 0 (f.size + n.size + 9 - ((levels f.data.toList).length + 1)) (by omega) (by omega)
  rw [show (levels f.data.toList).length + 1 + (f.size + n.size + 9 - ((levels f.data.toList).length + 1)) = f.size + n.size + 9 by omega] at hm
  simp only [List.drop_zero] at hm
  have hj : ∀ b, basculeref12_Takes.j0 (f.size + n.size + 10) ((levels f.data.toList).map ba) ((levels n.data.toList).map ba) b = some (!b && matchL (levels f.data.toList) (levels n.data.toList)) := by
    intro b
    rw [show f.size + n.size + 10 = (f.size + n.size + 9) + 1 by omega, basculeref12_Takes.j0]
    cases b
    · rw [if_neg (by decide)]; exact hm
    · rw [if_pos rfl]; rfl
  have hp : Lib.hasPrefix n.data.toList [36] = decide (bt n 0 = 36) := by
    have hb := bt_list n 0 hn0
    cases hnl : n.data.toList with
    | nil => have e : n.data.toList.length = n.size := Array.length_toList; rw [hnl] at e; simp at e; omega
    | cons b l =>
      have hb' : bt n 0 = (b.toNat : Int) := by
        rw [show bt n 0 = bt n ((0 : Nat) : Int) from rfl, hb]
        simp [hnl]
      rw [hb']
      unfold Lib.hasPrefix
      have e1 : decide ((b.toNat : Int) = 36) = (36 == b) := by
        rw [Bool.eq_iff_iff, decide_eq_true_eq, beq_iff_eq]
        exact ⟨fun h => UInt8.toNat_inj.1 (by show 36 = b.toNat; omega), fun h => by rw [← h]; rfl⟩
      rw [e1]
      simp [List.isPrefixOf]
  cases hl : levels f.data.toList with
  | nil => exact absurd hl (levels_ne _)
  | cons x r =>
    have hw := head_wild hf x r hl
    have hr := rd_at (levels f.data.toList) 0 (by rw [hl]; simp)
    have hr' : (rdOf ByteArray.empty ((levels f.data.toList).map ba) 0).toList = x := by
      have : (levels f.data.toList)[0]'(by rw [hl]; simp) = x := by simp [hl]
      rw [← this, ← hr]; rfl
    unfold takesF
    rw [hp, hw]
    rw [hl] at hr' hj ⊢
    simp only [hr', hj]
    by_cases h36 : bt n 0 = 36
    · rw [if_pos h36, if_pos (by simp), decide_eq_true h36]
      by_cases h43 : x = [43]
      · rw [if_pos h43, decide_eq_true h43]; simp
      · rw [if_neg h43, decide_eq_false h43]
        by_cases h35 : x = [35]
        · rw [decide_eq_true h35]; simp [h35]
        · rw [decide_eq_false h35]; simp [h35]
    · rw [if_neg h36, decide_eq_false h36]; rfl

theorem takes_ref (f n : ByteArray) (hf : filterF f = true) (hn : nameF n = true) (w : World) : Calls Tryd.prog 32 #[.string f, .string n] w fun e w' => e = .returned (.bool (takesF f n)) ∧ Below w.heap.size w w' :=
  basculeref12_Takes.calls _ f n _ w (takes_f f n hf hn)

end Go.Proofs.YtaaaifeommdblaaDoor
