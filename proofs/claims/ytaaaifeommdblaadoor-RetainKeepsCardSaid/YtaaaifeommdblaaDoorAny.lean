/- strings.IndexRune, IndexAny, ContainsAny at any text, the set ASCII. -/
import Derived.Test.YtaaaifeommdblaaDoorGlob
import Derived.Deep.LoopGhost
import Derived.Deep.QuietTactic
import Derived.BigQuiet
import Derived.Lib.OthersKept
import Derived.Lib.IndexAny
import Derived.Shelf.Strings.IndexAnyAll
namespace Go.Proofs.YtaaaifeommdblaaDoor
open Go.RowKit

theorem get_eq (s : ByteArray) (j : Nat) (h : j < s.size) : s.data.toList[j]? = some (s.get! j) := by
  rw [Lib.data_getElem? s j h]
  congr 1
  simp [ByteArray.get!, ByteArray.getElem_eq_getElem_data]
  rw [getElem!_pos]

theorem decode_high (s : ByteArray) (i : Nat) (hi : i < s.size) (hb : 128 ≤ (s.get! i).toNat) :
    128 ≤ (Utf8.decode s i).1 ∧ (Utf8.decode s i).1 ≤ 1114111 ∧ 1 ≤ (Utf8.decode s i).2 ∧ i + (Utf8.decode s i).2 ≤ s.size ∧ ∀ j, j < (Utf8.decode s i).2 → 128 ≤ (s.get! (i + j)).toNat := by
  have one : 128 ≤ (65533 : Nat) ∧ 65533 ≤ 1114111 ∧ 1 ≤ 1 ∧ i + 1 ≤ s.size ∧ ∀ j, j < 1 → 128 ≤ (s.get! (i + j)).toNat := by
    refine ⟨by omega, by omega, by omega, by omega, fun j hj => ?_⟩
    obtain rfl : j = 0 := by omega
    exact hb
  have hl := (s.get! i).toNat_lt
  unfold Utf8.decode
  simp only [Nat.add_zero]
  rw [if_neg (by omega)]
  split
  · rename_i h
    simp at h
    split
    · rename_i h2
      refine ⟨h2, by omega, by omega, by omega, fun j hj => ?_⟩
      match j, hj with
      | 0, _ => exact hb
      | 1, _ => omega
    · exact one
  · split
    · rename_i h
      simp at h
      split
      · rename_i h2
        simp [Utf8.valid] at h2
        refine ⟨by show 128 ≤ _; omega, by show _ ≤ _; omega, by show 1 ≤ _; omega, by show _ ≤ _; omega, fun j hj => ?_⟩
        match j, hj with
        | 0, _ => exact hb
        | 1, _ => omega
        | 2, _ => omega
      · exact one
    · split
      · rename_i h
        simp at h
        split
        · rename_i h2
          simp [Utf8.valid] at h2
          refine ⟨by show 128 ≤ _; omega, by show _ ≤ _; omega, by show 1 ≤ _; omega, by show _ ≤ _; omega, fun j hj => ?_⟩
          match j, hj with
          | 0, _ => exact hb
          | 1, _ => omega
          | 2, _ => omega
          | 3, _ => omega
        · exact one
      · exact one

/-- All of a text's bytes are below 128. -/
def Ascii (s : ByteArray) : Prop := ∀ j, j < s.size → (s.get! j).toNat < 128

theorem Ascii.data {s : ByteArray} (h : Ascii s) (j : Nat) (b : UInt8) (hb : s.data.toList[j]? = some b) : b.toNat < 128 := by
  have hj : j < s.size := by
    have := (List.getElem?_eq_some_iff.1 hb).1
    rwa [← Lib.size_eq] at this
  rw [get_eq s j hj] at hb
  cases hb; exact h j hj

theorem encode_last (c : Nat) (h : 128 ≤ c) : 2 ≤ (Utf8.encode c).size ∧ (Utf8.encode c).size ≤ 4 ∧ 128 ≤ ((Utf8.encode c).get! ((Utf8.encode c).size - 1)).toNat := by
  unfold Utf8.encode
  simp only
  generalize hd : (if Utf8.valid (c : Int) = true then (c : Int).toNat else Utf8.runeError) = d
  have hd1 : 128 ≤ d := by
    rw [← hd]; split
    · simp; omega
    · simp [Utf8.runeError]
  clear hd
  rw [if_neg (by omega)]
  split
  · simp [ByteArray.size, ByteArray.get!]; omega
  · split
    · simp [ByteArray.size, ByteArray.get!]; omega
    · simp [ByteArray.size, ByteArray.get!]; omega

theorem indexByte_high (c : UInt8) : ∀ (l : List UInt8), 128 ≤ c.toNat → (∀ b ∈ l, b.toNat < 128) → Lib.indexByte l c = -1
  | [], _, _ => rfl
  | b :: l, hc, h => by
    have hb := h b (by simp)
    have ih := indexByte_high c l hc (fun y hy => h y (by simp [hy]))
    have hne : (b == c) = false := by rw [beq_eq_false_iff_ne]; intro e; subst e; omega
    rw [Lib.indexByte, hne, ih]; simp

theorem extract_ascii {s : ByteArray} (h : Ascii s) (a b : Nat) : ∀ x ∈ (s.extract a b).data.toList, x.toNat < 128 := by
  intro x hx
  have hx' : x ∈ s.data.toList := by
    simp only [ByteArray.data_extract, Array.toList_extract] at hx
    exact List.mem_of_mem_drop (List.mem_of_mem_take hx)
  obtain ⟨j, hj, rfl⟩ := List.getElem_of_mem hx'
  exact h.data j _ (List.getElem?_eq_getElem hj)

set_option maxRecDepth 1000000 in
set_option maxHeartbeats 1000000 in
theorem indexRune_err (chars : ByteArray) (hA : Ascii chars) (w : World) :
    Calls Tryd.prog 94 #[.string chars, .int .i32 65533] w (Gives (.int .i64 (-1)) w) := by
  have HA := Lib.hid hA; clear hA
  go_enter Tryd.func94, Tryd.ntmps94
  go_wp2
  go_loopg [5, 6] chars.size (fun g _ _ wx => ∃ i : Nat, i + g = chars.size ∧ wx = w.iter chars i)
  case atStart => exact ⟨0, by omega, rfl⟩
  case round =>
    obtain ⟨i, hig, rfl⟩ := hrel
    by_cases hi : i < chars.size
    · have hx : (chars[i]'hi).toNat < 128 := by
        have := HA.out i hi
        rwa [ByteArray.get!, getElem!_pos chars.data i (by exact hi)] at this
      have hnx := fun ty => run_next_ascii (P := Tryd.prog) w chars i ty hi hx
      generalize chars[i]'hi = x at hnx hx
      have hne : (((x.toNat : Nat) : Int) == 65533) = false := beq_eq_false_iff_ne.2 (by omega)
      obtain ⟨n, hn⟩ : ∃ n, n = x.toNat := ⟨_, rfl⟩
      rw [← hn] at hnx hne
      clear hn hx
      go_wp2
      go_roundg (gk - 1)
      case measure => omega
      case rel => exact ⟨i + 1, by omega, rfl⟩
    · have hnx := fun ty => run_next_end (P := Tryd.prog) w chars i ty hi
      go_wp2
      go_ret
      exact ⟨rfl, (Below.refl _ _).alloc (Nat.le_refl _) _⟩

set_option maxRecDepth 1000000 in
set_option maxHeartbeats 1000000 in
theorem indexRune_bad (chars : ByteArray) (c : Nat) (h1 : 128 ≤ c) (h2 : c ≤ 1114111) (h3 : c ≠ 65533) (hv : Lib.validRune c = false) (w : World) :
    Calls Tryd.prog 94 #[.string chars, .int .i32 c] w (Gives (.int .i64 (-1)) w) := by
  have b0 : decide ((c : Int) < 128) = false := decide_eq_false (by omega)
  have b1 : ((c : Int) == 65533) = false := beq_eq_false_iff_ne.2 (by omega)
  have hV := Tryd.utf8_ValidRune c w
  rw [hv] at hV
  have HV := Lib.hid hV; clear hV hv
  go_enter Tryd.func94, Tryd.ntmps94
  go_wp2_with (go_at_call 113; refine HV.out.mono ?_; rintro e w1 ⟨rfl, rfl⟩)
  go_ret
  exact ⟨rfl, Below.refl _ _⟩

set_option maxRecDepth 1000000 in
set_option maxHeartbeats 1000000 in
theorem indexRune_valid (chars : ByteArray) (hA : Ascii chars) (c : Nat) (h1 : 128 ≤ c) (h2 : c ≤ 1114111) (h3 : c ≠ 65533) (hv : Lib.validRune c = true) (w : World) :
    Calls Tryd.prog 94 #[.string chars, .int .i32 c] w (Gives (.int .i64 (-1)) w) := by
  have b0 : decide ((c : Int) < 128) = false := decide_eq_false (by omega)
  have b1 : ((c : Int) == 65533) = false := beq_eq_false_iff_ne.2 (by omega)
  have hV := Tryd.utf8_ValidRune c w
  rw [hv] at hV
  have HV := Lib.hid hV; clear hV hv
  have he := encode_last c h1
  have HA := Lib.hid hA; clear hA
  go_enter Tryd.func94, Tryd.ntmps94
  go_wp2_with (go_at_call 113; refine HV.out.mono ?_; rintro e w1 ⟨rfl, rfl⟩)
  go_step3
  go_wp2
  generalize Utf8.encode (c : Int) = x at *
  obtain ⟨l, hl⟩ : ∃ l, x.size = l + 1 := ⟨x.size - 1, by omega⟩
  have hl1 : 1 ≤ l ∧ l ≤ 3 ∧ 128 ≤ (x.get! l).toNat := by rw [hl] at he; exact ⟨by omega, by omega, he.2.2⟩
  rw [show ((x.size : Int) - 1) = (l : Int) by omega]
  have HL := Lib.hid hl; clear hl he
  refine wp_loop_rounds 1 ?_
  rw [rounds_succ]
  by_cases hlt : l < chars.size
  · have blt : decide (l < chars.size) = true := decide_eq_true hlt
    have hcl := HA.out l hlt
    have hlx : l < x.size := by have := HL.out; omega
    have gx : x.get! l = x[l] := by rw [ByteArray.get!, getElem!_pos x.data l (by exact hlx)]; rfl
    have gc : chars.get! l = chars[l] := by rw [ByteArray.get!, getElem!_pos chars.data l (by exact hlt)]; rfl
    rw [gx] at hl1
    rw [gc] at hcl
    clear gx gc
    obtain ⟨_, hl3, hxb⟩ := hl1
    have hne : (((chars[l]).toNat : Int) != ((x[l]).toNat : Int)) = true := by rw [bne_iff_ne]; omega
    have hIB : ∀ W, Calls Tryd.prog 112 #[.string (chars.extract (l + 1) chars.size), .int .u8 ((x[l]).toNat : Int)] W fun e w' => e = .returned (.int .i64 (-1)) ∧ w' = W := by
      intro W
      have := Tryd.strings_IndexByte (chars.extract (l + 1) chars.size) ((x[l]).toNat : Int) W
      rwa [indexByte_high _ _ (by simpa using hxb) (extract_ascii HA.out _ _)] at this
    have HIB := Lib.hid hIB; clear hIB
    have hle : decide ((l : Int) + 1 ≤ (chars.size : Int)) = true := decide_eq_true (by omega)
    go_wp2
    go_step3
    go_wp2
    go_quiet (fail)
    go_wp2
    go_quiet ((go_at_call 112; exact quiet_add_same (HIB.out _)))
    go_wp2
    rw [Exit.noGoto_ret]
    try rw [Exit.noGoto_ret]
    go_ret
    exact ⟨rfl, below_drewN _ _⟩
  · have blt : decide (l < chars.size) = false := decide_eq_false hlt
    go_wp2
    rw [Exit.noGoto_ret]
    go_ret
    exact ⟨rfl, Below.refl _ _⟩

theorem indexRune_high (chars : ByteArray) (hA : Ascii chars) (c : Nat) (h1 : 128 ≤ c) (h2 : c ≤ 1114111) (w : World) :
    Calls Tryd.prog 94 #[.string chars, .int .i32 c] w (Gives (.int .i64 (-1)) w) := by
  by_cases h3 : c = 65533
  · subst h3; exact indexRune_err chars hA w
  · by_cases hv : Lib.validRune c = true
    · exact indexRune_valid chars hA c h1 h2 h3 hv w
    · exact indexRune_bad chars c h1 h2 h3 (by simpa using hv) w

theorem noAny_step {s chars : ByteArray} (hA : Ascii chars) {i : Nat} (n : Nat) (h : Lib.NoAny s.data.toList chars.data.toList i) (hb : ∀ j, j < n → 128 ≤ (s.get! (i + j)).toNat) (hn : i + n ≤ s.size) :
    Lib.NoAny s.data.toList chars.data.toList (i + n) := by
  intro j b hj hjb
  by_cases hji : j < i
  · exact h j b hji hjb
  · have e : j = i + (j - i) := by omega
    have := hb (j - i) (by omega)
    rw [← e] at this
    rw [get_eq s j (by omega)] at hjb
    cases hjb
    rw [← Bool.not_eq_true, List.contains_iff_mem]
    intro hm
    obtain ⟨k, hk, hk2⟩ := List.getElem_of_mem hm
    have := hA.data k _ (List.getElem?_eq_getElem hk)
    rw [hk2] at this
    omega

set_option maxRecDepth 1000000 in
set_option maxHeartbeats 2000000 in
theorem indexAny_short (s chars : ByteArray) (hA : Ascii chars) (w : World) (h2 : 2 ≤ chars.size) (h8 : s.size ≤ 8) :
    Calls Tryd.prog 61 #[.string s, .string chars] w (Gives (.int .i64 (Lib.indexAny s.data.toList chars.data.toList)) w) := by
  obtain ⟨r, hr⟩ : ∃ r, r = Lib.indexAny s.data.toList chars.data.toList := ⟨_, rfl⟩
  rw [← hr]
  have HR := Lib.hid hr; clear hr
  have HA := Lib.hid hA; clear hA
  have hemp : chars.toList.isEmpty = false := by
    rw [Lib.toList_data]
    cases h : chars.data.toList with
    | nil => have := Lib.size_eq chars; rw [h, List.length_nil] at this; omega
    | cons _ _ => rfl
  have hn1 : ((chars.size : Int) == 1) = false := beq_eq_false_iff_ne.2 (by omega)
  have h8z : decide ((8 : Int) < (s.size : Int)) = false := decide_eq_false (by omega)
  go_enter Tryd.func61, Tryd.ntmps61
  go_wp2_with (go_at_call 95; refine (Tryd.strings_shouldUseASCIISet _ _).mono ?_; rintro e w' ⟨rfl, hw⟩; rw [hw, h8z]; clear hw)
  go_loopg [9, 10] s.size (fun g _ _ wx => ∃ i : Nat, i + g = s.size ∧ wx.heap[w.heap.size]? = some (.stringIter s i) ∧ Below w.heap.size w wx ∧ Lib.NoAny s.data.toList chars.data.toList i)
  case atStart => exact ⟨0, by omega, heap_new _ _, (Below.refl _ _).alloc (Nat.le_refl _) _, Lib.NoAny.zero _ _⟩
  case round =>
    obtain ⟨i, hig, hk, hnx, hno⟩ := hrel
    have HN := Lib.hid hno; clear hno
    have HK := Lib.hid hk
    by_cases hi : i < s.size
    · have hnx' := fun ty => Lib.run_next_any_at (P := Tryd.prog) wr w.heap.size s i ty hk hi
      by_cases hx : (s.get! i).toNat < 128
      · have hd : Utf8.decode s i = ((s.get! i).toNat, 1) := by unfold Utf8.decode; simp only [Nat.add_zero]; rw [if_pos hx]
        rw [hd] at hnx'
        have hgx := get_eq s i hi
        generalize s.get! i = x at *
        have hcon := Lib.contains_iff_indexByte chars.data.toList x
        have hIR := fun W => Tryd.strings_IndexRune_ascii chars (x.toNat : Int) W (by omega) (by omega)
        have hback : ((x.toNat : Int)).toNat.toUInt8 = x := by simp
        rw [hback] at hIR
        clear hback hd
        have HI := Lib.hid hIR; clear hIR
        have HX := Lib.hid hgx; clear hgx
        have hb2 : Below w.heap.size w (wr.iterAt w.heap.size s (i + 1)) := Lib.below_iterAt hnx (Nat.le_refl _) s (i + 1)
        have hk2 := Lib.iterAt_heap wr w.heap.size s i (i + 1) hk
        obtain ⟨w2, hw2⟩ : ∃ w2, wr.iterAt w.heap.size s (i + 1) = w2 := ⟨_, rfl⟩
        simp only at hnx'
        rw [hw2] at hb2 hk2 hnx'
        clear hw2 hk HK
        have HK := Lib.hid hk2; clear hk2
        cases hin : chars.data.toList.contains x
        · rw [hin] at hcon
          have hlt : ¬ ((0 : Int) ≤ Lib.indexByte chars.data.toList x) := of_decide_eq_false hcon.symm
          have HC := Lib.hid hin; clear hcon hin
          go_wp2_with (go_at_call 94; refine (HI.out _).mono ?_; rintro e w' ⟨rfl, hw⟩; rw [hw])
          go_roundg (gk - 1)
          case measure => omega
          case rel => exact ⟨i + 1, by omega, HK.out, hb2, HN.out.succ HX.out HC.out⟩
        · rw [hin] at hcon
          have hge : (0 : Int) ≤ Lib.indexByte chars.data.toList x := of_decide_eq_true hcon.symm
          have HC := Lib.hid hin; clear hcon hin
          go_wp2_with (go_at_call 94; refine (HI.out _).mono ?_; rintro e w' ⟨rfl, hw⟩; rw [hw])
          go_ret
          exact ⟨by rw [HR.out, Lib.indexAny_hit HN.out HX.out HC.out]; rfl, hb2⟩
      · have hd := decode_high s i hi (by omega)
        generalize Utf8.decode s i = d at *
        obtain ⟨c, n⟩ := d
        simp only at hd hnx'
        obtain ⟨hc1, hc2, hn1', hn2, hbytes⟩ := hd
        have HB := Lib.hid hbytes; clear hbytes
        have hIR := fun W => indexRune_high chars HA.out c hc1 hc2 W
        have HI := Lib.hid hIR; clear hIR
        have hb2 : Below w.heap.size w (wr.iterAt w.heap.size s (i + n)) := Lib.below_iterAt hnx (Nat.le_refl _) s (i + n)
        have hk2 := Lib.iterAt_heap wr w.heap.size s i (i + n) hk
        obtain ⟨w2, hw2⟩ : ∃ w2, wr.iterAt w.heap.size s (i + n) = w2 := ⟨_, rfl⟩
        rw [hw2] at hb2 hk2 hnx'
        clear hw2 hk HK
        have HK := Lib.hid hk2; clear hk2
        go_wp2_with (go_at_call 94; refine (HI.out _).mono ?_; rintro e w3 ⟨rfl, hb3⟩)
        have hlt : w.heap.size < w2.heap.size := by have := (Array.getElem?_eq_some_iff.1 HK.out).1; exact this
        go_roundg (gk - n)
        case measure => omega
        case rel => exact ⟨i + n, by omega, (hb3.block _ hlt).trans HK.out, hb2.trans (hb3.mono (Nat.le_of_lt hlt)), noAny_step HA.out n HN.out HB.out hn2⟩
    · have hnx' := fun ty => Lib.run_next_end_at (P := Tryd.prog) wr w.heap.size s i ty hk hi
      clear hk
      obtain rfl : i = s.size := by omega
      go_wp2
      go_ret
      exact ⟨by rw [HR.out, Lib.indexAny_none (by rw [← Lib.size_eq]; exact HN.out)]; rfl, hnx⟩

theorem zero_set : ∀ w : World, (zeroValue 141).run Tryd.prog w = .ok (.agg (Array.replicate 256 (.bool false))) w := fun _ => by kernel_rfl

/-- **strings.IndexAny at a set of two ASCII bytes or more.** -/
theorem indexAny_any (s chars : ByteArray) (hA : Ascii chars) (w : World) (h2 : 2 ≤ chars.size) (hs : s.size < 4294967281) (hcs : chars.size < 4294967281) :
    Calls Tryd.prog 61 #[.string s, .string chars] w (Gives (.int .i64 (Lib.indexAny s.data.toList chars.data.toList)) w) := by
  by_cases h8 : 8 < s.size
  · refine (Tryd.strings_IndexAny_long zero_set s chars w h2 h8 hs hcs (fun j b hb => hA.data j b hb)).mono ?_
    rintro e w' ⟨he, hw⟩
    exact ⟨he, by rw [hw]; exact ((Below.refl _ _).alloc (Nat.le_refl _) _).alloc (by simp) _⟩
  · exact indexAny_short s chars hA w h2 (by omega)

theorem containsAny_any (s chars : ByteArray) (hA : Ascii chars) (w : World) (h2 : 2 ≤ chars.size) (hs : s.size < 4294967281) (hcs : chars.size < 4294967281) :
    Calls Tryd.prog 49 #[.string s, .string chars] w (Gives (.bool (Lib.containsAny s.data.toList chars.data.toList)) w) := by
  have h := fun W => indexAny_any s chars hA W h2 hs hcs
  unfold Lib.containsAny
  generalize Lib.indexAny s.data.toList chars.data.toList = r at *
  have H := Lib.hid h; clear h
  by_cases hr : 0 ≤ r
  · have b : decide ((0 : Int) ≤ r) = true := decide_eq_true hr
    rw [b]
    go_enter Tryd.func49, Tryd.ntmps49
    go_wp2_with (go_at_call 61; refine (H.out _).mono ?_; rintro e w1 ⟨rfl, hb1⟩)
    go_ret
    exact ⟨rfl, hb1⟩
  · have b : decide ((0 : Int) ≤ r) = false := decide_eq_false hr
    rw [b]
    go_enter Tryd.func49, Tryd.ntmps49
    go_wp2_with (go_at_call 61; refine (H.out _).mono ?_; rintro e w1 ⟨rfl, hb1⟩)
    go_ret
    exact ⟨rfl, hb1⟩

end Go.Proofs.YtaaaifeommdblaaDoor
