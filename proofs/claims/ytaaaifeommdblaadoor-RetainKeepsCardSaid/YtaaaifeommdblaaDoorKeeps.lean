/- basculelaw14.RetainKeeps: the walk. -/
import Derived.Test.YtaaaifeommdblaaDoorKeptLaw
import Derived.Deep.RegionHeld3
namespace Go.Proofs.YtaaaifeommdblaaDoor
open Go.RowKit Go.Sort Go.Proofs.YtaaaifeommdblaaDoorW.PrintWords

theorem KeptAt.turn {w w' : World} {c g m : Nat} {l : KeptL} (h : KeptAt w g m l) (ht : Turn c c w w') (h1 : g ≠ c) (h2 : m ≠ c) : KeptAt w' g m l :=
  h.same (ht.block _ h.lt.1 h1 h1) (ht.block _ h.lt.2 h2 h2)

structure Both (w0 w : World) (g m c : Nat) (l : KeptL) (L : List MsgR) : Prop where
  k : KeptAt w g m l
  r : RefAt w c (c + 1) L
  i : Kin l L
  b : Below w0.heap.size w0 w

set_option maxHeartbeats 2000000 in
set_option maxRecDepth 100000 in
theorem keeps_walk (v : Value) (ms : List MsgR) (f : ByteArray) (w : World) (hG : Glob w) (h : RowRd w v ms.length (ms.flatMap msgE)) :
    Calls Tryd.prog 3 #[v, .string f] w fun e w' => e = .returned (.bool true) ∧ Below w.heap.size w w' := by
  have HF := Lib.hid (few14_walk v ms w h)
  obtain ⟨ad, cap, rfl, had⟩ := h
  have HAD := Lib.hid had; clear had
  by_cases hf : fewM ms = true
  case neg =>
    rw [show fewM ms = false by simpa using hf] at HF
    go_enter Tryd.func3, Tryd.ntmps3
    go_wp2_with (go_at_call 8; refine HF.out.mono ?_; rintro e w0 ⟨rfl, hw0⟩; have hw0 := hw0.symm; subst hw0; clear HF)
    go_ret
    exact ⟨rfl, Below.refl _ _⟩
  rw [hf] at HF
  have hlen : ms.length ≤ 100 := by unfold fewM at hf; simp at hf; exact hf.1
  by_cases hs : f.size ≤ 100
  case neg =>
    have E1 : decide ((100 : Int) < (f.size : Int)) = true := decide_eq_true (by omega)
    go_enter Tryd.func3, Tryd.ntmps3
    go_wp2_with (go_at_call 8; refine HF.out.mono ?_; rintro e w0 ⟨rfl, hw0⟩; have hw0 := hw0.symm; subst hw0; clear HF)
    go_ret
    exact ⟨rfl, Below.refl _ _⟩
  have E1 : decide ((100 : Int) < (f.size : Int)) = false := decide_eq_false (by omega)
  have HNEW := Lib.hid kept_new
  go_enter Tryd.func3, Tryd.ntmps3
  go_wp2_with (first
    | (go_at_call 8; refine HF.out.mono ?_; rintro e w0 ⟨rfl, hw0⟩; have hw0 := hw0.symm; subst hw0; clear HF)
    | (go_at_call 9; refine (HNEW.out _).mono ?_; rintro e w2 ⟨rfl, hx2, hb2⟩; clear HNEW))
  have hl2 := hx2.lt
  have hbA : Below w2.heap.size w2 (w2.alloc (.cells #[.slice none 0 0] 28)) := (Below.refl _ _).alloc (Nat.le_refl _) _
  obtain ⟨m, hmd⟩ : ∃ m, m = w.heap.size := ⟨_, rfl⟩
  obtain ⟨g, hgd⟩ : ∃ g, g = w.heap.size + 1 := ⟨_, rfl⟩
  have hB0 : Both w (w2.alloc (.cells #[.slice none 0 0] 28)) g m w2.heap.size [] [] := by
    rw [hmd, hgd]
    exact ⟨hx2.below hbA, ⟨_, cells_new w2 [.slice none 0 0] _ 0 _ rfl, by rw [World.frozen?_alloc_at _ _ _ _ rfl], World.ownsRow_nil _ _ _ _⟩, Kin.nil, hb2.trans (hbA.mono hb2.size)⟩
  have hs2 := hb2.size
  clear hx2 hbA hb2
  rw [← hgd]
  generalize hcd : w2.heap.size = c at *
  have hgB : w.heap.size ≤ g := by omega
  have hmB : w.heap.size ≤ m := by omega
  have hcB : w.heap.size ≤ c := by omega
  have n1 : c ≠ g := by omega
  have n2 : c ≠ m := by omega
  have n3 : g < c + 1 := by omega
  have n4 : m < c + 1 := by omega
  clear hcd hgd hmd hl2 hs2
  go_loopg [7] ms.length (fun gk i wx => ∃ (k : Nat) (l : KeptL) (L : List MsgR), k + gk = ms.length ∧ i = .int .i64 k ∧ Both w wx g m c l L ∧ l.length ≤ k)
  case atStart => exact ⟨0, [], [], by omega, rfl, hB0, by simp⟩
  case round =>
    obtain ⟨k, l, L, hkg, rfl, hB, hll⟩ := hrel
    have hLl := hB.i.len
    by_cases hk : k < ms.length
    · have hk' : decide (k < ms.length) = true := decide_eq_true hk
      obtain ⟨g1, o1, rfl, hg1, hc1⟩ := HAD.out (by omega)
      obtain ⟨x, hx⟩ : ∃ x, ms[k] = x := ⟨_, rfl⟩
      have hrow := fun wx (hb : Below w.heap.size w wx) => rowM ms wx (fun j u hj => ((bcell hb).1 g1 _ hg1).trans (hc1 j u hj)) k hk hx
      have ROW := Lib.hid hrow
      clear hrow hc1 hx
      obtain ⟨r0, r1, r2, r3⟩ := ROW.out wr hB.b
      obtain ⟨hkin, hans, hlen'⟩ := hB.i.put x
      have HP := Lib.hid (kept_put g m l x wr (hG.below' hB.b) hB.k)
      have HR := Lib.hid (fun w4 h1 h2 => ref_put c (c + 1) L x w4 h1 (Nat.lt_succ_self c) h2 (by omega))
      obtain ⟨rm, hrm⟩ : ∃ rm, putM l x = rm := ⟨_, rfl⟩
      obtain ⟨rr, hrr⟩ : ∃ rr, putR L x = rr := ⟨_, rfl⟩
      rw [hrm] at hkin hans hlen' HP
      rw [hrr] at hkin hans HR
      clear hrm hrr
      obtain ⟨⟨ab, ae⟩, l'⟩ := rm
      obtain ⟨⟨bb, be⟩, L'⟩ := rr
      simp only at hkin hans hlen'
      obtain ⟨rfl, rfl⟩ := Prod.mk.inj hans
      have hfd := hkin.find x.topic
      have hLl' := hkin.len
      obtain ⟨x0, x1, x2, x3⟩ := x
      simp only [msgV] at r0 r1 r2 r3 HP HR ROW hfd
      have hRb := hB.r; have hKb := hB.k; have hBb := hB.b
      have hcl := hRb.lt
      have hkI : (k : Int) < 9000 := by omega
      clear hB hans
      obtain ⟨z, hz⟩ : ∃ z, z = (at_ l' x0).getD noMsg := ⟨_, rfl⟩
      obtain ⟨zb, hzb⟩ : ∃ zb, zb = (at_ l' x0).isSome := ⟨_, rfl⟩
      have HAT := Lib.hid (fun W h => kept_at g m l' x0 W h)
      have HBT := Lib.hid (fun W h => ref_at c (c + 1) L' x0 W h (by omega))
      rw [hfd] at HBT
      rw [← hz, ← hzb] at HAT HBT
      have EQ := fun W => run_neq_Msg W z z
      simp only [decide_true, Bool.not_true] at EQ
      clear hz hzb hfd
      obtain ⟨z0, z1, z2, z3⟩ := z
      simp only [msgV] at EQ HAT HBT
      have HCT := Lib.hid (fun W h => kept_count g m l' W h)
      rw [hLl'] at HCT
      go_wp2_with (go_at_call 10; refine HP.out.mono ?_; rintro e w4 ⟨rfl, hk4, ht4⟩; clear HP; have hb4 := Turn.base hBb ht4 hgB hmB hBb.size; have hr4 := hRb.turn ht4 n1 n2 n3 n4; have hs4 := ht4.size; obtain ⟨s0, s1, s2, s3⟩ := ROW.out w4 hb4)
      go_wp2_with (go_at_call 11; refine (HR.out w4 hr4 (by omega)).mono ?_; rintro e w5 ⟨rfl, hr5, ht5⟩; clear HR; have hb5 := Turn.base hb4 ht5 hcB hcB hb4.size; have hk5 := hk4.turn ht5 (Ne.symm n1) (Ne.symm n2); obtain ⟨v0, v1, v2, v3⟩ := ROW.out w5 hb5)
      go_wp2_with (go_at_call 12; refine (HAT.out w5 hk5).mono ?_; rintro e w6 ⟨rfl, hb6'⟩; clear HAT; have hb6 := hb5.trans (hb6'.mono hb5.size); have hb7' : Below w6.heap.size w6 (w6.alloc (.cells #[.string z0, .string z1, .int .i64 z2, .bool z3] 33)) := (Below.refl _ _).alloc (Nat.le_refl _) _; have hb7 := hb6.trans (hb7'.mono hb6.size); have hr7 := (hr5.below hb6').below hb7'; obtain ⟨y0, _, _, _⟩ := ROW.out _ hb7)
      have c0 := cells_new w6 [.string z0, .string z1, .int .i64 z2, .bool z3] 33 0 _ rfl
      have c1 := cells_new w6 [.string z0, .string z1, .int .i64 z2, .bool z3] 33 1 _ rfl
      have c2 := cells_new w6 [.string z0, .string z1, .int .i64 z2, .bool z3] 33 2 _ rfl
      have c3 := cells_new w6 [.string z0, .string z1, .int .i64 z2, .bool z3] 33 3 _ rfl
      have hz7 : w6.heap.size < (w6.alloc (.cells #[.string z0, .string z1, .int .i64 z2, .bool z3] 33)).heap.size := by simp
      have hk7 := (hk5.below hb6').below hb7'
      go_wp2_with (go_at_call 13; refine (HBT.out _ hr7).mono ?_; rintro e w8 ⟨rfl, hb8'⟩; clear HBT; have hb8 := hb7.trans (hb8'.mono hb7.size); have hb9' : Below w8.heap.size w8 (w8.alloc (.cells #[.string z0, .string z1, .int .i64 z2, .bool z3] 33)) := (Below.refl _ _).alloc (Nat.le_refl _) _; have hb9 := hb8.trans (hb9'.mono hb8.size); have hr9 := (hr7.below hb8').below hb9'; have hk9 := (hk7.below hb8').below hb9')
      have hb79 := hb8'.trans (hb9'.mono hb8'.size)
      have t0 := fun n => ((bcell (Go.below_drewN hb79 n)).1 _ 0 hz7).trans c0
      have t1 := fun n => ((bcell (Go.below_drewN hb79 n)).1 _ 1 hz7).trans c1
      have t2 := fun n => ((bcell (Go.below_drewN hb79 n)).1 _ 2 hz7).trans c2
      have t3 := fun n => ((bcell (Go.below_drewN hb79 n)).1 _ 3 hz7).trans c3
      have p0 : ∀ n, ((w8.alloc (.cells #[.string z0, .string z1, .int .i64 z2, .bool z3] 33)).drewN n).cell? ⟨w8.heap.size, 0, none⟩ = some (.string z0) := fun n => cells_new w8 [.string z0, .string z1, .int .i64 z2, .bool z3] 33 0 _ rfl
      have p1 : ∀ n, ((w8.alloc (.cells #[.string z0, .string z1, .int .i64 z2, .bool z3] 33)).drewN n).cell? ⟨w8.heap.size, 1, none⟩ = some (.string z1) := fun n => cells_new w8 [.string z0, .string z1, .int .i64 z2, .bool z3] 33 1 _ rfl
      have p2 : ∀ n, ((w8.alloc (.cells #[.string z0, .string z1, .int .i64 z2, .bool z3] 33)).drewN n).cell? ⟨w8.heap.size, 2, none⟩ = some (.int .i64 z2) := fun n => cells_new w8 [.string z0, .string z1, .int .i64 z2, .bool z3] 33 2 _ rfl
      have p3 : ∀ n, ((w8.alloc (.cells #[.string z0, .string z1, .int .i64 z2, .bool z3] 33)).drewN n).cell? ⟨w8.heap.size, 3, none⟩ = some (.bool z3) := fun n => cells_new w8 [.string z0, .string z1, .int .i64 z2, .bool z3] 33 3 _ rfl
      have HK := Lib.hid (fun n => HCT.out _ (hk9.same (w' := (w8.alloc (.cells #[.string z0, .string z1, .int .i64 z2, .bool z3] 33)).drewN n) rfl rfl))
      have hr9' := hr9
      obtain ⟨v9, q0, _, hown9⟩ := hr9
      obtain ⟨ad9, cap9, rfl, _⟩ := owns_form hown9
      have qq : ∀ n, ((w8.alloc (.cells #[.string z0, .string z1, .int .i64 z2, .bool z3] 33)).drewN n).cell? ⟨c, 0, none⟩ = some (.slice ad9 L'.length cap9) := fun n => q0
      have hLb : L'.length ≤ 65536 := by omega
      have hb9d := fun n => Go.below_drewN hb9 n
      clear c0 c1 c2 c3 r0 r1 r2 r3 s0 s1 s2 s3 v0 v1 v2 v3 y0 q0 hown9 hz7 hb7' hb8' hb9' hb79
      generalize w8.alloc (.cells #[.string z0, .string z1, .int .i64 z2, .bool z3] 33) = W9 at *
      go_quiet ((go_at_call 14; exact Calls.quiet_of_same (HK.out _)))
      go_wp2
      go_roundg (ms.length - (k + 1))
      case measure => omega
      case rel => exact ⟨k + 1, l', L', by omega, by simp, ⟨hk9.same rfl rfl, hr9'.below (Go.below_drewN (Below.refl _ _) _), hkin, hb9d _⟩, by omega⟩
    · have hk' : decide (k < ms.length) = false := decide_eq_false hk
      have hRb := hB.r; have hKb := hB.k; have hBb := hB.b; have hkin := hB.i
      have hst := hkin.st
      have hrd := hRb
      have hcl := hRb.lt
      obtain ⟨v9, q0, _, hown9⟩ := hrd
      have hrL := RowRd.of_own hown9 (by rw [flat_len (enc := msgE) (k := 4) (fun _ => rfl)]) (by decide)
      obtain ⟨ad9, cap9, rfl, _⟩ := owns_form hown9
      have hK1 := hKb.same (w' := wr.drew) rfl rfl
      have HALL := Lib.hid (all_walk g m l wr.drew hK1 hkin.inv.tp (by omega))
      have HU := Lib.hid (fun ws (h' : SortedOf l ws) => sortedOf_unique hst h')
      have hrLd : RowRd wr.drew (.slice ad9 L.length cap9) L.length (L.flatMap msgE) := hrL.below (Below.refl _ _).drew
      have q1 : wr.drew.cell? ⟨c, 0, none⟩ = some (.slice ad9 L.length cap9) := q0
      have hcd : c < wr.drew.heap.size := hcl
      have hLb : L.length ≤ 65536 := by omega
      have hLb' : L.length < 4611686018427387904 := by omega
      have hB1 : Below w.heap.size w wr.drew := hBb.drew
      clear hk hB hst hown9 hrL q0
      go_wp2
      go_region_held3 (fun w' => w'.cell? ⟨c, 0, none⟩ = some (.slice ad9 L.length cap9))
        (first
          | exact q1
          | exact q4
          | exact q6)
        (first
          | (go_at_call 16; refine HALL.out.mono ?_; rintro e w4 ⟨⟨v4, ws, rfl, hS, hown4⟩, hb4⟩; obtain rfl := HU.out _ hS; have q4 := ((bcell hb4).1 c 0 hcd).trans q1; have hr4 := RowRd.of_own hown4 (by rw [flat_len (enc := msgE) (k := 4) (fun _ => rfl)]) (by decide); have HRW := Lib.hid (rows_walk _ _ L L w4 hr4 (hrLd.below hb4) hLb'); rw [show decide (L = L) = true from decide_eq_true rfl] at HRW; clear HALL)
          | (go_at_call 15; refine HRW.out.mono ?_; rintro e w6 ⟨rfl, hb6⟩; have q6 := ((bcell hb6).1 c 0 (Nat.lt_of_lt_of_le hcd hb4.size)).trans q4; clear HRW))
      have hB4 := hB1.trans (hb4.mono hB1.size)
      have hB6 := hB4.trans (hb6.mono hB4.size)
      have hk6 := (hK1.below hb4).below hb6
      have hr6 := ((hRb.below (Below.refl _ _).drew).below hb4).below hb6
      have HFR := Lib.hid (filter_ref f)
      clear q1 q4 q6 hr4 hown4 hS HU hrLd
      by_cases hff : filterF f = true
      · have HKF := Lib.hid (kfind_walk g m l f w6 (hG.below' hB6) hk6 hff hkin.inv.tp (by omega))
        have HU := Lib.hid (fun ws (h' : SortedOf (l.filter (fun p => (matchF f p.1).1)) ws) => sortedOf_unique (hkin.takes hff) h')
        have hnm : ∀ y ∈ L, nameF y.topic = true := fun y hy => by
          obtain ⟨p, hp, rfl⟩ := List.mem_map.1 (hkin.st.1.mem_iff.1 hy)
          rw [hkin.inv.tp p hp]; exact hkin.inv.nm p hp
        have HRF := Lib.hid (fun W h => ref_find c (c + 1) L f W h hLb hff hnm)
        have hfl : (L.filter (fun y => takesF f y.topic)).length < 4611686018427387904 := by
          have := List.length_filter_le (fun y : MsgR => takesF f y.topic) L
          omega
        generalize L.filter (fun y => takesF f y.topic) = L2 at *
        rw [hff] at HFR
        have HL2 := Lib.hid hfl
        clear hff hnm hfl
        go_wp2_with (first
          | (go_at_call 17; refine HKF.out.mono ?_; rintro e w7 ⟨⟨v7, ws, rfl, hS, hown7⟩, hb7'⟩; obtain rfl := HU.out _ hS; have hb7 := hB6.trans (hb7'.mono hB6.size); have hr7 := hr6.below hb7'; have hf7 := RowRd.of_own hown7 (by rw [flat_len (enc := msgE) (k := 4) (fun _ => rfl)]) (by decide); clear HKF)
          | (go_at_call 18; refine (HFR.out _).mono ?_; rintro e w8 ⟨rfl, hb8'⟩; have hb8 := hb7.trans (hb8'.mono hb7.size); have hr8 := hr7.below hb8'; have hf8 := hf7.below hb8'; have HAW := Lib.hid (awake14 w8 (hG.below' hb8)); clear HFR)
          | (go_at_call 19; refine HAW.out.mono ?_; rintro e w9 ⟨rfl, hb9'⟩; have hb9 := hb8.trans (hb9'.mono hb8.size); have hr9 := hr8.below hb9'; have hf9 := hf8.below hb9'; clear HAW)
          | (go_at_call 20; refine (HRF.out w9 hr9).mono ?_; rintro e w10 ⟨⟨v10, rfl, hown10⟩, hb10'⟩; have hb10 := hb9.trans (hb10'.mono hb9.size); have hr10 := RowRd.of_own hown10 (by rw [flat_len (enc := msgE) (k := 4) (fun _ => rfl)]) (by decide); have HRW := Lib.hid (rows_walk _ _ L2 L2 w10 (hf9.below hb10') hr10 HL2.out); rw [show decide (L2 = L2) = true from decide_eq_true rfl] at HRW; clear HRF)
          | (go_at_call 15; refine HRW.out.mono ?_; rintro e w11 ⟨rfl, hb11'⟩; clear HRW))
        go_ret
        exact ⟨rfl, hb10.trans (hb11'.mono hb10.size)⟩
      · have hff' : filterF f = false := by simpa using hff
        have HKF := Lib.hid (kfind_bad g m l f w6 (hG.below' hB6) hk6 hff')
        rw [hff'] at HFR
        clear hff hff'
        go_wp2_with (first
          | (go_at_call 17; refine HKF.out.mono ?_; rintro e w7 ⟨rfl, hb7'⟩; have hb7 := hB6.trans (hb7'.mono hB6.size); clear HKF)
          | (go_at_call 18; refine (HFR.out _).mono ?_; rintro e w8 ⟨rfl, hb8'⟩; have hb8 := hb7.trans (hb8'.mono hb7.size); have HAW := Lib.hid (awake14 w8 (hG.below' hb8)); clear HFR)
          | (go_at_call 19; refine HAW.out.mono ?_; rintro e w9 ⟨rfl, hb9'⟩; clear HAW))
        go_ret
        exact ⟨rfl, hb8.trans (hb9'.mono hb8.size)⟩

end Go.Proofs.YtaaaifeommdblaaDoor
