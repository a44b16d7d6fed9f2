/- basculelaw13.SubsOrder: the walk. -/
import Derived.Test.YtaaaifeommdblaaDoorOrderP
import Derived.Test.YtaaaifeommdblaaDoorRefZ
import Derived.BigQuiet
namespace Go.Proofs.YtaaaifeommdblaaDoor
open Go.RowKit Go.Sort

/-- Two indexes, and what the script wrote. -/
structure Two (w0 w : World) (g m g' m' : Nat) (s t : SubL × Int) : Prop where
  x : IdxAt w g m s.1 s.2
  y : IdxAt w g' m' t.1 t.2
  b : Below w0.heap.size w0 w
theorem Two.below {w0 w w' : World} {g m g' m' : Nat} {s t : SubL × Int} (h : Two w0 w g m g' m' s t) (hb : Below w.heap.size w w') : Two w0 w' g m g' m' s t :=
  ⟨h.x.below hb, h.y.below hb, h.b.trans (hb.mono h.b.size)⟩

theorem rowE {g1 o1 : Nat} (ops : List OpR) (wr : World) (hc : ∀ j u, (ops.flatMap opE)[j]? = some u → wr.cell? ⟨g1, o1 + j, none⟩ = some u) (k : Nat) (hk : k < ops.length) :
    wr.cell? ⟨g1, o1 + k * 4, none⟩ = some (.int .i64 ops[k].call) ∧ wr.cell? ⟨g1, o1 + k * 4 + 1, none⟩ = some (.string ops[k].client) ∧ wr.cell? ⟨g1, o1 + k * 4 + 2, none⟩ = some (.string ops[k].text) ∧ wr.cell? ⟨g1, o1 + k * 4 + 3, none⟩ = some (.int .i64 ops[k].qos) := by
  obtain ⟨f0, f1, f2, f3⟩ := flat4 ops k hk rfl
  have c0 := hc _ _ f0; have c1 := hc _ _ f1; have c2 := hc _ _ f2; have c3 := hc _ _ f3
  simp only [← Nat.add_assoc] at c0 c1 c2 c3
  exact ⟨c0, c1, c2, c3⟩

set_option maxHeartbeats 2000000 in
set_option maxRecDepth 100000 in
theorem order_walk (v : Value) (ops : List OpR) (by_ : Int) (name : ByteArray) (w : World) (hG : Glob w) (h : RowRd w v ops.length (ops.flatMap opE)) :
    Calls Tryd.prog 5 #[v, .int .i64 by_, .string name] w fun e w' => e = .returned (.bool true) ∧ Below w.heap.size w w' := by
  have HF := Lib.hid (few_walk v ops w h)
  have HN := Lib.hid (name_ref name)
  obtain ⟨ad, cap, rfl, had⟩ := h
  have HAD := Lib.hid had; clear had
  by_cases hf : fewF ops = true
  case neg =>
    rw [show fewF ops = false by simpa using hf] at HF
    go_enter Tryd.func5, Tryd.ntmps5
    go_wp2_with (go_at_call 21; refine HF.out.mono ?_; rintro e w0 ⟨rfl, hw0⟩; have hw0 := hw0.symm; subst hw0; clear HF)
    go_ret
    exact ⟨rfl, Below.refl _ _⟩
  rw [hf] at HF
  have hlen : ops.length ≤ 100 := by unfold fewF at hf; simp at hf; exact hf.1
  by_cases hb0 : by_ < 0
  · have E1 : decide (by_ < 0) = true := decide_eq_true hb0
    go_enter Tryd.func5, Tryd.ntmps5
    go_wp2_with (go_at_call 21; refine HF.out.mono ?_; rintro e w0 ⟨rfl, hw0⟩; have hw0 := hw0.symm; subst hw0; clear HF)
    go_ret
    exact ⟨rfl, Below.refl _ _⟩
  obtain ⟨b, rfl⟩ : ∃ b : Nat, by_ = (b : Int) := ⟨by_.toNat, by omega⟩
  have E1 : decide ((b : Int) < 0) = false := decide_eq_false hb0
  by_cases hb : b < ops.length
  case neg =>
    have E2 : decide (ops.length ≤ b) = true := decide_eq_true (by omega)
    go_enter Tryd.func5, Tryd.ntmps5
    go_wp2_with (go_at_call 21; refine HF.out.mono ?_; rintro e w0 ⟨rfl, hw0⟩; have hw0 := hw0.symm; subst hw0; clear HF)
    go_ret
    exact ⟨rfl, Below.refl _ _⟩
  have E2 : decide (ops.length ≤ b) = false := decide_eq_false (by omega)
  by_cases hn : nameF name = true
  case neg =>
    rw [show nameF name = false by simpa using hn] at HN
    go_enter Tryd.func5, Tryd.ntmps5
    go_wp2_with (first
      | (go_at_call 21; refine HF.out.mono ?_; rintro e w0 ⟨rfl, hw0⟩; have hw0 := hw0.symm; subst hw0; clear HF)
      | (go_at_call 28; refine (HN.out _).mono ?_; rintro e w1 ⟨rfl, hb1⟩; clear HN))
    go_ret
    exact ⟨rfl, hb1⟩
  rw [hn] at HN
  by_cases hs : name.size ≤ 100
  case neg =>
    have E3 : decide ((100 : Int) < (name.size : Int)) = true := decide_eq_true (by omega)
    go_enter Tryd.func5, Tryd.ntmps5
    go_wp2_with (first
      | (go_at_call 21; refine HF.out.mono ?_; rintro e w0 ⟨rfl, hw0⟩; have hw0 := hw0.symm; subst hw0; clear HF)
      | (go_at_call 28; refine (HN.out _).mono ?_; rintro e w1 ⟨rfl, hb1⟩; clear HN))
    go_ret
    exact ⟨rfl, hb1⟩
  have E3 : decide ((100 : Int) < (name.size : Int)) = false := decide_eq_false (by omega)
  have HNEW := Lib.hid new_walk
  have hbI : (b : Int) < 100 := by omega
  go_enter Tryd.func5, Tryd.ntmps5
  go_wp2_with (first
    | (go_at_call 21; refine HF.out.mono ?_; rintro e w0 ⟨rfl, hw0⟩; have hw0 := hw0.symm; subst hw0; clear HF)
    | (go_at_call 28; refine (HN.out _).mono ?_; rintro e w1 ⟨rfl, hb1⟩; clear HN; have tok := hb1)
    | (go_at_call 22; have _t := tok; refine (HNEW.out _).mono ?_; rintro e w2 ⟨rfl, hx2, hb2'⟩; clear tok)
    | (go_at_call 22; refine (HNEW.out _).mono ?_; rintro e w3 ⟨rfl, hy3, hb3'⟩))
  have hb2 := hb1.trans (hb2'.mono hb1.size)
  have hs1 := hb1.size
  have hT0 : Two w w3 (w1.heap.size + 1) w1.heap.size (w2.heap.size + 1) w2.heap.size ([], 0) ([], 0) := ⟨hx2.below hb3', hy3, hb2.trans (hb3'.mono hb2.size)⟩
  have hl2 := hx2.lt
  clear hx2 hy3 hb2' hb3' hb2 hb1 HNEW
  generalize hgd : w1.heap.size + 1 = g at *
  generalize hmd : w1.heap.size = m at *
  generalize hgd' : w2.heap.size + 1 = g' at *
  generalize hmd' : w2.heap.size = m' at *
  have hgB : w.heap.size ≤ g := by omega
  have hmB : w.heap.size ≤ m := by omega
  have hgB' : w.heap.size ≤ g' := by omega
  have hmB' : w.heap.size ≤ m' := by omega
  have n1 : g' ≠ g := by omega
  have n2 : g' ≠ m := by omega
  have n3 : m' ≠ g := by omega
  have n4 : m' ≠ m := by omega
  clear hgd hmd hgd' hmd' hl2 hs1
  go_loopg [9] ops.length (fun gk i wx => ∃ (k : Nat), k + gk = ops.length ∧ i = .int .i64 k ∧ ((ops.take k).map keyO).Nodup ∧ Two w wx g m g' m' (adds (ops.take k)) (adds ((rot ops b).take k)))
  case atStart => exact ⟨0, by omega, rfl, by simp, hT0⟩
  case round =>
    obtain ⟨k, hkg, rfl, hnd, hT⟩ := hrel
    by_cases hk : k < ops.length
    · have hk' : decide (k < ops.length) = true := decide_eq_true hk
      obtain ⟨g1, o1, rfl, hg1, hc1⟩ := HAD.out (by omega)
      have hcc : ∀ wr, Below w.heap.size w wr → ∀ j u, (ops.flatMap opE)[j]? = some u → wr.cell? ⟨g1, o1 + j, none⟩ = some u := fun wr hb j u hj => by rw [hb.cell (p := ⟨g1, o1 + j, none⟩) hg1]; exact hc1 j u hj
      obtain ⟨c0, c1, c2, c3⟩ := rowE ops wr (hcc wr hT.b) k hk
      have HCC := Lib.hid hcc; clear hcc hc1
      obtain ⟨x, hx⟩ : ∃ x, ops[k] = x := ⟨_, rfl⟩
      rw [hx] at c0 c1 c2 c3
      have HX := Lib.hid hx; clear hx
      obtain ⟨oc, ol, ot, oq⟩ := x
      simp only at c0 c1 c2 c3
      have hb7 : Below wr.heap.size wr (wr.alloc (.cells #[.int .i64 oc, .string ol, .string ot, .int .i64 oq] 50)) := (Below.refl _ _).alloc (Nat.le_refl _) _
      have hT7 := hT.below hb7
      have d0 := cells_new wr [.int .i64 oc, .string ol, .string ot, .int .i64 oq] 50 0 _ rfl
      have d1 := cells_new wr [.int .i64 oc, .string ol, .string ot, .int .i64 oq] 50 1 _ rfl
      have d2 := cells_new wr [.int .i64 oc, .string ol, .string ot, .int .i64 oq] 50 2 _ rfl
      have d3 := cells_new wr [.int .i64 oc, .string ol, .string ot, .int .i64 oq] 50 3 _ rfl
      have hkb : (k : Int) < 9000 := by omega
      have hsz := hT.b.size
      go_wp2
      generalize hW7 : wr.alloc (.cells #[.int .i64 oc, .string ol, .string ot, .int .i64 oq] 50) = W7 at *
      go_loopg [11] k (fun gk i wx => ∃ (q : Nat), q + gk = k ∧ i = .int .i64 q ∧ (∀ j (hj : j < ops.length), j < q → keyO ops[j] ≠ (ol, ot)) ∧ ∃ nd, wx = W7.drewN nd)
      case atStart => exact ⟨0, by omega, rfl, by intros; omega, 0, rfl⟩
      case round =>
        obtain ⟨q, hqg, rfl, hne, nd, rfl⟩ := hrel
        by_cases hq : q < k
        · have hq' : decide (q < k) = true := decide_eq_true hq
          have hqo : q < ops.length := by omega
          obtain ⟨z0, z1, z2, z3⟩ := rowE ops W7 (HCC.out W7 hT7.b) q hqo
          obtain ⟨y, hy⟩ : ∃ y, ops[q] = y := ⟨_, rfl⟩
          rw [hy] at z1 z2
          have HY := Lib.hid hy; clear hy z0 z3
          obtain ⟨yc, yl, yt, yq⟩ := y
          simp only at z1 z2
          have e1 : ∀ n, (W7.drewN n).cell? ⟨g1, o1 + q * 4 + 1, none⟩ = some (.string yl) := fun _ => z1
          have e2 : ∀ n, (W7.drewN n).cell? ⟨g1, o1 + q * 4 + 2, none⟩ = some (.string yt) := fun _ => z2
          have e3 : ∀ n, (W7.drewN n).cell? ⟨wr.heap.size, 1, none⟩ = some (.string ol) := fun _ => d1
          have e4 : ∀ n, (W7.drewN n).cell? ⟨wr.heap.size, 2, none⟩ = some (.string ot) := fun _ => d2
          have hstep : ∀ (b1 b2 : Bool), (yl.toList == ol.toList) = b1 → (yt.toList == ot.toList) = b2 → (b1 && b2) = false → ∀ j (hj : j < ops.length), j < q + 1 → keyO ops[j] ≠ (ol, ot) := by
            intro b1 b2 h1 h2 h3 j hj hjq
            rcases Nat.lt_succ_iff_lt_or_eq.1 hjq with h | rfl
            · exact hne j hj h
            · rw [HY.out]
              intro e
              have e' := Prod.mk.inj e
              rw [str_eq_iff] at h1 h2
              rw [← h1, ← h2, decide_eq_true e'.1, decide_eq_true e'.2] at h3
              cases h3
          have HST := Lib.hid hstep
          obtain ⟨b1, T1⟩ : ∃ b1, (yl.toList == ol.toList) = b1 := ⟨_, rfl⟩
          obtain ⟨b2, T2⟩ : ∃ b2, (yt.toList == ot.toList) = b2 := ⟨_, rfl⟩
          clear hstep hne z1 z2
          have hkq : (q : Int) < 9000 := by omega
          cases b1
          · have HST' := Lib.hid (HST.out _ _ T1 T2 rfl)
            clear HST T2
            go_wp2
            go_quiet (fail)
            go_wp2
            go_roundg (gk - 1)
            case measure => omega
            case rel => exact ⟨q + 1, by omega, by simp, HST'.out, _, rfl⟩
          · cases b2
            · have HST' := Lib.hid (HST.out _ _ T1 T2 rfl)
              clear HST
              go_wp2
              go_quiet (fail)
              go_wp2
              go_roundg (gk - 1)
              case measure => omega
              case rel => exact ⟨q + 1, by omega, by simp, HST'.out, _, rfl⟩
            · clear HST
              go_wp2
              go_quiet (fail)
              go_wp2
              go_ret
              exact ⟨rfl, Go.below_drewN (Go.below_drewN hT7.b _) _⟩
        · have hq' : decide (q < k) = false := decide_eq_false hq
          obtain rfl : q = k := by omega
          have hT8 : Two w (W7.drewN nd) g m g' m' (adds (ops.take q)) (adds ((rot ops b).take q)) := hT7.below (Go.below_drewN (Below.refl _ _) nd)
          have hnd' : ((ops.take (q + 1)).map keyO).Nodup := by
            rw [List.take_succ_eq_append_getElem hk, List.map_append, List.nodup_append]
            refine ⟨hnd, by simp, fun a ha c hc => ?_⟩
            simp only [List.map_cons, List.map_nil, List.mem_singleton] at hc
            subst hc
            rintro rfl
            obtain ⟨o, ho, hoe⟩ := List.mem_map.1 ha
            obtain ⟨j, hj, hjo⟩ := List.getElem_of_mem ho
            rw [List.length_take] at hj
            rw [List.getElem_take] at hjo
            have := hne j (by omega) (by omega)
            rw [hjo, hoe, HX.out] at this
            exact this rfl
          have HND := Lib.hid hnd'
          have D1 : ∀ n, (W7.drewN n).cell? ⟨wr.heap.size, 1, none⟩ = some (.string ol) := fun _ => d1
          have D2 : ∀ n, (W7.drewN n).cell? ⟨wr.heap.size, 2, none⟩ = some (.string ot) := fun _ => d2
          have D3 : ∀ n, (W7.drewN n).cell? ⟨wr.heap.size, 3, none⟩ = some (.int .i64 oq) := fun _ => d3
          have hrg := rot_get ops b q hb hk
          obtain ⟨j0, hj0⟩ : ∃ j0, j0 = (q + b) % ops.length := ⟨_, rfl⟩
          have hj0l : j0 < ops.length := by rw [hj0]; exact Nat.mod_lt _ (by omega)
          have M1 : ((q : Int) + (b : Int)) % (ops.length : Int) = (j0 : Int) := by rw [hj0, Int.natCast_emod, Int.natCast_add]
          simp only [← hj0] at hrg
          obtain ⟨z0, z1, z2, z3⟩ := rowE ops (W7.drewN nd) (HCC.out _ hT8.b) j0 hj0l
          obtain ⟨y, hy⟩ : ∃ y, ops[j0] = y := ⟨_, rfl⟩
          rw [hy] at z0 z1 z2 z3 hrg
          have HRG := Lib.hid hrg
          clear hy hrg hnd' hnd hne hj0
          obtain ⟨yc, yl, yt, yq⟩ := y
          simp only at z0 z1 z2 z3
          clear d0 d1 d2 d3
          have d1 := D1 nd; have d2 := D2 nd; have d3 := D3 nd
          clear D1 D2 D3
          have hsw : wr.heap.size < (W7.drewN nd).heap.size := lt_of_cell d1
          generalize W7.drewN nd = W8 at *
          have hb9 : Below W8.heap.size W8 (W8.alloc (.cells #[.int .i64 yc, .string yl, .string yt, .int .i64 yq] 50)) := (Below.refl _ _).alloc (Nat.le_refl _) _
          have hT9 := hT8.below hb9
          have p1 := cells_new W8 [.int .i64 yc, .string yl, .string yt, .int .i64 yq] 50 1 _ rfl
          have p2 := cells_new W8 [.int .i64 yc, .string yl, .string yt, .int .i64 yq] 50 2 _ rfl
          have p3 := cells_new W8 [.int .i64 yc, .string yl, .string yt, .int .i64 yq] 50 3 _ rfl
          have q1 := (hb9.cell (p := ⟨wr.heap.size, 1, none⟩) hsw).trans d1
          have q2 := (hb9.cell (p := ⟨wr.heap.size, 2, none⟩) hsw).trans d2
          have q3 := (hb9.cell (p := ⟨wr.heap.size, 3, none⟩) hsw).trans d3
          have hz9 : W8.heap.size < (W8.alloc (.cells #[.int .i64 yc, .string yl, .string yt, .int .i64 yq] 50)).heap.size := by simp
          have hl8 := hT8.x.lt
          have u1 : W8.heap.size ≠ g := by omega
          have u2 : W8.heap.size ≠ m := by omega
          obtain ⟨s, hs⟩ : ∃ s, adds (ops.take q) = s := ⟨_, rfl⟩
          obtain ⟨s', hs'⟩ : ∃ s', adds ((rot ops b).take q) = s' := ⟨_, rfl⟩
          have hinv := adds_inv (ops.take q)
          have hinv' := adds_inv ((rot ops b).take q)
          have hl1 : (ops.take q).length ≤ q := List.length_take_le _ _
          have hl2 : ((rot ops b).take q).length ≤ q := List.length_take_le _ _
          rw [hs] at hT9 hinv
          rw [hs'] at hT9 hinv'
          have hns : 0 ≤ s.2 ∧ s.2 < 4611686018427387904 := ⟨hinv.1.n0, by omega⟩
          have hns' : 0 ≤ s'.2 ∧ s'.2 < 4611686018427387904 := ⟨hinv'.1.n0, by omega⟩
          have HA := Lib.hid (add_walk g m s.1 s.2 ol ot oq _ (hG.below' hT9.b) hT9.x hns)
          have HB := Lib.hid (fun W hG hy => add_walk g' m' s'.1 s'.2 yl yt yq W hG hy hns')
          have HS := Lib.hid hs; have HS' := Lib.hid hs'
          have tok := hz9
          have hjI : (j0 : Int) < (ops.length : Int) := by omega
          clear hs hs' hinv hinv' hns hns' hl1 hl2 d1 d2 d3 hT8 hT hT7 hl8
          go_wp2_with (first
            | (go_at_call 23; have _t := tok; refine HA.out.mono ?_; rintro e w9 ⟨rfl, hx9, ht9⟩; have e1 := (cell_congr (a := ⟨W8.heap.size, 1, none⟩) (ht9.block _ hz9 u1 u2)).trans p1; have e2 := (cell_congr (a := ⟨W8.heap.size, 2, none⟩) (ht9.block _ hz9 u1 u2)).trans p2; have e3 := (cell_congr (a := ⟨W8.heap.size, 3, none⟩) (ht9.block _ hz9 u1 u2)).trans p3; have hb9 := Turn.base hT9.b ht9 hgB hmB hT9.b.size; have HB' := Lib.hid (HB.out w9 (hG.below' hb9) (hT9.y.turn ht9 n1 n2 n3 n4)); clear HA HB tok)
            | (go_at_call 23; refine HB'.out.mono ?_; rintro e w10 ⟨rfl, hy10, ht10⟩; clear HB'))
          go_roundg (ops.length - (q + 1))
          case measure => omega
          case rel =>
            refine ⟨q + 1, by omega, by simp, HND.out, hx9.turn ht10 n1.symm n3.symm n2.symm n4.symm |> (fun hx => ?_)⟩
            have e1 : adds (ops.take (q + 1)) = addO s ⟨oc, ol, ot, oq⟩ := by
              rw [List.take_succ_eq_append_getElem hk, adds_snoc, HX.out, HS.out]
            have e2 : adds ((rot ops b).take (q + 1)) = addO s' ⟨yc, yl, yt, yq⟩ := by
              rw [List.take_succ_eq_append_getElem (by rw [rot_length]; exact hk), adds_snoc, HRG.out, HS'.out]
            rw [e1, e2]
            exact ⟨hx, hy10, Turn.base hb9 ht10 hgB' hmB' hb9.size⟩
    · have hk' : decide (k < ops.length) = false := decide_eq_false hk
      obtain rfl : k = ops.length := by omega
      have hrl := rot_length ops b
      rw [List.take_length] at hnd
      have htl : (rot ops b).take ops.length = rot ops b := List.take_of_length_le (by omega)
      rw [List.take_length, htl] at hT
      obtain ⟨hI, hll, hnn⟩ := adds_inv ops
      obtain ⟨hI', hll', hnn'⟩ := adds_inv (rot ops b)
      have HSAME := Lib.hid (fun xs ys (hx : IsFind (adds ops).1 name xs) (hy : IsFind (adds (rot ops b)).1 name ys) => find_same (rot_perm ops b) hnd hx hy)
      rw [hrl] at hll' hnn'
      clear htl hrl hnd
      generalize adds ops = s at *
      generalize adds (rot ops b) = s' at *
      obtain ⟨l, n⟩ := s
      obtain ⟨l', n'⟩ := s'
      have hx := hT.x; have hy := hT.y; have hbr := hT.b
      simp only at hx hy hI hll hI' hll' HSAME
      have hsrt := hI.srt
      obtain ⟨g1, o1, rfl, hg1, hc1⟩ := HAD.out (by omega)
      have h0l : 0 < ops.length := by omega
      obtain ⟨gone, hgone⟩ : ∃ c, c = (ops[0]'h0l).client := ⟨_, rfl⟩
      have hcg : ∀ wr, Below w.heap.size w wr → wr.cell? ⟨g1, o1 + 1, none⟩ = some (.string gone) := fun wr hb => by
        obtain ⟨_, c1, _, _⟩ := rowE (g1 := g1) (o1 := o1) ops wr (fun j u hj => by rw [hb.cell (p := ⟨g1, o1 + j, none⟩) hg1]; exact hc1 j u hj) 0 h0l
        rw [hgone]; simpa using c1
      have HCG := Lib.hid hcg
      clear hcg hgone hc1 HAD hI hI' hT hT0
      have hB0 := hbr.size
      have hlt := hx.lt
      have hI := show (Tryd.prog.info? 67).map (fun i => (i.zero, i.size, i.bytes)) = some (some (.agg #[.string ⟨#[]⟩, .int .i64 0]), 2, 24) by kernel_rfl
      obtain ⟨i0, hi, hz0, hz1, hz2⟩ := info_parts hI
      clear hI
      have HF1 := Lib.hid (find_walk g m l n name wr (hG.below' hbr) hx hn (by omega))
      clear hk hk'
      go_wp2_with (go_at_call 29; refine HF1.out.mono ?_; rintro e w4 ⟨⟨v4, ws, rfl, hfa, hown4⟩, hb4'⟩; have hb4 := hbr.trans (hb4'.mono hB0); have HF2 := Lib.hid (find_walk g' m' l' n' name w4 (hG.below' hb4) (hy.below hb4') hn (by omega)); clear HF1)
      go_wp2_with (go_at_call 29; refine HF2.out.mono ?_; rintro e w5 ⟨⟨v5, bs, rfl, hfb, hown5⟩, hb5'⟩; have hb5 := hb4.trans (hb5'.mono hb4.size); obtain rfl := HSAME.out _ _ hfa hfb; clear HF2)
      have hwl := find_len hfa
      have hr4 := RowRd.of_own hown4 (by rw [flat_len (enc := wantE) (k := 2) (fun _ => rfl)]) (by decide)
      have hge4 := hown4.lt
      have hr5 := RowRd.of_own hown5 (by rw [flat_len (enc := wantE) (k := 2) (fun _ => rfl)]) (by decide)
      have HW1 := Lib.hid (wants_walk v4 v5 ws ws w5 (hr4.below hb5') hr5 (by omega))
      rw [show decide (ws = ws) = true from decide_eq_true rfl] at HW1
      clear hown4 hown5 hr5
      have hx5 := (hx.below hb4').below hb5'
      go_wp2_with (go_at_call 30; refine HW1.out.mono ?_; rintro e w6 ⟨rfl, hb6'⟩; have hb6 := hb5.trans (hb6'.mono hb5.size); have cg := HCG.out w6 hb6; have HGO := Lib.hid (gone_walk g m l n gone w6 (hx5.below hb6') (by omega) hsrt); clear HW1)
      have hr6 := (hr4.below hb5').below hb6'
      go_wp2_with (go_at_call 31; refine HGO.out.mono ?_; rintro e w7 ⟨rfl, hx7, ht7⟩; have hb7 := Turn.base hb6 ht7 hgB hmB hb6.size; have HF3 := Lib.hid (find_walk g m (goneL l gone) n name w7 (hG.below' hb7) hx7 hn (by have := List.length_filter_le (fun p : (ByteArray × ByteArray) × (Int × Int) => decide (p.1.1 ≠ gone)) l; unfold goneL; omega)); clear HGO)
      have hr7 := hr6.turn ht7 (fun ad n' cap hv => by have := hge4 ad.block (by rw [hv]; rfl); omega)
      go_wp2_with (go_at_call 29; refine HF3.out.mono ?_; rintro e w8 ⟨⟨v8, cs, rfl, hfc, hown8⟩, hb8'⟩; have hb8 := hb7.trans (hb8'.mono hb7.size); clear HF3)
      obtain rfl := find_gone hfa hfc
      have hr8 := hr7.below hb8'
      have hrc := RowRd.of_own hown8 (by rw [flat_len (enc := wantE) (k := 2) (fun _ => rfl)]) (by decide)
      obtain ⟨p, hp⟩ : ∃ p : ByteArray × Int → Bool, p = fun p => decide (p.1 ≠ gone) := ⟨_, rfl⟩
      rw [← hp] at hrc
      have HP := Lib.hid hp
      clear hfa hfb hfc hown8 hr4 hr6 hr7 hp hge4 hx hy hx5 hx7 HSAME
      obtain ⟨ad8, cap8, rfl, had8⟩ := hr8
      have HA8 := Lib.hid had8; clear had8
      go_loopg [22, 23] ws.length (fun gk out i wx => ∃ k : Nat, k + gk = ws.length ∧ i = .int .i64 k ∧ wx.ownsRow w8.heap.size 67 2 out ((ws.take k).filter p).length (((ws.take k).filter p).flatMap wantE) ∧ Below w8.heap.size w8 wx)
      case atStart => exact ⟨0, by omega, rfl, World.ownsRow_nil _ _ _ _, Below.refl _ _⟩
      case round =>
        obtain ⟨q, hqg, rfl, hown, hbq⟩ := hrel
        by_cases hq : q < ws.length
        · have hq' : decide (q < ws.length) = true := decide_eq_true hq
          obtain ⟨g2, o2, rfl, hg2, hc2⟩ := HA8.out (by omega)
          obtain ⟨⟨a1, a2⟩, ha⟩ : ∃ x, ws[q]'hq = x := ⟨_, rfl⟩
          obtain ⟨f0, f1⟩ := flat2 (enc := wantE) (fun _ => rfl) ws q hq ha (by rfl)
          have z0 : wr.cell? ⟨g2, o2 + q * 2, none⟩ = some (.string a1) := (hbq.cell (p := ⟨g2, o2 + q * 2, none⟩) hg2).trans (hc2 _ _ f0)
          have z1 : wr.cell? ⟨g2, o2 + q * 2 + 1, none⟩ = some (.int .i64 a2) := (hbq.cell (p := ⟨g2, o2 + q * 2 + 1, none⟩) hg2).trans (hc2 _ _ f1)
          have hte : (ws.take (q + 1)).filter p = (ws.take q).filter p ++ if p (a1, a2) = true then [(a1, a2)] else [] := by
            rw [List.take_succ_eq_append_getElem hq, List.filter_append, ha, List.filter_cons]; rfl
          have HT := Lib.hid hte
          have hfl : ((ws.take q).filter p).length ≤ 100 := by
            have h1 := List.length_filter_le p (ws.take q)
            have h2 : (ws.take q).length ≤ q := List.length_take_le _ _
            omega
          clear hte f0 f1 hc2 ha
          generalize (ws.take q).filter p = fs at *
          have hbs := hbq.size
          by_cases hne : a1 = gone
          · have hpf : p (a1, a2) = false := by rw [HP.out]; exact decide_eq_false (fun h => h hne)
            rw [hpf] at HT
            have T1 : (a1.toList == gone.toList) = true := by rw [str_eq_iff]; exact decide_eq_true hne
            have T2 : (a1.toList != gone.toList) = false := by unfold bne; rw [T1]; rfl
            clear hne hpf
            go_wp2
            go_roundg (gk - 1)
            case measure => omega
            case rel => exact ⟨q + 1, by omega, by simp, by rw [HT.out, if_neg (by decide), List.append_nil]; exact hown, hbq⟩
          · have hpf : p (a1, a2) = true := by rw [HP.out]; exact decide_eq_true hne
            rw [hpf] at HT
            have T1 : (a1.toList == gone.toList) = false := by rw [str_eq_iff]; exact decide_eq_false hne
            have T2 : (a1.toList != gone.toList) = true := by unfold bne; rw [T1]; rfl
            clear hne hpf
            go_wp2_with (at_builtin; refine wpList_append_own _ rfl _ _ 60 rfl w8.heap.size 67 i0 (.agg #[.string ⟨#[]⟩, .int .i64 0]) 2 24 Tryd.underlying60 hi hz0 hz1 hz2 rfl (by decide) _ _ _ rfl (hown.alloc _) ⟨wr.heap.size, 0, none⟩ 1 1 [.string a1, .int .i64 a2] rfl rfl (cells_new _ _ _) ?c2 ?c3 ?c4 ?c5 ?_)
            case c2 => first | exact ⟨rfl, rfl⟩ | (intro u hu; simp at hu; rcases hu with rfl | rfl <;> rfl)
            case c3 => unfold maxLen; omega
            case c4 => omega
            case c5 => first | omega | (simp; omega)
            intro v' w9 hown9 hgrow9 _
            have hB9 := below_own (hbq.alloc hbq.size (.cells #[.string a1, .int .i64 a2] 67)) (by simp; omega) (hown.alloc _) hgrow9 (Nat.le_refl _)
            go_wp2
            go_roundg (gk - 1)
            case measure => omega
            case rel => exact ⟨q + 1, by omega, by simp, by rw [HT.out]; simp only [if_true, List.length_append, List.flatMap_append]; exact hown9, hB9⟩
        · have hq' : decide (q < ws.length) = false := decide_eq_false hq
          have hql : ws.take q = ws := List.take_of_length_le (by omega)
          rw [hql] at hown
          have hfl : (ws.filter p).length ≤ ws.length := List.length_filter_le _ _
          have hrw := RowRd.of_own hown (by rw [flat_len (enc := wantE) (k := 2) (fun _ => rfl)]) (by decide)
          have hbw := hb8.trans (hbq.mono hb8.size)
          have HAW := Lib.hid (awake13 wr (hG.below' hbw))
          have HW2 := Lib.hid (fun w' hb => wants_walk _ _ (ws.filter p) (ws.filter p) w' ((hrc.below hbq).below hb) (hrw.below hb) (by omega))
          rw [show decide (ws.filter p = ws.filter p) = true from decide_eq_true rfl] at HW2
          clear hq hown hrw hrc hql
          go_wp2_with (first
            | (go_at_call 26; refine HAW.out.mono ?_; rintro e w10 ⟨rfl, hb10'⟩; have hb10 := hbw.trans (hb10'.mono hbw.size); clear HAW)
            | (go_at_call 30; refine (HW2.out _ hb10').mono ?_; rintro e w11 ⟨rfl, hb11'⟩; clear HW2))
          go_ret
          exact ⟨rfl, hb10.trans (hb11'.mono hb10.size)⟩

end Go.Proofs.YtaaaifeommdblaaDoor
