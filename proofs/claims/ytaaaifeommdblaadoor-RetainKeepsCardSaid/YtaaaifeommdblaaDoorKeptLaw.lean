/- basculeref14.Rows, basculelaw14.few, awake: the walks. -/
import Derived.Test.YtaaaifeommdblaaDoorKeptPut
namespace Go.Proofs.YtaaaifeommdblaaDoor
open Go.RowKit Go.Sort Go.Proofs.YtaaaifeommdblaaDoorW.PrintWords

theorem eqMsg (d : Nat) (w : World) (x y : MsgR) :
    (Op.equalIn (d + 2) 33 (.agg #[.string x.topic, .string x.load, .int .i64 x.qos, .bool x.keep]) (.agg #[.string y.topic, .string y.load, .int .i64 y.qos, .bool y.keep])).run Tryd.prog w = .ok (decide (x = y)) w := by
  obtain ⟨x0, x1, x2, x3⟩ := x
  obtain ⟨y0, y1, y2, y3⟩ := y
  have h : (Op.equalIn (d + 2) 33 (.agg #[.string x0, .string x1, .int .i64 x2, .bool x3]) (.agg #[.string y0, .string y1, .int .i64 y2, .bool y3])).run Tryd.prog w = .ok (x0.toList == y0.toList && (x1.toList == y1.toList && (x2 == y2 && (x3 == y3)))) w := by
    refine eqA_of Tryd.underlying33 (by kernel_rfl) ?_
    refine eqf_cons (by rfl) (by go_simp; rfl) (by go_simp; rfl) (by go_simp) ?_
    refine eqf_cons (by rfl) (by go_simp; rfl) (by go_simp; rfl) (by go_simp) ?_
    refine eqf_cons (by rfl) (by go_simp; rfl) (by go_simp; rfl) (by go_simp) ?_
    exact eqf_last (by rfl) (by go_simp; rfl) (by go_simp; rfl) (by go_simp)
  have e : (decide (x0 = y0) && (decide (x1 = y1) && (x2 == y2 && (x3 == y3)))) = decide ((⟨x0, x1, x2, x3⟩ : MsgR) = ⟨y0, y1, y2, y3⟩) := by
    rw [Bool.eq_iff_iff]; simp
  simp only
  rw [h, str_eq_iff, str_eq_iff, e]
theorem run_neq_Msg (w : World) (x y : MsgR) : (binOp .neq 33 (.agg #[.string x.topic, .string x.load, .int .i64 x.qos, .bool x.keep]) (.agg #[.string y.topic, .string y.load, .int .i64 y.qos, .bool y.keep])).run Tryd.prog w = .ok (.bool (!decide (x = y))) w := by
  have h := eqMsg 9998 w x y
  simp only [binOp]
  simp [Op.equal, Op.maxDepth, h]

set_option maxHeartbeats 1000000 in
theorem rows_walk (v1 v2 : Value) (xs ys : List MsgR) (w : World) (h1 : RowRd w v1 xs.length (xs.flatMap msgE)) (h2 : RowRd w v2 ys.length (ys.flatMap msgE)) (hsz : xs.length < 4611686018427387904) :
    Calls Tryd.prog 15 #[v1, v2] w fun e w' => e = .returned (.bool (decide (xs = ys))) ∧ Below w.heap.size w w' := by
  obtain ⟨ad, cap, rfl, had⟩ := h1
  obtain ⟨bd, bap, rfl, hbd⟩ := h2
  by_cases hl : xs.length = ys.length
  · have E0 : (!decide ((xs.length : Int) = (ys.length : Int))) = false := by simp [hl]
    obtain ⟨r, hr⟩ : ∃ r, r = decide (xs = ys) := ⟨_, rfl⟩
    rw [← hr]
    have HR := Lib.hid hr; clear hr
    have HL := Lib.hid hl
    go_enter Tryd.func15, Tryd.ntmps15
    rw [← hl] at hbd E0 ⊢
    go_wp2
    go_loopg [5] xs.length (fun gk i wx => ∃ k : Nat, k + gk = xs.length ∧ i = .int .i64 k ∧ xs.take k = ys.take k ∧ ∃ nd, wx = w.drewN nd)
    case atStart => exact ⟨0, by omega, rfl, by simp, 0, rfl⟩
    case round =>
      obtain ⟨k, hkg, rfl, hpre, nd, rfl⟩ := hrel
      by_cases hk : k < xs.length
      · have hk' : decide (k < xs.length) = true := decide_eq_true hk
        have hk2 : k < ys.length := by rw [← HL.out]; exact hk
        obtain ⟨g1, o1, rfl, hg1, hc1⟩ := had (by omega)
        obtain ⟨g2, o2, rfl, hg2, hc2⟩ := hbd (by omega)
        obtain ⟨x, hak⟩ : ∃ x, xs[k]'hk = x := ⟨_, rfl⟩
        obtain ⟨y, hbk⟩ : ∃ y, ys[k]'hk2 = y := ⟨_, rfl⟩
        have R1 := fun nq => rowM xs (w.drewN nq) hc1 k hk hak
        have R2 := fun nq => rowM ys (w.drewN nq) hc2 k hk2 hbk
        have a0 := fun nq => (R1 nq).1; have a1 := fun nq => (R1 nq).2.1; have a2 := fun nq => (R1 nq).2.2.1; have a3 := fun nq => (R1 nq).2.2.2
        have b0 := fun nq => (R2 nq).1; have b1 := fun nq => (R2 nq).2.1; have b2 := fun nq => (R2 nq).2.2.1; have b3 := fun nq => (R2 nq).2.2.2
        have EQ := fun W => run_neq_Msg W x y
        have hget : decide (x = y) = decide (xs[k] = ys[k]) := by rw [hak, hbk]
        obtain ⟨q, hq⟩ : ∃ q, q = decide (x = y) := ⟨_, rfl⟩
        rw [← hq] at EQ hget
        have HQ := Lib.hid hget
        clear hq hget R1 R2 hc1 hc2 hak hbk
        obtain ⟨x0, x1, x2, x3⟩ := x
        obtain ⟨y0, y1, y2, y3⟩ := y
        simp only at a0 a1 a2 a3 b0 b1 b2 b3 EQ
        cases q
        · simp only [Bool.not_false] at EQ
          have hne : xs ≠ ys := fun e => by subst e; have := HQ.out; simp at this
          have hrt : r = false := by rw [HR.out]; exact decide_eq_false hne
          subst hrt
          clear hne
          go_wp2
          go_quiet (fail)
          go_wp2
          go_ret
          exact ⟨rfl, Go.below_drewN (Go.below_drewN (Below.refl _ _) _) _⟩
        · simp only [Bool.not_true] at EQ
          go_wp2
          go_quiet (fail)
          go_wp2
          go_roundg (gk - 1)
          case measure => omega
          case rel =>
            refine ⟨k + 1, by omega, by simp, ?_, _, rfl⟩
            have := HQ.out
            rw [List.take_succ_eq_append_getElem hk, List.take_succ_eq_append_getElem hk2, hpre, of_decide_eq_true this.symm]
      · obtain rfl : k = xs.length := by omega
        have hk' : decide (xs.length < xs.length) = false := by simp
        have : xs = ys := by rw [List.take_length] at hpre; rw [hpre, hl, List.take_length]
        have hrt : r = true := by rw [HR.out]; exact decide_eq_true this
        subst hrt
        go_wp2
        go_ret
        exact ⟨rfl, below_drewN _ _⟩
  · have E0 : (!decide ((xs.length : Int) = (ys.length : Int))) = true := by simp; omega
    have hd : decide (xs = ys) = false := decide_eq_false (fun e => hl (by rw [e]))
    rw [hd]
    go_enter Tryd.func15, Tryd.ntmps15
    go_wp2
    go_ret
    exact ⟨rfl, Below.refl _ _⟩

def okM (x : MsgR) : Bool := decide (x.topic.size ≤ 100) && decide (x.load.size ≤ 1000)
def fewM (l : List MsgR) : Bool := decide (l.length ≤ 100) && l.all okM

set_option maxHeartbeats 1000000 in
theorem few14_walk (v : Value) (ms : List MsgR) (w : World) (h : RowRd w v ms.length (ms.flatMap msgE)) :
    Calls Tryd.prog 8 #[v] w fun e w' => e = .returned (.bool (fewM ms)) ∧ w' = w := by
  obtain ⟨ad, cap, rfl, had⟩ := h
  unfold fewM
  by_cases hl : ms.length ≤ 100
  · have E0 : decide ((100 : Int) < (ms.length : Int)) = false := decide_eq_false (by omega)
    have hl' : ms.length < 4611686018427387904 := by omega
    rw [decide_eq_true hl, Bool.true_and]
    obtain ⟨r, hr⟩ : ∃ r, r = ms.all okM := ⟨_, rfl⟩
    rw [← hr]
    have HR := Lib.hid hr; clear hr hl
    go_enter Tryd.func8, Tryd.ntmps8
    go_wp2
    go_loopg [3] ms.length (fun gk i wx => ∃ k : Nat, k + gk = ms.length ∧ i = .int .i64 k ∧ (ms.take k).all okM = true ∧ wx = w)
    case atStart => exact ⟨0, by omega, rfl, by simp, rfl⟩
    case round =>
      obtain ⟨k, hkg, rfl, hpre, rfl⟩ := hrel
      by_cases hk : k < ms.length
      · have hk' : decide (k < ms.length) = true := decide_eq_true hk
        obtain ⟨g1, o1, rfl, hg1, hc1⟩ := had (by omega)
        obtain ⟨x, hx⟩ : ∃ x, ms[k]'hk = x := ⟨_, rfl⟩
        obtain ⟨e0, e1, _, _⟩ := rowM ms wr hc1 k hk hx
        have HS : (ms.take (k + 1)).all okM = okM x := by
          rw [List.take_succ_eq_append_getElem hk, List.all_append, hpre, hx]; simp
        have HS' := Lib.hid HS; clear HS
        obtain ⟨xt, xl, xq, xk⟩ := x
        simp only [okM] at HS'
        simp only at e0 e1
        by_cases h1 : xt.size ≤ 100
        · have E1 : decide ((100 : Int) < (xt.size : Int)) = false := decide_eq_false (by omega)
          by_cases h2 : xl.size ≤ 1000
          · have E2 : decide ((1000 : Int) < (xl.size : Int)) = false := decide_eq_false (by omega)
            clear hc1
            go_wp2
            go_roundg (gk - 1)
            case measure => omega
            case rel => exact ⟨k + 1, by omega, by simp, by rw [HS'.out, decide_eq_true h1, decide_eq_true h2]; rfl, rfl⟩
          · have E2 : decide ((1000 : Int) < (xl.size : Int)) = true := decide_eq_true (by omega)
            have hrt : r = false := by
              rw [HR.out, List.all_eq_false]
              exact ⟨_, List.getElem_mem hk, by rw [hx]; simp [okM, h2]⟩
            subst hrt
            clear hc1
            go_wp2
            go_ret
            exact ⟨rfl, rfl⟩
        · have E1 : decide ((100 : Int) < (xt.size : Int)) = true := decide_eq_true (by omega)
          have hrt : r = false := by
            rw [HR.out, List.all_eq_false]
            exact ⟨_, List.getElem_mem hk, by rw [hx]; simp [okM, h1]⟩
          subst hrt
          clear hc1
          go_wp2
          go_ret
          exact ⟨rfl, rfl⟩
      · obtain rfl : k = ms.length := by omega
        have hk' : decide (ms.length < ms.length) = false := by simp
        have hrt : r = true := by rw [HR.out, ← hpre, List.take_length]
        subst hrt
        go_wp2
        go_ret
        exact ⟨rfl, rfl⟩
  · have E0 : decide ((100 : Int) < (ms.length : Int)) = true := decide_eq_true (by omega)
    rw [decide_eq_false hl, Bool.false_and]
    go_enter Tryd.func8, Tryd.ntmps8
    go_wp2
    go_ret
    exact ⟨rfl, rfl⟩

def aM1 : MsgR := ⟨⟨#[97, 47, 98]⟩, ⟨#[120]⟩, 0, true⟩
def aM2 : MsgR := ⟨⟨#[97]⟩, ⟨#[121]⟩, 0, true⟩
def aM3 : MsgR := ⟨⟨#[97]⟩, ⟨#[122]⟩, 0, false⟩
def aL1 : KeptL := [(⟨#[97, 47, 98]⟩, aM1)]
def aL2 : KeptL := [(⟨#[97, 47, 98]⟩, aM1), (⟨#[97]⟩, aM2)]
theorem aP1 : putM [] aM1 = ((true, 0), aL1) := by kernel_rfl
theorem aP2 : putM aL1 aM2 = ((true, 0), aL2) := by kernel_rfl
theorem aP3 : putM aL2 aM3 = ((false, 0), aL2) := by kernel_rfl
theorem aF : aL2.filter (fun p => (matchF ⟨#[35]⟩ p.1).1) = aL2 := by kernel_rfl
theorem aS : SortedOf aL2 [aM2, aM1] := ⟨List.Perm.swap _ _ _, by decide +kernel⟩
theorem aH : filterF ⟨#[35]⟩ = true := by kernel_rfl

set_option maxHeartbeats 2000000 in
set_option maxRecDepth 100000 in
theorem awake14 (w : World) (hG : Glob w) : Calls Tryd.prog 19 #[] w fun e w' => e = .returned (.bool true) ∧ Below w.heap.size w w' := by
  have HNEW := Lib.hid (kept_new w)
  have HU := Lib.hid (fun ws (h' : SortedOf aL2 ws) => sortedOf_unique aS h')
  have e1 := aP1; have e2 := aP2; have e3 := aP3; have eF := aF
  obtain ⟨l1, hl1⟩ : ∃ x, x = aL1 := ⟨_, rfl⟩
  obtain ⟨l2, hl2⟩ : ∃ x, x = aL2 := ⟨_, rfl⟩
  have hlen : l2.length = 2 := by rw [hl2]; rfl
  have htp : ∀ p ∈ l2, p.2.topic = p.1 := by rw [hl2]; decide +kernel
  rw [← hl1] at e1 e2
  rw [← hl2] at e2 e3 eF HU
  clear hl1 hl2
  have H1 := Lib.hid e1; have H2 := Lib.hid e2; have H3 := Lib.hid e3; have HF := Lib.hid eF; have HT := Lib.hid htp; have HLN := Lib.hid hlen
  clear e1 e2 e3 eF htp hlen
  go_enter Tryd.func19, Tryd.ntmps19
  go_wp2_with (go_at_call 9; refine HNEW.out.mono ?_; rintro e w1 ⟨rfl, hx1, hb1⟩; have hs1 := hb1.size; have HC1 := Lib.hid (kept_put _ _ _ aM1 w1 (hG.below' hb1) hx1); rw [H1.out] at HC1; clear HNEW)
  go_wp2_with (go_at_call 10; refine HC1.out.mono ?_; rintro e w2 ⟨he, hx2, ht2⟩; simp only at he hx2; subst he; have hb2 := Turn.base hb1 ht2 (by omega) (by omega) hb1.size; have HC2 := Lib.hid (kept_put _ _ _ aM2 w2 (hG.below' hb2) hx2); rw [H2.out] at HC2; clear HC1)
  go_wp2_with (go_at_call 10; refine HC2.out.mono ?_; rintro e w3 ⟨he, hx3, ht3⟩; simp only at he hx3; subst he; have hb3 := Turn.base hb2 ht3 (by omega) (by omega) hb2.size; have HC3 := Lib.hid (kept_put _ _ _ aM3 w3 (hG.below' hb3) hx3); rw [H3.out] at HC3; clear HC2)
  go_wp2_with (go_at_call 10; refine HC3.out.mono ?_; rintro e w4 ⟨he, hx4, ht4⟩; simp only at he hx4; subst he; have hb4 := Turn.base hb3 ht4 (by omega) (by omega) hb3.size; have HC4 := Lib.hid (kfind_walk _ _ _ ⟨#[35]⟩ w4 (hG.below' hb4) hx4 aH HT.out (by have := HLN.out; omega)); rw [HF.out] at HC4; clear HC3)
  go_wp2_with (go_at_call 17; refine HC4.out.mono ?_; rintro e w5 ⟨⟨v, ws, rfl, hF, hown⟩, hb5'⟩; obtain rfl := HU.out _ hF; have hb5 := hb4.trans (hb5'.mono hb4.size); have HC5 := Lib.hid (kept_count _ _ _ w5 (hx4.below hb5')); rw [HLN.out] at HC5; clear HC4; obtain ⟨ad, cap, hv, had⟩ := RowRd.of_own hown (by decide) (by decide); rw [show ([aM2, aM1] : List MsgR).length = 2 from rfl] at hv; subst hv; obtain ⟨g1, o1, rfl, _, hc⟩ := had (by decide); have r1 : w5.cell? ⟨g1, o1 + 1, none⟩ = some (.string ⟨#[121]⟩) := hc 1 _ rfl; have r5 : w5.cell? ⟨g1, o1 + 5, none⟩ = some (.string ⟨#[120]⟩) := hc 5 _ rfl; have r5' : w5.cell? ⟨g1, o1 + 4 + 1, none⟩ = some (.string ⟨#[120]⟩) := r5; clear hc had hown hF)
  go_wp2_with (go_at_call 14; refine HC5.out.mono ?_; rintro e w6 ⟨rfl, rfl⟩; clear HC5)
  go_ret
  exact ⟨rfl, hb5⟩

end Go.Proofs.YtaaaifeommdblaaDoor
