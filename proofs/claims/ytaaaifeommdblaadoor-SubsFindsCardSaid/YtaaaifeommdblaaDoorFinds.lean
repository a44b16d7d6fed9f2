/- basculelaw13.SubsFinds: the walk. -/
import Derived.Test.YtaaaifeommdblaaDoorFew
import Derived.Test.YtaaaifeommdblaaDoorRefZ
import Derived.Test.YtaaaifeommdblaaDoorSubsAwake
import Derived.BigQuiet
namespace Go.Proofs.YtaaaifeommdblaaDoor
open Go.RowKit Go.Sort

/-- What a call of the script does to the index. -/
def opF (s : SubL × Int) (o : OpR) : SubL × Int :=
  if o.call = 1 then (dropF s.1 s.2 o.client o.text).2 else if o.call = 2 then (goneL s.1 o.client, s.2) else (addF s.1 s.2 o.client o.text o.qos).2

theorem Inv.op {s : SubL × Int} (h : Inv s.1 s.2) (o : OpR) : Inv (opF s o).1 (opF s o).2 ∧ (opF s o).1.length ≤ s.1.length + 1 ∧ (opF s o).2 ≤ s.2 + 1 := by
  unfold opF
  split
  · exact h.drop _ _
  · split
    · exact ⟨(h.gone _).1, (h.gone _).2, by simp; omega⟩
    · exact h.add _ _ _

set_option maxHeartbeats 2000000 in
set_option maxRecDepth 100000 in
theorem finds_walk (v : Value) (ops : List OpR) (name : ByteArray) (w : World) (hG : Glob w) (h : RowRd w v ops.length (ops.flatMap opE)) :
    Calls Tryd.prog 6 #[v, .string name] w fun e w' => e = .returned (.bool true) ∧ Below w.heap.size w w' := by
  have HF := Lib.hid (few_walk v ops w h)
  have HN := Lib.hid (name_ref name)
  obtain ⟨ad, cap, rfl, had⟩ := h
  have HAD := Lib.hid had; clear had
  by_cases hf : fewF ops = true
  case neg =>
    rw [show fewF ops = false by simpa using hf] at HF
    go_enter Tryd.func6, Tryd.ntmps6
    go_wp2_with (go_at_call 21; refine HF.out.mono ?_; rintro e w0 ⟨rfl, hw0⟩; have hw0 := hw0.symm; subst hw0; clear HF)
    go_ret
    exact ⟨rfl, Below.refl _ _⟩
  rw [hf] at HF
  have hlen : ops.length ≤ 100 := by unfold fewF at hf; simp at hf; exact hf.1
  by_cases hn : nameF name = true
  case neg =>
    rw [show nameF name = false by simpa using hn] at HN
    go_enter Tryd.func6, Tryd.ntmps6
    go_wp2_with (first
      | (go_at_call 21; refine HF.out.mono ?_; rintro e w0 ⟨rfl, hw0⟩; have hw0 := hw0.symm; subst hw0; clear HF)
      | (go_at_call 28; refine (HN.out _).mono ?_; rintro e w1 ⟨rfl, hb1⟩; clear HN))
    go_ret
    exact ⟨rfl, hb1⟩
  rw [hn] at HN
  by_cases hs : name.size ≤ 100
  case neg =>
    have E1 : decide ((100 : Int) < (name.size : Int)) = true := decide_eq_true (by omega)
    go_enter Tryd.func6, Tryd.ntmps6
    go_wp2_with (first
      | (go_at_call 21; refine HF.out.mono ?_; rintro e w0 ⟨rfl, hw0⟩; have hw0 := hw0.symm; subst hw0; clear HF)
      | (go_at_call 28; refine (HN.out _).mono ?_; rintro e w1 ⟨rfl, hb1⟩; clear HN))
    go_ret
    exact ⟨rfl, hb1⟩
  have E1 : decide ((100 : Int) < (name.size : Int)) = false := decide_eq_false (by omega)
  have HNEW := Lib.hid new_walk
  go_enter Tryd.func6, Tryd.ntmps6
  go_wp2_with (first
    | (go_at_call 21; refine HF.out.mono ?_; rintro e w0 ⟨rfl, hw0⟩; have hw0 := hw0.symm; subst hw0; clear HF)
    | (go_at_call 28; refine (HN.out _).mono ?_; rintro e w1 ⟨rfl, hb1⟩; clear HN)
    | (go_at_call 22; refine (HNEW.out _).mono ?_; rintro e w2 ⟨rfl, hx2, hb2'⟩; clear HNEW))
  have hb2 := hb1.trans (hb2'.mono hb1.size)
  have hs1 := hb1.size
  generalize hgd : w1.heap.size + 1 = g at *
  generalize hmd : w1.heap.size = m at *
  have hgB : w.heap.size ≤ g := by omega
  have hmB : w.heap.size ≤ m := by omega
  go_loopg [6] ops.length (fun gk i wx => ∃ (k : Nat) (s : SubL × Int), k + gk = ops.length ∧ i = .int .i64 k ∧ IdxAt wx g m s.1 s.2 ∧ Inv s.1 s.2 ∧ s.1.length ≤ k ∧ s.2 ≤ k ∧ Below w.heap.size w wx)
  case atStart => exact ⟨0, ([], 0), by omega, rfl, hx2, Inv.nil, by simp, by simp, hb2⟩
  case round =>
    obtain ⟨k, ⟨l, n⟩, hkg, rfl, hx, hI, hll, hnn, hnx⟩ := hrel
    simp only at hx hI hll hnn
    by_cases hk : k < ops.length
    · have hk' : decide (k < ops.length) = true := decide_eq_true hk
      obtain ⟨g1, o1, rfl, hg1, hc1⟩ := HAD.out (by omega)
      obtain ⟨⟨oc, ol, ot, oq⟩, hxk⟩ : ∃ x, ops[k]'hk = x := ⟨_, rfl⟩
      obtain ⟨f0, f1, f2, f3⟩ := flat4 ops k hk hxk
      have hcc : ∀ j u, (ops.flatMap opE)[j]? = some u → wr.cell? ⟨g1, o1 + j, none⟩ = some u := fun j u hj => by rw [hnx.cell (p := ⟨g1, o1 + j, none⟩) hg1]; exact hc1 j u hj
      have c0 := hcc _ _ f0; have c1 := hcc _ _ f1; have c2 := hcc _ _ f2; have c3 := hcc _ _ f3
      simp only [← Nat.add_assoc] at c0 c1 c2 c3
      have hb7 : Below wr.heap.size wr (wr.alloc (.cells #[.int .i64 oc, .string ol, .string ot, .int .i64 oq] 50)) := (Below.refl _ _).alloc (Nat.le_refl _) _
      have hx7 := hx.below hb7
      have hnx7 := hnx.trans (hb7.mono hnx.size)
      have hG7 := hG.below' hnx7
      have d0 := cells_new wr [.int .i64 oc, .string ol, .string ot, .int .i64 oq] 50 0 _ rfl
      have d1 := cells_new wr [.int .i64 oc, .string ol, .string ot, .int .i64 oq] 50 1 _ rfl
      have d2 := cells_new wr [.int .i64 oc, .string ol, .string ot, .int .i64 oq] 50 2 _ rfl
      have d3 := cells_new wr [.int .i64 oc, .string ol, .string ot, .int .i64 oq] 50 3 _ rfl
      have HI := Lib.hid (Inv.op (s := (l, n)) hI ⟨oc, ol, ot, oq⟩)
      have HD := Lib.hid (drop_walk g m l n ol ot _ hG7 hx7)
      have HO := Lib.hid (gone_walk g m l n ol _ hx7 (by omega) hI.srt)
      have HA := Lib.hid (add_walk g m l n ol ot oq _ hG7 hx7 ⟨hI.n0, by omega⟩)
      have hsz := hnx7.size
      clear f0 f1 f2 f3 hcc hc1 hxk
      simp only [opF] at HI
      have hkb : (k : Int) < 9000 := by omega
      by_cases h1 : oc = 1
      · have T1 : (oc == 1) = true := by simpa using h1
        rw [if_pos h1] at HI
        clear h1
        go_wp2_with (go_at_call 25; refine HD.out.mono ?_; rintro e w9 ⟨rfl, hx9, ht9⟩; clear HD)
        go_roundg (gk - 1)
        case measure => omega
        case rel => exact ⟨k + 1, _, by omega, by simp, hx9, HI.out.1, by have := HI.out.2.1; (try simp only at this); omega, by have := HI.out.2.2; (try simp only at this); omega, Turn.base hnx7 ht9 hgB hmB hsz⟩
      · have T1 : (oc == 1) = false := by simpa using h1
        rw [if_neg h1] at HI
        by_cases h2 : oc = 2
        · have T2 : (oc == 2) = true := by simpa using h2
          rw [if_pos h2] at HI
          clear h1 h2
          go_wp2_with (go_at_call 31; refine HO.out.mono ?_; rintro e w9 ⟨rfl, hx9, ht9⟩; clear HO)
          go_roundg (gk - 1)
          case measure => omega
          case rel => exact ⟨k + 1, (goneL l ol, n), by omega, by simp, hx9, HI.out.1, by have : (goneL l ol).length ≤ l.length + 1 := HI.out.2.1; show (goneL l ol).length ≤ k + 1; omega, by show n ≤ _; omega, Turn.base hnx7 ht9 hgB hmB hsz⟩
        · have T2 : (oc == 2) = false := by simpa using h2
          rw [if_neg h2] at HI
          clear h1 h2
          go_wp2_with (go_at_call 23; refine HA.out.mono ?_; rintro e w9 ⟨rfl, hx9, ht9⟩; clear HA)
          go_roundg (gk - 1)
          case measure => omega
          case rel => exact ⟨k + 1, _, by omega, by simp, hx9, HI.out.1, by have := HI.out.2.1; (try simp only at this); omega, by have := HI.out.2.2; (try simp only at this); omega, Turn.base hnx7 ht9 hgB hmB hsz⟩
    · have hk' : decide (k < ops.length) = false := decide_eq_false hk
      have HFI := Lib.hid (find_walk g m l n name wr (hG.below' hnx) hx hn (by omega))
      go_wp2_with (go_at_call 29; refine HFI.out.mono ?_; rintro e w4 ⟨⟨v4, ws, rfl, hfd, hown⟩, hb4⟩; clear HFI)
      have hnx4 := hnx.trans (hb4.mono hnx.size)
      have hx4 := hx.below hb4
      have hwl := hfd.1
      have hwn : ws.length < 4611686018427387904 := by have := find_len hfd; omega
      obtain ⟨bd, bap, rfl, hbd⟩ := RowRd.of_own hown (by rw [flat_len (enc := wantE) (k := 2) (fun _ => rfl)]) (by decide)
      have HBD := Lib.hid hbd; clear hbd hown
      have HW := Lib.hid hwl; clear hwl
      go_loopg [10] ws.length (fun gk i wx => ∃ k : Nat, k + gk = ws.length ∧ i = .int .i64 k ∧ wx.heap = w4.heap ∧ Below w4.heap.size w4 wx)
      case atStart => exact ⟨0, by omega, rfl, rfl, Below.refl _ _⟩
      case round =>
        obtain ⟨q, hqg, rfl, hhp, hbw⟩ := hrel
        by_cases hq : q < ws.length
        · have hq' : decide (q < ws.length) = true := decide_eq_true hq
          by_cases hq0 : q = 0
          · subst hq0
            have P2 : decide ((0 : Int) < 0) = false := by decide
            go_wp2
            go_quiet (fail)
            go_wp2
            go_roundg (gk - 1)
            case measure => omega
            case rel => exact ⟨1, by omega, by simp, hhp, Go.below_drewN hbw _⟩
          · obtain ⟨pm, hpm⟩ : ∃ pm, pm + 1 = q := ⟨q - 1, by omega⟩
            have P1 : wrap64 ((q : Int) - 1) = (q : Int) - 1 := by unfold wrap64; omega
            subst hpm
            obtain ⟨W, hW⟩ : ∃ W, W = wr := ⟨_, rfl⟩
            have hpl : pm < ws.length := by omega
            obtain ⟨g2, o2, rfl, hg2, hc2⟩ := HBD.out (by omega)
            obtain ⟨⟨a1, a2⟩, ha⟩ : ∃ x, ws[pm + 1]'hq = x := ⟨_, rfl⟩
            obtain ⟨⟨b1, b2⟩, hb⟩ : ∃ x, ws[pm]'hpl = x := ⟨_, rfl⟩
            obtain ⟨f0, _⟩ := flat2 (enc := wantE) (fun _ => rfl) ws (pm + 1) hq ha (by rfl)
            obtain ⟨f2, _⟩ := flat2 (enc := wantE) (fun _ => rfl) ws pm hpl hb (by rfl)
            have c0 : ∀ n, (wr.drewN n).cell? ⟨g2, o2 + (pm + 1) * 2, none⟩ = some (.string a1) := fun _ => (cell_congr (a := ⟨g2, o2 + (pm + 1) * 2, none⟩) (congrArg (·[g2]?) hhp)).trans (hc2 _ _ f0)
            have c2 : ∀ n, (wr.drewN n).cell? ⟨g2, o2 + pm * 2, none⟩ = some (.string b1) := fun _ => (cell_congr (a := ⟨g2, o2 + pm * 2, none⟩) (congrArg (·[g2]?) hhp)).trans (hc2 _ _ f2)
            have hlt := List.pairwise_iff_getElem.1 HW.out pm (pm + 1) hpl hq (by omega)
            rw [ha, hb] at hlt
            have T1 : Op.bytesLess a1.toList b1.toList = false := blt_asymm hlt
            have T2 : (a1.toList == b1.toList) = false := by rw [str_eq_iff]; exact decide_eq_false (fun e => by rw [e, blt_irrefl] at hlt; cases hlt)
            clear hlt
            have hqb : (pm : Int) + 1 < 4611686018427387904 := by omega
            have P1 : wrap64 ((pm : Int) + 1 - 1) = (pm : Int) := by unfold wrap64; omega
            have I1 : (pm : Int) + 1 < (ws.length : Int) := by omega
            have I2 : (pm : Int) < (ws.length : Int) := by omega
            have N1 : ((pm : Int) + 1).toNat = pm + 1 := by omega
            clear f0 f2 hc2 ha hb hq0 hW
            go_wp2
            go_quiet (fail)
            go_wp2
            go_roundg (gk - 1)
            case measure => omega
            case rel => exact ⟨pm + 1 + 1, by omega, by simp, hhp, Go.below_drewN hbw _⟩
        · have hq' : decide (q < ws.length) = false := decide_eq_false hq
          clear hq
          go_wp2
          go_loopg [11] ops.length (fun gk i wx => ∃ k : Nat, k + gk = ops.length ∧ i = .int .i64 k ∧ Below w4.heap.size w4 wx)
          case atStart => exact ⟨0, by omega, rfl, hbw⟩
          case round =>
            obtain ⟨p, hpg, rfl, hbp⟩ := hrel
            by_cases hp : p < ops.length
            · have hp' : decide (p < ops.length) = true := decide_eq_true hp
              have hnxp := hnx4.trans (hbp.mono hnx4.size)
              have hxp := hx4.below hbp
              obtain ⟨g1, o1, rfl, hg1, hc1⟩ := HAD.out (by omega)
              obtain ⟨⟨oc, ol, ot, oq⟩, hxk⟩ : ∃ x, ops[p]'hp = x := ⟨_, rfl⟩
              obtain ⟨_, f1, _, _⟩ := flat4 ops p hp hxk
              have c1 : wr.cell? ⟨g1, o1 + (p * 4 + 1), none⟩ = some (.string ol) := by rw [hnxp.cell (p := ⟨g1, o1 + (p * 4 + 1), none⟩) hg1]; exact hc1 _ _ f1
              simp only [← Nat.add_assoc] at c1
              have HOF := Lib.hid (of_walk g m l n ol wr hxp (by omega) hI.srt)
              have HP1 := Lib.hid f1
              clear hxk f1
              go_wp2_with (go_at_call 24; refine HOF.out.mono ?_; rintro e w5 ⟨⟨v5, rfl, hown5⟩, hb5⟩; clear HOF)
              have hnx5 := hnxp.trans (hb5.mono hnxp.size)
              have hol : ∀ x ∈ ofL l ol, filterF x.1 = true := by
                intro x hx'
                unfold ofL at hx'
                obtain ⟨y, hy, rfl⟩ := List.mem_map.1 hx'
                exact (hI.fl y (List.mem_filter.1 hy).1).1
              have hon : (ofL l ol).length ≤ 65536 := by
                have : (ofL l ol).length ≤ l.length := by unfold ofL; rw [List.length_map]; exact List.length_filter_le _ _
                omega
              have HBF := Lib.hid (best_found hI hfd ol)
              obtain ⟨own, hown⟩ : ∃ own, own = ofL l ol := ⟨_, rfl⟩
              rw [← hown] at hown5 hol hon HBF
              clear hown
              obtain ⟨od, oap, rfl, hod⟩ := RowRd.of_own hown5 (by rw [flat_len (enc := subE) (k := 2) (fun _ => rfl)]) (by decide)
              have HOD := Lib.hid hod; clear hod hown5
              have HOL := Lib.hid hol; clear hol
              go_loopg [14, 15] own.length (fun gk b i wx => ∃ k : Nat, k + gk = own.length ∧ i = .int .i64 k ∧ b = .int .i64 (bestOf (own.take k) name) ∧ Below w5.heap.size w5 wx)
              case atStart => exact ⟨0, by omega, rfl, rfl, Below.refl _ _⟩
              case round =>
                obtain ⟨t, htg, rfl, rfl, hbt⟩ := hrel
                by_cases ht : t < own.length
                · have ht' : decide (t < own.length) = true := decide_eq_true ht
                  obtain ⟨g3, o3, rfl, hg3, hc3⟩ := HOD.out (by omega)
                  obtain ⟨⟨ff, fq⟩, hfx⟩ : ∃ x, own[t]'ht = x := ⟨_, rfl⟩
                  obtain ⟨e0, e1⟩ := flat2 (enc := subE) (fun _ => rfl) own t ht hfx (by rfl)
                  have hff : filterF ff = true := by have := HOL.out _ (List.getElem_mem ht); rw [hfx] at this; exact this
                  have z0 : wr.cell? ⟨g3, o3 + t * 2, none⟩ = some (.string ff) := by rw [hbt.cell (p := ⟨g3, o3 + t * 2, none⟩) hg3]; exact hc3 _ _ e0
                  have HTK := Lib.hid (takes_ref ff name hff hn wr)
                  have hmt : (matchF ff name).1 = takesF ff name := by unfold matchF; rw [if_pos hff, if_pos hn]
                  have hbs : bestOf (own.take (t + 1)) name = if (matchF ff name).1 = true then max (bestOf (own.take t) name) fq else bestOf (own.take t) name := by
                    unfold bestOf; rw [List.take_succ_eq_append_getElem ht, List.foldl_append, hfx]; rfl
                  rw [hmt] at hbs
                  have HBS := Lib.hid hbs
                  generalize bestOf (own.take t) name = bb at *
                  clear hbs hmt hff
                  cases htk : takesF ff name
                  · rw [htk] at HTK HBS
                    clear htk
                    go_wp2_with (go_at_call 32; refine HTK.out.mono ?_; rintro e w6 ⟨rfl, hb6⟩; clear HTK)
                    go_roundg (gk - 1)
                    case measure => omega
                    case rel => exact ⟨t + 1, by omega, by simp, by rw [HBS.out]; rfl, hbt.trans (hb6.mono hbt.size)⟩
                  · rw [htk] at HTK HBS
                    clear htk
                    have z1 : ∀ w6, Below wr.heap.size wr w6 → w6.cell? ⟨g3, o3 + t * 2 + 1, none⟩ = some (.int .i64 fq) := fun w6 h6 => by rw [(hbt.trans (h6.mono hbt.size)).cell (p := ⟨g3, o3 + t * 2 + 1, none⟩) hg3]; exact hc3 _ _ e1
                    have Z1 := Lib.hid z1; clear z1
                    go_wp2_with (go_at_call 32; refine HTK.out.mono ?_; rintro e w6 ⟨rfl, hb6⟩; have z2 := Z1.out w6 hb6; clear HTK)
                    go_roundg (gk - 1)
                    case measure => omega
                    case rel => exact ⟨t + 1, by omega, by simp, by rw [HBS.out]; simp, hbt.trans (hb6.mono hbt.size)⟩
                · have ht' : decide (t < own.length) = false := decide_eq_false ht
                  have htl : own.take t = own := List.take_of_length_le (by omega)
                  rw [htl, HBF.out]
                  clear ht
                  have hb4t : Below w4.heap.size w4 wr := (hbp.trans (hb5.mono hbp.size)).trans (hbt.mono (Nat.le_trans hbp.size hb5.size))
                  have hnxt := hnx4.trans (hb4t.mono hnx4.size)
                  have HC1 := Lib.hid hc1
                  obtain ⟨fo, hfo⟩ : ∃ fo, fo = foundOf ws ol := ⟨_, rfl⟩
                  rw [← hfo]
                  have HFO := Lib.hid hfo; clear hfo hc1
                  go_wp2
                  go_loopg [16, 17] ws.length (fun gk b i wx => ∃ k : Nat, k + gk = ws.length ∧ i = .int .i64 k ∧ b = .int .i64 (foundOf (ws.take k) ol) ∧ Below w4.heap.size w4 wx)
                  case atStart => exact ⟨0, by omega, rfl, rfl, hb4t⟩
                  case round =>
                    obtain ⟨y, hyg, rfl, rfl, hby⟩ := hrel
                    by_cases hy : y < ws.length
                    · have hy' : decide (y < ws.length) = true := decide_eq_true hy
                      obtain ⟨g2, o2, rfl, hg2, hc2⟩ := HBD.out (by omega)
                      obtain ⟨⟨wa, wq⟩, hwx⟩ : ∃ x, ws[y]'hy = x := ⟨_, rfl⟩
                      obtain ⟨e0, e1⟩ := flat2 (enc := wantE) (fun _ => rfl) ws y hy hwx (by rfl)
                      have hnxy := hnx4.trans (hby.mono hnx4.size)
                      have z0 : ∀ n, (wr.drewN n).cell? ⟨g2, o2 + y * 2, none⟩ = some (.string wa) := fun _ => (hby.cell (p := ⟨g2, o2 + y * 2, none⟩) hg2).trans (hc2 _ _ e0)
                      have z1 : ∀ n, (wr.drewN n).cell? ⟨g2, o2 + y * 2 + 1, none⟩ = some (.int .i64 wq) := fun _ => (hby.cell (p := ⟨g2, o2 + y * 2 + 1, none⟩) hg2).trans (hc2 _ _ e1)
                      have z2 : ∀ n, (wr.drewN n).cell? ⟨g1, o1 + (p * 4 + 1), none⟩ = some (.string ol) := fun _ => (hnxy.cell (p := ⟨g1, o1 + (p * 4 + 1), none⟩) hg1).trans (HC1.out _ _ HP1.out)
                      simp only [← Nat.add_assoc] at z2
                      have hfs : foundOf (ws.take (y + 1)) ol = if wa = ol then wq else foundOf (ws.take y) ol := by
                        unfold foundOf; rw [List.take_succ_eq_append_getElem hy, List.foldl_append, hwx]; rfl
                      have HFS := Lib.hid hfs
                      generalize foundOf (ws.take y) ol = bb at *
                      clear hfs e0 e1 hc2 hwx
                      by_cases hwo : wa = ol
                      · have T1 : (wa.toList == ol.toList) = true := by rw [str_eq_iff]; exact decide_eq_true hwo
                        have hq1 : foundOf (ws.take (y + 1)) ol = wq := by rw [HFS.out, if_pos hwo]
                        have HQ1 := Lib.hid hq1
                        clear hwo hq1
                        go_wp2
                        go_quiet (fail)
                        go_wp2
                        go_roundg (gk - 1)
                        case measure => omega
                        case rel => exact ⟨y + 1, by omega, by simp, by rw [HQ1.out], Go.below_drewN hby _⟩
                      · have T1 : (wa.toList == ol.toList) = false := by rw [str_eq_iff]; exact decide_eq_false hwo
                        have hq1 : foundOf (ws.take (y + 1)) ol = bb := by rw [HFS.out, if_neg hwo]
                        have HQ1 := Lib.hid hq1
                        clear hwo hq1
                        go_wp2
                        go_quiet (fail)
                        go_wp2
                        go_roundg (gk - 1)
                        case measure => omega
                        case rel => exact ⟨y + 1, by omega, by simp, by rw [HQ1.out], Go.below_drewN hby _⟩
                    · have hy' : decide (y < ws.length) = false := decide_eq_false hy
                      have hyl : ws.take y = ws := List.take_of_length_le (by omega)
                      rw [hyl, ← HFO.out]
                      clear hy
                      go_wp2
                      go_roundg (ops.length - (p + 1))
                      case measure => omega
                      case rel => exact ⟨p + 1, by omega, by simp, hby⟩
            · have hp' : decide (p < ops.length) = false := decide_eq_false hp
              have hnxp := hnx4.trans (hbp.mono hnx4.size)
              have HAW := Lib.hid (awake13 _ (hG.below' hnxp))
              clear hp
              go_wp2_with (go_at_call 26; refine HAW.out.mono ?_; rintro e w9 ⟨rfl, hb9⟩; clear HAW)
              go_ret
              exact ⟨rfl, hnxp.trans (hb9.mono hnxp.size)⟩

end Go.Proofs.YtaaaifeommdblaaDoor
