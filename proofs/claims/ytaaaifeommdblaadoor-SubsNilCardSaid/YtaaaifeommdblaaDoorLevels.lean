/- topic.levels and its iterator. -/
import Derived.Test.YtaaaifeommdblaaDoorRange
namespace Go.Proofs.YtaaaifeommdblaaDoor
open Go.RowKit Go.Shelf
attribute [local go_sem] Oper.semAt_some

def strLen (w : World) (b : Nat) : Nat := match w.cell? ⟨b, 0, none⟩ with | some (.string t) => t.size | _ => 0
theorem strLen_eq {w : World} {b : Nat} {t : ByteArray} (h : w.cell? ⟨b, 0, none⟩ = some (.string t)) : strLen w b = t.size := by
  unfold strLen; rw [h]

set_option maxHeartbeats 1000000 in
set_option maxRecDepth 100000 in
theorem levels_seq (b : Nat) (ls : List UInt8) (w : World) (hls : ls.length < 4294967281) (hb : b < w.heap.size) (hc : w.cell? ⟨b, 0, none⟩ = some (.string ⟨ls.toArray⟩)) (hf : w.frozen? ⟨b, 0, none⟩ = false) :
    LevSeq 72 b ls w := by
  intro l J Jx W hW hJd hJs hJg hY h0
  have HJd := Lib.hid hJd; have HJs := Lib.hid hJs; have HJg := Lib.hid hJg; have HY := Lib.hid hY
  clear hJd hJs hJg hY
  obtain ⟨hcW, hfW⟩ := bcell hW
  have hc' := (hcW b 0 hb).trans hc
  have hf' := (hfW b 0 hb).trans hf
  clear hcW hfW
  refine callsIn_of_wp Tryd.func72 rfl trivial ?_ rfl
  simp only [Tryd.ntmps72, List.size_toArray, List.length_cons, List.length_nil, Nat.reduceAdd, Nat.reduceSub, Array.replicate_succ, Array.replicate_zero, List.push_toArray, List.append_toArray, List.nil_append, List.cons_append]
  gi_wp2
  gi_loopw [3, 4, 5] (fun _ _ _ wr => ∃ (pre : List (ByteArray × Bool)) (t : List UInt8), levs ls = pre ++ levs t ∧ t.length ≤ ls.length ∧ wr.cell? ⟨b, 0, none⟩ = some (.string ⟨t.toArray⟩) ∧ wr.frozen? ⟨b, 0, none⟩ = false ∧ J pre wr)
    (fun _ _ _ wr => strLen wr b)
  case atStart => exact ⟨[], ls, rfl, Nat.le_refl _, hc', hf', h0⟩
  case round =>
    obtain ⟨pre, t, hpre, hlen, hct, hft, hJ⟩ := hrel
    obtain ⟨m, hm⟩ := (HJg.out _ _ hJ).maxl
    have hcut := Tryd.strings_Cut ⟨t.toArray⟩ ⟨#[47]⟩ m wr (by show t.toArray.size < _; simp; omega) hm
    simp only at hcut
    rw [cut_eq] at hcut
    have hlt := cut47_lt t
    have hl1 := levs_last t
    have hl2 := levs_more t
    generalize cut47 t = d at *
    obtain ⟨x, y, f⟩ := d
    simp only at *
    have HC := Lib.hid hcut; clear hcut
    have HL := Lib.hid hlt; have HP := Lib.hid hpre; have H1 := Lib.hid hl1; have H2 := Lib.hid hl2; clear hlt hpre hl1 hl2 hm
    cases f
    · have e1 : levs t = [(⟨x.toArray⟩, true)] := H1.out rfl
      have hpre : levs ls = pre ++ [(⟨x.toArray⟩, true)] := by rw [HP.out, e1]
      have HPx : Hid (pre ++ [((⟨x.toArray⟩ : ByteArray), true)] <+: levs ls) := Lib.hid (by rw [hpre]; exact List.prefix_refl _)
      have HP := Lib.hid hpre; clear hpre e1
      gi_wp2_with (refine ⟨trivial, ?_⟩; gi_at_call 55; refine (callsIn_wide.2 HC.out).mono ?_; rintro e w' ⟨rfl, n, rfl⟩; obtain ⟨fn, tmps, assign, body, hy, hR⟩ := HY.out pre (⟨x.toArray⟩, true) _ HPx.out (HJd.out _ _ n hJ))
      refine hR.mono ?_
      rintro e W3 (⟨rfl, hJ3, hk3⟩ | ⟨rfl, hJx3⟩)
      · gi_wp2
        refine bodyPost_ret (results_none rfl _ _ _) rfl ?_
        exact ⟨⟨_, rfl⟩, .inl (by rw [HP.out]; exact hJ3)⟩
      · gi_wp2
        refine bodyPost_ret (results_none rfl _ _ _) rfl ?_
        exact ⟨⟨_, rfl⟩, .inr ⟨_, by rw [HP.out]; exact List.prefix_refl _, hJx3⟩⟩
    · have e1 : levs t = (⟨x.toArray⟩, false) :: levs y := H2.out rfl
      have hpre : levs ls = (pre ++ [(⟨x.toArray⟩, false)]) ++ levs y := by rw [HP.out, e1]; simp
      have hyt : y.length < t.length := HL.out rfl
      have HPx : Hid (pre ++ [((⟨x.toArray⟩ : ByteArray), false)] <+: levs ls) := Lib.hid (by rw [hpre]; exact List.prefix_append _ _)
      have HP := Lib.hid hpre; clear hpre e1
      gi_wp2_with (refine ⟨trivial, ?_⟩; gi_at_call 55; refine (callsIn_wide.2 HC.out).mono ?_; rintro e w' ⟨rfl, n, rfl⟩; obtain ⟨fn, tmps, assign, body, hy, hR⟩ := HY.out pre (⟨x.toArray⟩, false) _ HPx.out (HJd.out _ _ n hJ))
      refine hR.mono ?_
      rintro e W3 (⟨rfl, hJ3, hk3⟩ | ⟨rfl, hJx3⟩)
      · have hc3 : W3.cell? ⟨b, 0, none⟩ = some (.string ⟨t.toArray⟩) := (cell_congr (a := ⟨b, 0, none⟩) hk3).trans hct
        have hf3 : W3.frozen? ⟨b, 0, none⟩ = false := (frozen_congr (a := ⟨b, 0, none⟩) hk3).trans hft
        have hJ4 := HJs.out _ _ (.string ⟨y.toArray⟩) hJ3
        clear hk3
        gi_wp2
        go_roundw
        case rel => exact ⟨pre ++ [(⟨x.toArray⟩, false)], y, HP.out, by omega, World.cell?_setCell_same' _ _ _ (by rw [hc3]; rfl), by rw [World.frozen?_setCell]; exact hf3, hJ4⟩
        case measure =>
          rw [strLen_eq hct, strLen_eq (World.cell?_setCell_same' _ _ _ (by rw [hc3]; rfl))]
          show y.toArray.size < t.toArray.size
          simp; exact hyt
      · gi_wp2
        refine bodyPost_ret (results_none rfl _ _ _) rfl ?_
        exact ⟨⟨_, rfl⟩, .inr ⟨_, by rw [HP.out]; exact List.prefix_append _ _, hJx3⟩⟩

theorem levels_walk (s : ByteArray) (w : World) : Calls Tryd.prog 53 #[.string s] w fun e w' =>
    e = .returned (.func (.func 72) #[] #[.pointer (some ⟨w.heap.size, 0, none⟩)]) ∧ w.alloc (.cells #[.string s] 9) = w' := by
  have hmf : ∀ (fn : Fn) (first cap : Array Value) (w : World), (Instr.makeFunc fn first cap).run Tryd.prog w = .ok (.func fn first cap) w := fun _ _ _ _ => rfl
  go_enter Tryd.func53, Tryd.ntmps53
  go_wp2
  go_ret
  exact ⟨rfl, rfl⟩

end Go.Proofs.YtaaaifeommdblaaDoor
