/- The maps of subs: their keys, their values. -/
import Derived.Test.YtaaaifeommdblaaDoorMapKeys
namespace Go.Proofs.YtaaaifeommdblaaDoor
open Go.RowKit Go.Proofs.YtaaaifeommdblaaDoorW.PrintWords

def keyV (k : ByteArray × ByteArray) : Value := .agg #[.string k.1, .string k.2]
def entV (e : Int × Int) : Value := .agg #[.int .i64 e.1, .int .i64 e.2]

theorem eqKey (d : Nat) (w : World) (x0 y0 x1 y1 : ByteArray) :
    (Op.equalIn (d + 2) 86 (.agg #[.string x0, .string x1]) (.agg #[.string y0, .string y1])).run Tryd.prog w = .ok (x0.toList == y0.toList && (x1.toList == y1.toList)) w := by
  refine eqA_of Tryd.underlying86 (by kernel_rfl) ?_
  refine eqf_cons (by rfl) (by go_simp; rfl) (by go_simp; rfl) (by go_simp) ?_
  exact eqf_last (by rfl) (by go_simp; rfl) (by go_simp; rfl) (by go_simp)

theorem str_eq_iff {a b : ByteArray} : (a.toList == b.toList) = decide (a = b) := by
  rw [Bool.eq_iff_iff]
  simp only [beq_iff_eq, decide_eq_true_eq]
  rw [Lib.toList_data, Lib.toList_data]
  constructor
  · intro h
    cases a; cases b; simp at h; rw [h]
  · rintro rfl; rfl

theorem sameBits_pair (n : Nat) (a b : ByteArray) : Instr.sameBits (n + 1) (keyV (a, b)) (keyV (a, b)) = true := by
  simp [Instr.sameBits, keyV, beq_str]

theorem subKeys : KeyOps Tryd.prog 86 keyV := by
  refine agg_keys Tryd.underlying86 ?_ (fun _ _ => rfl) ?_ ?_ ?_
  · rintro ⟨a, b⟩ ⟨c, d⟩ h
    simp [keyV] at h
    simp [h]
  · rintro w em ⟨a, b⟩
    rw [show (10000 : Nat) = 9998 + 1 + 1 from rfl]
    unfold Instr.checkKey keyV
    have p0 : Sem.run Tryd.prog (part 9 #[Value.string a, Value.string b] 0) w = .ok (.string a) w := by go_simp
    have p1 : Sem.run Tryd.prog (part 9 #[Value.string a, Value.string b] 1) w = .ok (.string b) w := by go_simp
    simp [Sem.run_bind, run_underlying Tryd.underlying86, Result.andThen, p0, p1, check_string Tryd.underlying9 w em 9998]
  · rintro w ⟨a, b⟩ ⟨c, d⟩
    have h := eqKey 9998 w a c b d
    have h2 : (Op.equal 86 (keyV (a, b)) (keyV (c, d))).run Tryd.prog w = .ok (a.toList == c.toList && (b.toList == d.toList)) w := h
    have e : (decide (a = c) && decide (b = d)) = decide ((a, b) = (c, d)) := by rw [Bool.eq_iff_iff]; simp
    rw [h2, str_eq_iff, str_eq_iff, e]
  · rintro n ⟨a, b⟩
    exact sameBits_pair n a b

theorem strKeys : KeyOps Tryd.prog 9 (fun s : ByteArray => Value.string s) := str_keys Tryd.underlying9

theorem zeroEnt (w : World) : (zeroValue 88).run Tryd.prog w = .ok (entV (0, 0)) w := by kernel_rfl
theorem zeroInt (w : World) : (zeroValue 3).run Tryd.prog w = .ok (.int .i64 0) w := by kernel_rfl

end Go.Proofs.YtaaaifeommdblaaDoor
