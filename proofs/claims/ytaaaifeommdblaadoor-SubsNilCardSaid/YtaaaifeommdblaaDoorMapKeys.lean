/- Keys of maps: strings; pairs of strings. -/
import Derived.Test.YtaaaifeommdblaaDoorMapRange
import Derived.Test.YtaaaifeommdblaaDoorWEqStruct
namespace Go.Proofs.YtaaaifeommdblaaDoor
open Go.RowKit

section
variable {P : Program}

theorem beq_str (a b : ByteArray) : (a == b) = decide (a = b) := by
  cases a with | mk a =>
  cases b with | mk b =>
  have h : ((⟨a⟩ : ByteArray) == ⟨b⟩) = (a == b) := rfl
  rw [h]
  simp only [ByteArray.mk.injEq]
  rw [Bool.eq_iff_iff]; simp

theorem same_str (a b : ByteArray) : (Instr.sameNow .string (.string a) (.string b)) = some (decide (a = b)) := congrArg some (beq_str a b)

theorem check_string {kt : TypeId} (hk : P.underlying kt = some .string) (w : World) (em : Bool) (n : Nat) (s : ByteArray) : (Instr.checkKey em (n + 1) kt (.string s)).run P w = .ok () w := by
  unfold Instr.checkKey
  simp [Sem.run_bind, run_underlying hk, Result.andThen]

theorem str_keys {kt : TypeId} (hk : P.underlying kt = some .string) : KeyOps P kt (fun s : ByteArray => Value.string s) where
  inj a b h := by injection h
  check w em k := by
    rw [show (10000 : Nat) = 9999 + 1 from rfl]
    unfold Instr.checkKey
    simp [Sem.run_bind, run_underlying hk, Result.andThen]
  none w k es ks hes hn := by
    have h : ∀ (es : List MapEntry) (ks : List ByteArray) (i : Nat), es.map (·.key) = ks.map (fun s => Value.string s) → k ∉ ks → Instr.findNow .string (.string k) es i = some Option.none := by
      intro es
      induction es with
      | nil => intro ks i _ _; rfl
      | cons e es ih =>
        intro ks i he hn
        cases ks with
        | nil => simp at he
        | cons s ks =>
          simp only [List.map_cons, List.cons.injEq] at he
          simp only [List.mem_cons, not_or] at hn
          unfold Instr.findNow
          rw [he.1, same_str]
          rw [decide_eq_false hn.1]
          exact ih ks (i + 1) he.2 hn.2
    simp [Instr.findKey, Sem.run_bind, run_underlying hk, Result.andThen, h es ks 0 hes hn]
  some w k es ks hes hin := by
    have h : ∀ (es : List MapEntry) (ks : List ByteArray) (i : Nat), es.map (·.key) = ks.map (fun s => Value.string s) → k ∈ ks →
        ∃ j e, Instr.findNow .string (.string k) es i = some (Option.some (i + j, e.val)) ∧ es[j]? = some e ∧ ks[j]? = some k := by
      intro es
      induction es with
      | nil => intro ks i he hin; cases ks <;> simp at he hin
      | cons e es ih =>
        intro ks i he hin
        cases ks with
        | nil => simp at hin
        | cons s ks =>
          simp only [List.map_cons, List.cons.injEq] at he
          by_cases hs : k = s
          · subst hs
            refine ⟨0, e, ?_, rfl, rfl⟩
            unfold Instr.findNow
            rw [he.1, same_str]
            simp
          · have hin' : k ∈ ks := by simpa [hs] using hin
            obtain ⟨j, e', h1, h2, h3⟩ := ih ks (i + 1) he.2 hin'
            refine ⟨j + 1, e', ?_, by simpa using h2, by simpa using h3⟩
            unfold Instr.findNow
            rw [he.1, same_str]
            rw [decide_eq_false hs]
            simp only
            rw [h1]
            congr 3
            omega
    obtain ⟨j, e, h1, h2, h3⟩ := h es ks 0 hes hin
    refine ⟨j, e, ?_, h2, h3⟩
    simp [Instr.findKey, Sem.run_bind, run_underlying hk, Result.andThen, h1]
  stays w k := by
    have : Instr.sameBits 10000 (.string k) (.string k) = true := by
      unfold Instr.sameBits
      rw [beq_str]; simp
    simp [Instr.keyThatStays, this]

/-- Keys whose sameness is asked of the type: structs. -/
theorem agg_keys {κ : Type} [DecidableEq κ] {kt : TypeId} {d : TypeDesc} {ek : κ → Value} (hk : P.underlying kt = some d) (hinj : ∀ a b, ek a = ek b → a = b)
    (hnow : ∀ a b, Instr.sameNow d (ek a) (ek b) = none) (hcheck : ∀ w em k, (Instr.checkKey em 10000 kt (ek k)).run P w = .ok () w)
    (heq : ∀ w a b, (Op.equal kt (ek a) (ek b)).run P w = .ok (decide (a = b)) w) (hstay : ∀ n k, Instr.sameBits (n + 1) (ek k) (ek k) = true) : KeyOps P kt ek where
  inj := hinj
  check := hcheck
  none w k es ks hes hn := by
    have h : ∀ (es : List MapEntry) (ks : List κ) (i : Nat), es.map (·.key) = ks.map ek → k ∉ ks → (Instr.findAsking kt (ek k) es i).run P w = .ok Option.none w := by
      intro es
      induction es with
      | nil => intro ks i _ _; rfl
      | cons e es ih =>
        intro ks i he hn
        cases ks with
        | nil => simp at he
        | cons s ks =>
          simp only [List.map_cons, List.cons.injEq] at he
          simp only [List.mem_cons, not_or] at hn
          unfold Instr.findAsking
          rw [he.1]
          simp [Sem.run_bind, heq, Result.andThen, hn.1, ih ks (i + 1) he.2 hn.2]
    cases es with
    | nil => simp [Instr.findKey, run_underlying hk, Result.andThen, Instr.findNow]
    | cons e es =>
      cases ks with
      | nil => simp at hes
      | cons s ks =>
        have hf : Instr.findNow d (ek k) (e :: es) 0 = none := by
          simp only [List.map_cons, List.cons.injEq] at hes
          unfold Instr.findNow; rw [hes.1, hnow]
        simp [Instr.findKey, Sem.run_bind, run_underlying hk, Result.andThen, hf, h (e :: es) (s :: ks) 0 hes hn]
  some w k es ks hes hin := by
    have h : ∀ (es : List MapEntry) (ks : List κ) (i : Nat), es.map (·.key) = ks.map ek → k ∈ ks →
        ∃ j e, (Instr.findAsking kt (ek k) es i).run P w = .ok (Option.some (i + j, e.val)) w ∧ es[j]? = some e ∧ ks[j]? = some k := by
      intro es
      induction es with
      | nil => intro ks i he hin; cases ks <;> simp at he hin
      | cons e es ih =>
        intro ks i he hin
        cases ks with
        | nil => simp at hin
        | cons s ks =>
          simp only [List.map_cons, List.cons.injEq] at he
          by_cases hs : k = s
          · subst hs
            refine ⟨0, e, ?_, rfl, rfl⟩
            unfold Instr.findAsking
            rw [he.1]
            simp [Sem.run_bind, heq, Result.andThen]
          · have hin' : k ∈ ks := by simpa [hs] using hin
            obtain ⟨j, e', h1, h2, h3⟩ := ih ks (i + 1) he.2 hin'
            refine ⟨j + 1, e', ?_, by simpa using h2, by simpa using h3⟩
            unfold Instr.findAsking
            rw [he.1]
            simp [Sem.run_bind, heq, Result.andThen, hs, h1]
            omega
    cases es with
    | nil => cases ks <;> simp at hes hin
    | cons e es =>
      cases ks with
      | nil => simp at hin
      | cons s ks =>
        have hf : Instr.findNow d (ek k) (e :: es) 0 = none := by
          have hes' := hes
          simp only [List.map_cons, List.cons.injEq] at hes'
          unfold Instr.findNow; rw [hes'.1, hnow]
        obtain ⟨j, e', h1, h2, h3⟩ := h (e :: es) (s :: ks) 0 hes hin
        refine ⟨j, e', ?_, h2, h3⟩
        simp [Instr.findKey, Sem.run_bind, run_underlying hk, Result.andThen, hf, h1]
  stays w k := by
    have h := hstay 9999 k
    simp only [Nat.reduceAdd] at h
    simp only [Instr.keyThatStays, h, if_true]
    rfl

end
end Go.Proofs.YtaaaifeommdblaaDoor
