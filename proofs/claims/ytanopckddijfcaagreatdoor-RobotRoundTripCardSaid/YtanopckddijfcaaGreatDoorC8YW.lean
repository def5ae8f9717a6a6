/- A part of the proof that the text with the row names: printed readings of functions, or plain lemmas about them. -/
import Derived.Test.YtanopckddijfcaaGreatDoorC8YM4
import Derived.Test.YtanopckddijfcaaGreatDoorC8YF
set_option linter.unusedVariables false
set_option linter.unusedSimpArgs false
namespace Go.Abs
open Go Go.Proofs
/-! ### What Write writes -/
abbrev ST := Int × (ByteArray × List ByteArray)
def St0 : ST := (0, (⟨#[]⟩, []))
def jointB : ByteArray := ⟨#[106, 111, 105, 110, 116]⟩
def limitB : ByteArray := ⟨#[108, 105, 109, 105, 116]⟩
def massB : ByteArray := ⟨#[109, 97, 115, 115]⟩
def kindN : List ByteArray := [⟨#[102, 105, 120, 101, 100]⟩, ⟨#[116, 117, 114, 110, 120]⟩, ⟨#[116, 117, 114, 110, 121]⟩, ⟨#[116, 117, 114, 110, 122]⟩, ⟨#[115, 108, 105, 100, 101, 120]⟩, ⟨#[115, 108, 105, 100, 101, 121]⟩, ⟨#[115, 108, 105, 100, 101, 122]⟩]
def fm (v : Int) : ByteArray := ofB (fmtI v)
def dm (v : Int) : ByteArray := ofB (Lib.decDigits v.toNat)
def parN (js : List JT) (p : Int) : ByteArray := if p = -1 then worldB else (js.getD p.toNat J0).1
def jArgs (js : List JT) (j : JT) : List ByteArray :=
  [j.1, kindN.getD j.2.1.toNat ⟨#[]⟩, parN js j.2.2.1, fm j.2.2.2.1.1, fm j.2.2.2.1.2.1, fm j.2.2.2.1.2.2, fm j.2.2.2.2.1, fm j.2.2.2.2.2.1, dm j.2.2.2.2.2.2.1]
def lArgs (j : JT) : List ByteArray := [j.1, dm j.2.2.2.2.2.2.2.1, dm j.2.2.2.2.2.2.2.2.1, dm j.2.2.2.2.2.2.2.2.2]
def mArgs (js : List JT) (m : MT) : List ByteArray := [(js.getD m.1.toNat J0).1, fm m.2.1, fm m.2.2.1, fm m.2.2.2.1, fm m.2.2.2.2]
def put (w : ByteArray) (a : List ByteArray) (out : List ST) : List ST := out ++ [((out.length : Int) + 1, (w, a))]
def outJ (js : List JT) : Nat → List ST
  | 0 => []
  | i + 1 => put limitB (lArgs (js.getD i J0)) (put jointB (jArgs js (js.getD i J0)) (outJ js i))
def outM (js : List JT) (ms : List MT) : Nat → List ST
  | 0 => outJ js js.length
  | k + 1 => put massB (mArgs js (ms.getD k M0)) (outM js ms k)
theorem put_len (w : ByteArray) (a : List ByteArray) (out : List ST) : (put w a out).length = out.length + 1 := by
  unfold put
  rw [List.length_append, List.length_cons, List.length_nil]
theorem outJ_len (js : List JT) : ∀ i, (outJ js i).length = 2 * i
  | 0 => rfl
  | i + 1 => by
    simp only [outJ, put_len]
    rw [outJ_len js i]
    omega
theorem outM_len (js : List JT) (ms : List MT) : ∀ k, (outM js ms k).length = 2 * js.length + k
  | 0 => by simp only [outM]; rw [outJ_len]; rfl
  | k + 1 => by
    simp only [outM, put_len]
    rw [outM_len js ms k]
    omega
theorem put_val {w : ByteArray} {a : List ByteArray} {out : List ST} (h : out.length ≤ 100) : robot_Write_1.F w a out = some (put w a out) := by
  rw [robot_Write_1.F_eq]
  unfold robot_Write_1.F0 put
  simp only [List.length_cons, List.length_nil]
  simp (disch := omega) only [dif_dec, dif_ndec, bif_eq, bif_neq, bif_ne, bif_nne, w64, wu64, Int.toNat_natCast, Option.bind_some, cond_true, cond_false, Bool.not_true, Bool.not_false, Sum.elim_inl, Sum.elim_inr]
theorem dm_val {v : Int} (h0 : 0 ≤ v) (h1 : v ≤ 2 ^ 40) : robot_decimal.F v = some (dm v) := by
  rw [robot_decimal.F_eq]
  unfold robot_decimal.F0 dm
  have e : v = ((v.toNat : Nat) : Int) := by omega
  have := fint_val (n := v.toNat) (by omega)
  rw [← e] at this
  rw [this]
  rfl
theorem fm_val (v : Int) : token_Format.F v = some (fm v) := tfmt_val v
theorem put2_val {w w' : ByteArray} {a a' : List ByteArray} {out : List ST} (h : out.length ≤ 90) : robot_Write_1.F w a (put w' a' out) = some (put w a (put w' a' out)) := put_val (by rw [put_len]; omega)
set_option maxHeartbeats 8000000 in
/-- One round: a joint. -/
theorem wj_round {js : List JT} {ms : List MT} {n i : Nat} {out : List ST} (hn : n = js.length) (hi : i < js.length) (h10 : js.length ≤ 10) (ho : out.length ≤ 90) (hf : FineJ i (js.getD i J0)) :
    robot_Write.p0.step (js, (n : Int), (i : Int), js, ms, out) = some (.inl (js, (n : Int), ((i + 1 : Nat) : Int), js, ms, put limitB (lArgs (js.getD i J0)) (put jointB (jArgs js (js.getD i J0)) out))) := by
  subst hn
  have hk := hf.kd
  have hp := hf.pa
  have e1 : ((i : Int) + 1) = ((i + 1 : Nat) : Int) := by omega
  have ej : js.getD i jz = js.getD i J0 := rfl
  have d1 := dm_val (v := (js.getD i J0).2.2.2.2.2.2.1) (by have := hf.we; omega) (by have := hf.we; omega)
  have d2 := dm_val (v := (js.getD i J0).2.2.2.2.2.2.2.1) (by have := hf.sp; omega) (by have := hf.sp; omega)
  have d3 := dm_val (v := (js.getD i J0).2.2.2.2.2.2.2.2.1) (by have := hf.ac; omega) (by have := hf.ac; omega)
  have d4 := dm_val (v := (js.getD i J0).2.2.2.2.2.2.2.2.2) (by have := hf.tq; omega) (by have := hf.tq; omega)
  unfold robot_Write.p0.step robot_Write.p0.round lArgs jArgs parN
  simp only [Int.toNat_natCast, ej]
  generalize js.getD i J0 = j at *
  have hkk : j.2.1 = 0 ∨ j.2.1 = 1 ∨ j.2.1 = 2 ∨ j.2.1 = 3 ∨ j.2.1 = 4 ∨ j.2.1 = 5 ∨ j.2.1 = 6 := by omega
  by_cases hpar : j.2.2.1 = -1
  · rw [if_pos hpar]
    rcases hkk with hq | hq | hq | hq | hq | hq | hq
    all_goals
      simp (disch := omega) only [dif_dec, dif_ndec, bif_eq, bif_neq, bif_ne, bif_nne, w64, wu64, Int.toNat_natCast, Option.bind_some, cond_true, cond_false, Bool.not_true, Bool.not_false, Sum.elim_inl, Sum.elim_inr, hpar, hq, fm_val, d1, d2, d3, d4, put_val, put2_val, e1]
      rfl
  · rw [if_neg hpar]
    rcases hkk with hq | hq | hq | hq | hq | hq | hq
    all_goals
      simp (disch := omega) only [dif_dec, dif_ndec, bif_eq, bif_neq, bif_ne, bif_nne, w64, wu64, Int.toNat_natCast, Option.bind_some, cond_true, cond_false, Bool.not_true, Bool.not_false, Sum.elim_inl, Sum.elim_inr, hq, fm_val, d1, d2, d3, d4, put_val, put2_val, e1]
      rfl
theorem wj_loop {js : List JT} {ms : List MT} (h10 : js.length ≤ 10) (hf : ∀ i, i < js.length → FineJ i (js.getD i J0)) : loopF robot_Write.p0.step (js, (js.length : Int), 0, js, ms, []) = some (js, ms, outJ js js.length) := by
  have h := loop_count (step := robot_Write.p0.step) (fun i : Nat => (js, (js.length : Int), (i : Int), js, ms, outJ js i)) js.length (js, ms, outJ js js.length) (by
    intro i hi
    have hl := outJ_len js i
    rw [wj_round rfl hi h10 (by omega) (hf i hi)]
    rfl) (by
    unfold robot_Write.p0.step robot_Write.p0.round
    simp only []
    simp (disch := omega) only [dif_dec, dif_ndec, bif_eq, bif_neq, bif_ne, bif_nne, w64, wu64, Int.toNat_natCast, Option.bind_some, cond_true, cond_false, Bool.not_true, Bool.not_false, Sum.elim_inl, Sum.elim_inr]) js.length 0 (by omega)
  exact h
theorem wm_loop {js : List JT} {ms : List MT} (h10 : js.length ≤ 10) (h32 : ms.length ≤ 32) (hf : ∀ k, k < ms.length → 0 ≤ (ms.getD k M0).1 ∧ (ms.getD k M0).1 < js.length) : loopF robot_Write.p1.step (ms, (ms.length : Int), 0, js, ms, outJ js js.length) = some (outM js ms ms.length) := by
  have h := loop_count (step := robot_Write.p1.step) (fun k : Nat => (ms, (ms.length : Int), (k : Int), js, ms, outM js ms k)) ms.length (outM js ms ms.length) (by
    intro k hk
    have hl := outM_len js ms k
    have hm := hf k hk
    have e1 : ((k : Int) + 1) = ((k + 1 : Nat) : Int) := by omega
    have em : ms.getD k ((0 : Int), ((0 : Int), ((0 : Int), ((0 : Int), (0 : Int))))) = ms.getD k M0 := rfl
    unfold robot_Write.p1.step robot_Write.p1.round
    simp only [Int.toNat_natCast, em, outM]
    unfold mArgs
    generalize ms.getD k M0 = m at *
    simp (disch := omega) only [dif_dec, dif_ndec, bif_eq, bif_neq, bif_ne, bif_nne, w64, wu64, Int.toNat_natCast, Option.bind_some, cond_true, cond_false, Bool.not_true, Bool.not_false, Sum.elim_inl, Sum.elim_inr, fm_val, put_val, e1]
    rfl) (by
    unfold robot_Write.p1.step robot_Write.p1.round
    simp only []
    simp (disch := omega) only [dif_dec, dif_ndec, bif_eq, bif_neq, bif_ne, bif_nne, w64, wu64, Int.toNat_natCast, Option.bind_some, cond_true, cond_false, Bool.not_true, Bool.not_false, Sum.elim_inl, Sum.elim_inr]) ms.length 0 (by omega)
  exact h
theorem chkM_link {n : Int} {m : MT} (h : chkM n m = 0) : 0 ≤ m.1 ∧ m.1 < n := by
  unfold chkM at h
  by_cases h1 : m.1 < 0
  · simp (disch := omega) only [dif_dec, dif_ndec, bif_eq, bif_neq, bif_ne, bif_nne, w64, wu64, Int.toNat_natCast, Option.bind_some, cond_true, cond_false, Bool.not_true, Bool.not_false, Sum.elim_inl, Sum.elim_inr] at h
    first | omega | (simp at h)
  · by_cases h2 : m.1 ≥ n
    · simp (disch := omega) only [dif_dec, dif_ndec, bif_eq, bif_neq, bif_ne, bif_nne, w64, wu64, Int.toNat_natCast, Option.bind_some, cond_true, cond_false, Bool.not_true, Bool.not_false, Sum.elim_inl, Sum.elim_inr] at h
      first | omega | (simp at h)
    · omega
theorem write_val {js : List JT} {ms : List MT} (h : chkRobot js ms = 0) : robot_Write.F js ms = some (outM js ms ms.length) := by
  obtain ⟨h1, h2, h3, h4, h5⟩ := chkRobot_zero h
  rw [robot_Write.F_eq]
  unfold robot_Write.F0
  rw [robotCheck_val (by omega) (by omega), h]
  simp only [Option.bind_some, bne_self_eq_false, cond_false]
  rw [wj_loop h2 fun i hi => (h3 i hi).2]
  simp only [Option.bind_some]
  rw [wm_loop h2 h4 fun k hk => chkM_link (h5 k hk)]
  rfl
end Go.Abs
