/- A part of the proof that the text with the row names: printed readings of functions, or plain lemmas about them. -/
import Derived.Test.YtanopckddijfcaaGreatDoorC8YM5
import Derived.Test.YtanopckddijfcaaGreatDoorC8YN
set_option linter.unusedVariables false
set_option linter.unusedSimpArgs false
namespace Go.Abs
open Go Go.Proofs

/-! ### Lists of numbers -/
def numsL : List ByteArray → Option (List Int)
  | [] => some []
  | s :: r => bif (numV s.data.toList).2 then (match numsL r with | some l => some ((numV s.data.toList).1 :: l) | none => none) else none
theorem numsL_len : ∀ {l : List ByteArray} {v : List Int}, numsL l = some v → v.length = l.length
  | [], v, h => by cases h; rfl
  | s :: r, v, h => by
    unfold numsL at h
    cases hb : (numV s.data.toList).2 with
    | false => rw [hb] at h; cases h
    | true =>
      rw [hb, cond_true] at h
      cases hr : numsL r with
      | none => rw [hr] at h; cases h
      | some l =>
        rw [hr] at h
        cases h
        rw [List.length_cons, List.length_cons, numsL_len hr]
theorem nums_loop {l : List ByteArray} (hl : l.length ≤ 2 ^ 40) (hs : ∀ s ∈ l, s.size ≤ 2 ^ 60) : ∀ (d i : Nat) (out : List Int), i + d = l.length → out.length = i →
    loopF robot_numbers__token_Number.p0.step (l, (l.length : Int), (i : Int), out) = some (match numsL (l.drop i) with | some v => .inr (out ++ v) | none => .inl false)
  | 0, i, out, hid, ho => by
    rw [List.drop_eq_nil_of_le (by omega)]
    refine loop_end ?_
    unfold robot_numbers__token_Number.p0.step robot_numbers__token_Number.p0.round numsL
    simp only [List.append_nil]
    simp (disch := omega) only [dif_dec, dif_ndec, bif_eq, bif_neq, bif_ne, bif_nne, w64, wu64, Int.toNat_natCast, Option.bind_some, cond_true, cond_false, Bool.not_true, Bool.not_false, Sum.elim_inl, Sum.elim_inr]
  | d + 1, i, out, hid, ho => by
    have hlt : i < l.length := by omega
    have hd : l.drop i = l.getD i ⟨#[]⟩ :: l.drop (i + 1) := by
      rw [List.drop_eq_getElem_cons hlt, List.getD_eq_getElem?_getD, List.getElem?_eq_getElem hlt]
      rfl
    have hsz : (l.getD i ⟨#[]⟩).size ≤ 2 ^ 60 := by
      rw [List.getD_eq_getElem?_getD, List.getElem?_eq_getElem hlt]
      exact hs _ (List.getElem_mem _)
    have ht : token_Number.F (l.getD i ⟨#[]⟩) = some (numV (l.getD i ⟨#[]⟩).data.toList) := tnum_val (l.getD i ⟨#[]⟩).data.toList (by rw [Array.length_toList]; exact hsz)
    rw [hd]
    simp only [numsL]
    generalize numV (l.getD i ⟨#[]⟩).data.toList = x at *
    have ih := nums_loop hl hs d (i + 1) (out ++ [x.1]) (by omega) (by rw [List.length_append, List.length_cons, List.length_nil]; omega)
    have e1 : ((i : Int) + 1) = ((i + 1 : Nat) : Int) := by omega
    obtain ⟨n, b⟩ := x
    cases b with
    | false =>
      refine loop_end ?_
      unfold robot_numbers__token_Number.p0.step robot_numbers__token_Number.p0.round
      simp only []
      simp (disch := omega) only [dif_dec, dif_ndec, bif_eq, bif_neq, bif_ne, bif_nne, w64, wu64, Int.toNat_natCast, Option.bind_some, cond_true, cond_false, Bool.not_true, Bool.not_false, Sum.elim_inl, Sum.elim_inr, ht]
    | true =>
      rw [loopF_eq]
      have hstep : robot_numbers__token_Number.p0.step (l, (l.length : Int), (i : Int), out) = some (.inl (l, (l.length : Int), ((i + 1 : Nat) : Int), out ++ [n])) := by
        unfold robot_numbers__token_Number.p0.step robot_numbers__token_Number.p0.round
        simp only [List.length_cons, List.length_nil]
        simp (disch := omega) only [dif_dec, dif_ndec, bif_eq, bif_neq, bif_ne, bif_nne, w64, wu64, Int.toNat_natCast, Option.bind_some, cond_true, cond_false, Bool.not_true, Bool.not_false, Sum.elim_inl, Sum.elim_inr, ht, e1]
      rw [hstep]
      simp only [cond_true]
      rw [ih]
      cases numsL (l.drop (i + 1)) with
      | none => rfl
      | some v => simp only [List.append_assoc, List.cons_append, List.nil_append]
theorem nums_val {l : List ByteArray} (hl : l.length ≤ 2 ^ 40) (hs : ∀ s ∈ l, s.size ≤ 2 ^ 60) : robot_numbers__token_Number.F l = some (match numsL l with | some v => (v, true) | none => ([], false)) := by
  rw [robot_numbers__token_Number.F_eq]
  unfold robot_numbers__token_Number.F0
  have h := nums_loop hl hs l.length 0 [] (by omega) rfl
  rw [List.drop_zero, show ((0 : Nat) : Int) = 0 from rfl] at h
  rw [h]
  cases numsL l with
  | none => rfl
  | some v => rfl

/-! ### The sanity check -/
def awArgs : List ByteArray := [(⟨#[98, 97, 115, 101]⟩ : ByteArray), (⟨#[116, 117, 114, 110, 122]⟩ : ByteArray), (⟨#[119, 111, 114, 108, 100]⟩ : ByteArray), (⟨#[48]⟩ : ByteArray), (⟨#[48]⟩ : ByteArray), (⟨#[48]⟩ : ByteArray), (⟨#[45, 48, 46, 50, 53]⟩ : ByteArray), (⟨#[48, 46, 50, 53]⟩ : ByteArray), (⟨#[49]⟩ : ByteArray)]
def awJ : JT := ((⟨#[98, 97, 115, 101]⟩ : ByteArray), (3, (-1, ((0, (0, 0)), (-16384, (16384, (1, (65536, (65536, 65536)))))))))
theorem aw_nums : robot_numbers__token_Number.F ((awArgs.take 8).drop 3) = some ([0, 0, 0, -16384, 16384], true) := by
  have h : numsL ((awArgs.take 8).drop 3) = some [0, 0, 0, -16384, 16384] := by kernel_rfl
  rw [nums_val (by decide) (by decide), h]
theorem aw_int : token_Integer.F ⟨#[49]⟩ = some (1, true) := by
  have h : intV [49] = (1, true) := by kernel_rfl
  have := tint_val [49]
  rw [h] at this
  exact this
theorem aw_kind : slices_Index_string.F ([(⟨#[102, 105, 120, 101, 100]⟩ : ByteArray), (⟨#[116, 117, 114, 110, 120]⟩ : ByteArray), (⟨#[116, 117, 114, 110, 121]⟩ : ByteArray), (⟨#[116, 117, 114, 110, 122]⟩ : ByteArray), (⟨#[115, 108, 105, 100, 101, 120]⟩ : ByteArray), (⟨#[115, 108, 105, 100, 101, 121]⟩ : ByteArray), (⟨#[115, 108, 105, 100, 101, 122]⟩ : ByteArray)] : List (ByteArray)) ⟨#[116, 117, 114, 110, 122]⟩ = some 3 := by
  rw [slices_Index_string.F_eq]
  unfold slices_Index_string.F0
  rw [loopF_of (n := 4) (o := .inl 3) (by kernel_rfl)]
  kernel_rfl
theorem aw_args : syntax_Arguments.F ⟨#[106, 111, 105, 110, 116]⟩ 9 = some true := by
  rw [syntax_Arguments.F_eq]
  unfold syntax_Arguments.F0
  rw [syntax_counts.F_eq]
  kernel_rfl
theorem aw_joint : robot_reader_joint.F awArgs [] [] [] = some (0, [awJ], [], [((⟨#[98, 97, 115, 101]⟩ : ByteArray), 0)]) := by
  rw [robot_reader_joint.F_eq]
  unfold robot_reader_joint.F0
  have hn : token_Name.F (awArgs.getD 0 ⟨#[]⟩) = some true := by
    rw [tname_val]
    kernel_rfl
  have hk := aw_kind
  have hi : token_Integer.F (awArgs.getD 8 ⟨#[]⟩) = some (1, true) := aw_int
  rw [show awArgs.getD 1 ⟨#[]⟩ = ⟨#[116, 117, 114, 110, 122]⟩ from rfl, hn, hk, aw_nums, hi]
  show _ = some (0, [awJ], [], [((⟨#[98, 97, 115, 101]⟩ : ByteArray), (0 : Int))])
  kernel_rfl
theorem aw_stmt : robot_reader_statement.F 1 ⟨#[106, 111, 105, 110, 116]⟩ awArgs [] [] [] = some (0, [awJ], [], [((⟨#[98, 97, 115, 101]⟩ : ByteArray), 0)]) := by
  rw [robot_reader_statement.F_eq]
  unfold robot_reader_statement.F0
  rw [aw_joint, show (awArgs.length : Int) = 9 from rfl, aw_args]
  kernel_rfl
theorem aw_chk : chkRobot [awJ] [] = 0 := by kernel_rfl
theorem aw_read : robot_Read.F [(1, ((⟨#[106, 111, 105, 110, 116]⟩ : ByteArray), awArgs))] = some ([awJ], [], 0, 0) := by
  rw [robot_Read.F_eq]
  unfold robot_Read.F0
  have h1 : robot_Read.p0.step ([(1, ((⟨#[106, 111, 105, 110, 116]⟩ : ByteArray), awArgs))], 1, 0, 0, 0, [], [], []) = some (.inl ([(1, ((⟨#[106, 111, 105, 110, 116]⟩ : ByteArray), awArgs))], 1, 1, 0, 0, [awJ], [], [((⟨#[98, 97, 115, 101]⟩ : ByteArray), 0)])) := by
    unfold robot_Read.p0.step robot_Read.p0.round
    simp only []
    rw [show ([(1, ((⟨#[106, 111, 105, 110, 116]⟩ : ByteArray), awArgs))] : List (Int × (ByteArray × List ByteArray))).getD (0 : Int).toNat (0, ((⟨#[]⟩ : ByteArray), ([] : List (ByteArray)))) = (1, ((⟨#[106, 111, 105, 110, 116]⟩ : ByteArray), awArgs)) from rfl]
    simp only []
    rw [aw_stmt]
    kernel_rfl
  have h2 : robot_Read.p0.step ([(1, ((⟨#[106, 111, 105, 110, 116]⟩ : ByteArray), awArgs))], 1, 1, 0, 0, [awJ], [], [((⟨#[98, 97, 115, 101]⟩ : ByteArray), 0)]) = some (.inr (.inr (0, 0, [awJ], [], [((⟨#[98, 97, 115, 101]⟩ : ByteArray), 0)]))) := by kernel_rfl
  have h3 : loopF robot_Read.p0.step ([(1, ((⟨#[106, 111, 105, 110, 116]⟩ : ByteArray), awArgs))], 1, 0, 0, 0, [], [], []) = some (.inr (0, 0, [awJ], [], [((⟨#[98, 97, 115, 101]⟩ : ByteArray), 0)])) := loop_next h1 (loop_end h2)
  rw [show ((([(1, ((⟨#[106, 111, 105, 110, 116]⟩ : ByteArray), awArgs))] : List (Int × (ByteArray × List ByteArray))).length : Nat) : Int) = 1 from rfl, h3]
  simp only [Option.bind_some, Sum.elim_inr]
  rw [robotCheck_val (by decide) (by decide), aw_chk]
  rfl
theorem same_Joint {l : List JT} (hl : l.length ≤ 2 ^ 60) : armplanmake_Same_Joint.F l l = some true := by
  rw [armplanmake_Same_Joint.F_eq]
  unfold armplanmake_Same_Joint.F0
  rw [bif_nne rfl]
  have := loop_count (step := armplanmake_Same_Joint.p0.step) (fun j : Nat => (l, l, (j : Int))) l.length (Sum.inr ()) (by
    intro j hj
    unfold armplanmake_Same_Joint.p0.step armplanmake_Same_Joint.p0.round
    simp only [beq_self_eq_true, eqS_refl, Bool.and_true]
    simp (disch := omega) only [dif_dec, dif_ndec, bif_eq, bif_neq, bif_ne, bif_nne, w64, wu64, Int.toNat_natCast, Option.bind_some, cond_true, cond_false, Bool.not_true, Bool.not_false, Sum.elim_inl, Sum.elim_inr]
    rfl) (by
    unfold armplanmake_Same_Joint.p0.step armplanmake_Same_Joint.p0.round
    simp only []
    simp (disch := omega) only [dif_dec, dif_ndec, bif_eq, bif_neq, bif_ne, bif_nne, w64, wu64, Int.toNat_natCast, Option.bind_some, cond_true, cond_false, Bool.not_true, Bool.not_false, Sum.elim_inl, Sum.elim_inr]) l.length 0 (by omega)
  rw [show ((0 : Nat) : Int) = 0 from rfl] at this
  rw [this]
  rfl
theorem same_Mass {l : List MT} (hl : l.length ≤ 2 ^ 60) : armplanmake_Same_Mass.F l l = some true := by
  rw [armplanmake_Same_Mass.F_eq]
  unfold armplanmake_Same_Mass.F0
  rw [bif_nne rfl]
  have := loop_count (step := armplanmake_Same_Mass.p0.step) (fun j : Nat => (l, l, (j : Int))) l.length (Sum.inr ()) (by
    intro j hj
    unfold armplanmake_Same_Mass.p0.step armplanmake_Same_Mass.p0.round
    simp only [beq_self_eq_true, eqS_refl, Bool.and_true]
    simp (disch := omega) only [dif_dec, dif_ndec, bif_eq, bif_neq, bif_ne, bif_nne, w64, wu64, Int.toNat_natCast, Option.bind_some, cond_true, cond_false, Bool.not_true, Bool.not_false, Sum.elim_inl, Sum.elim_inr]
    rfl) (by
    unfold armplanmake_Same_Mass.p0.step armplanmake_Same_Mass.p0.round
    simp only []
    simp (disch := omega) only [dif_dec, dif_ndec, bif_eq, bif_neq, bif_ne, bif_nne, w64, wu64, Int.toNat_natCast, Option.bind_some, cond_true, cond_false, Bool.not_true, Bool.not_false, Sum.elim_inl, Sum.elim_inr]) l.length 0 (by omega)
  rw [show ((0 : Nat) : Int) = 0 from rfl] at this
  rw [this]
  rfl
theorem aw_find : robot_Find.F [awJ] [] ⟨#[98, 97, 115, 101]⟩ = some 0 := by
  rw [robot_Find.F_eq]
  unfold robot_Find.F0
  rw [robot_place.F_eq]
  unfold robot_place.F0
  rw [slices_IndexFunc_Joint__robot_place_1.F_eq]
  unfold slices_IndexFunc_Joint__robot_place_1.F0
  have h1 : slices_IndexFunc_Joint__robot_place_1.p0.step ([awJ], 1, 0, ⟨#[98, 97, 115, 101]⟩) = some (.inr (.inl (0, ⟨#[98, 97, 115, 101]⟩))) := by
    unfold slices_IndexFunc_Joint__robot_place_1.p0.step slices_IndexFunc_Joint__robot_place_1.p0.round
    rw [robot_place_1.F_eq]
    kernel_rfl
  rw [show ((([awJ] : List JT).length : Nat) : Int) = 1 from rfl, loop_end h1]
  rfl
theorem awake8_val : armplanlaw8_awake.F () = some true := by
  rw [armplanlaw8_awake.F_eq]
  unfold armplanlaw8_awake.F0
  have h1 : armplanlaw8_one.F () = some ([awJ], []) := by rw [armplanlaw8_one.F_eq]; rfl
  have h2 := aw_read
  unfold awArgs at h2
  rw [h2]
  simp only [Option.bind_some]
  rw [h1]
  simp only [Option.bind_some]
  rw [robotCheck_val (by decide) (by decide), aw_chk]
  simp only [Option.bind_some, beq_self_eq_true, cond_true]
  rw [armplanmake_SameRobot.F_eq]
  unfold armplanmake_SameRobot.F0
  rw [same_Joint (by decide), same_Mass (by decide)]
  simp only [Option.bind_some, cond_true]
  rw [aw_find]
  rfl
end Go.Abs
