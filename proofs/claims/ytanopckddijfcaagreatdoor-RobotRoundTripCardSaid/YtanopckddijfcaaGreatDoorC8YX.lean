/- A part of the proof that the text with the row names: printed readings of functions, or plain lemmas about them. -/
import Derived.Test.YtanopckddijfcaaGreatDoorAbsD
import Derived.Test.YtanopckddijfcaaGreatDoorC8YS
import Derived.Test.YtanopckddijfcaaGreatDoorProg
import Derived.KernelRfl
set_option linter.unusedVariables false
set_option linter.unusedSimpArgs false
namespace Go.Abs
open Go Go.Proofs

noncomputable def glob0 : Nat → Option (List DLeaf) := globTab [(0, [.v (.string ⟨#[102, 105, 120, 101, 100]⟩), .v (.string ⟨#[116, 117, 114, 110, 120]⟩), .v (.string ⟨#[116, 117, 114, 110, 121]⟩), .v (.string ⟨#[116, 117, 114, 110, 122]⟩), .v (.string ⟨#[115, 108, 105, 100, 101, 120]⟩), .v (.string ⟨#[115, 108, 105, 100, 101, 121]⟩), .v (.string ⟨#[115, 108, 105, 100, 101, 122]⟩)]), (1, [.v (.int .u64 1), .v (.int .u64 10), .v (.int .u64 100), .v (.int .u64 1000), .v (.int .u64 10000), .v (.int .u64 100000), .v (.int .u64 1000000), .v (.int .u64 10000000), .v (.int .u64 100000000), .v (.int .u64 1000000000), .v (.int .u64 10000000000), .v (.int .u64 100000000000), .v (.int .u64 1000000000000), .v (.int .u64 10000000000000), .v (.int .u64 100000000000000), .v (.int .u64 1000000000000000), .v (.int .u64 10000000000000000), .v (.int .u64 100000000000000000), .v (.int .u64 1000000000000000000), .v (.int .u64 10000000000000000000)])]
theorem glob_pow : glob0 1 = some (Lib.pow10Tab.map fun z => .v (.int .u64 z)) := by kernel_rfl
noncomputable def lib_FormatInt.p : Proc := libFormatInt
theorem lib_FormatInt.sound : ProcSound Tryz.prog glob0 72 lib_FormatInt.p := libFormatInt_sound ⟨Tryz.f72, Tryz.func72, of_decide_eq_true (by kernel_rfl), rfl⟩ (g := 1) glob_pow (by kernel_rfl) Tryz.strconv_FormatInt_10
noncomputable def lib_Repeat.p : Proc := libRepeat
theorem lib_Repeat.sound : ProcSound Tryz.prog glob0 73 lib_Repeat.p := libRepeat_sound ⟨Tryz.f73, Tryz.func73, of_decide_eq_true (by kernel_rfl), rfl⟩ Tryz.strings_Repeat
noncomputable def lib_TrimRight.p : Proc := libTrimRight
theorem lib_TrimRight.sound : ProcSound Tryz.prog glob0 74 lib_TrimRight.p := libTrimRight_sound ⟨Tryz.f74, Tryz.func74, of_decide_eq_true (by kernel_rfl), rfl⟩ Tryz.strings_TrimRight_one
noncomputable def lib_CutPrefix.p : Proc := libCutPrefix
theorem lib_CutPrefix.sound : ProcSound Tryz.prog glob0 102 lib_CutPrefix.p := libCutPrefix_sound ⟨Tryz.f102, Tryz.func102, of_decide_eq_true (by kernel_rfl), rfl⟩ Tryz.strings_CutPrefix
noncomputable def lib_ParseInt.p : Proc := libParseInt
theorem lib_ParseInt.sound : ProcSound Tryz.prog glob0 105 lib_ParseInt.p := libParseInt_sound ⟨Tryz.f105, Tryz.func105, of_decide_eq_true (by kernel_rfl), rfl⟩ Tryz.strconv_ParseInt_10_at64_ok
noncomputable def lib_Index.p : Proc := libIndex
theorem lib_Index.sound : ProcSound Tryz.prog glob0 133 lib_Index.p := libIndex_sound ⟨Tryz.f133, Tryz.func133, of_decide_eq_true (by kernel_rfl), rfl⟩ Tryz.stringslite_Index_one

end Go.Abs
