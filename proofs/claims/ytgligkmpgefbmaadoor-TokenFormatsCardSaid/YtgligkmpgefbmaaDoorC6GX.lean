/- A part of the proof that the text with the row names: printed readings of functions, or plain lemmas about them. -/
import Derived.Test.YtgligkmpgefbmaaDoorAbsD
import Derived.Test.YtgligkmpgefbmaaDoorC6GS
import Derived.Test.YtgligkmpgefbmaaDoorProg
import Derived.KernelRfl
set_option linter.unusedVariables false
set_option linter.unusedSimpArgs false
namespace Go.Abs
open Go Go.Proofs

noncomputable def glob0 : Nat → Option (List DLeaf) := globTab [(3, [.v (.int .u64 1), .v (.int .u64 10), .v (.int .u64 100), .v (.int .u64 1000), .v (.int .u64 10000), .v (.int .u64 100000), .v (.int .u64 1000000), .v (.int .u64 10000000), .v (.int .u64 100000000), .v (.int .u64 1000000000), .v (.int .u64 10000000000), .v (.int .u64 100000000000), .v (.int .u64 1000000000000), .v (.int .u64 10000000000000), .v (.int .u64 100000000000000), .v (.int .u64 1000000000000000), .v (.int .u64 10000000000000000), .v (.int .u64 100000000000000000), .v (.int .u64 1000000000000000000), .v (.int .u64 10000000000000000000)])]
theorem glob_pow : glob0 3 = some (Lib.pow10Tab.map fun z => .v (.int .u64 z)) := by kernel_rfl
noncomputable def lib_CutPrefix.p : Proc := libCutPrefix
theorem lib_CutPrefix.sound : ProcSound Tryd.prog glob0 24 lib_CutPrefix.p := libCutPrefix_sound ⟨Tryd.f24, Tryd.func24, of_decide_eq_true (by kernel_rfl), rfl⟩ Tryd.strings_CutPrefix
noncomputable def lib_ParseInt.p : Proc := libParseInt
theorem lib_ParseInt.sound : ProcSound Tryd.prog glob0 27 lib_ParseInt.p := libParseInt_sound ⟨Tryd.f27, Tryd.func27, of_decide_eq_true (by kernel_rfl), rfl⟩ Tryd.strconv_ParseInt_10_at64_ok
noncomputable def lib_FormatInt.p : Proc := libFormatInt
theorem lib_FormatInt.sound : ProcSound Tryd.prog glob0 32 lib_FormatInt.p := libFormatInt_sound ⟨Tryd.f32, Tryd.func32, of_decide_eq_true (by kernel_rfl), rfl⟩ (g := 3) glob_pow (by kernel_rfl) Tryd.strconv_FormatInt_10
noncomputable def lib_Repeat.p : Proc := libRepeat
theorem lib_Repeat.sound : ProcSound Tryd.prog glob0 33 lib_Repeat.p := libRepeat_sound ⟨Tryd.f33, Tryd.func33, of_decide_eq_true (by kernel_rfl), rfl⟩ Tryd.strings_Repeat
noncomputable def lib_TrimRight.p : Proc := libTrimRight
theorem lib_TrimRight.sound : ProcSound Tryd.prog glob0 34 lib_TrimRight.p := libTrimRight_sound ⟨Tryd.f34, Tryd.func34, of_decide_eq_true (by kernel_rfl), rfl⟩ Tryd.strings_TrimRight_one
noncomputable def lib_Index.p : Proc := libIndex
theorem lib_Index.sound : ProcSound Tryd.prog glob0 55 lib_Index.p := libIndex_sound ⟨Tryd.f55, Tryd.func55, of_decide_eq_true (by kernel_rfl), rfl⟩ Tryd.stringslite_Index_one

end Go.Abs
