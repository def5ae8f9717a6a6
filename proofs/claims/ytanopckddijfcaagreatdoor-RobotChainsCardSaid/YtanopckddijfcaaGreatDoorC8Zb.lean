/- A part of the proof that the text with the row names: printed readings of functions, or plain lemmas about them. -/
import Derived.Test.YtanopckddijfcaaGreatDoorC8Za
set_option linter.unusedVariables false
set_option linter.unusedSimpArgs false
namespace Go.Abs
open Go Go.Proofs

/-! ### armplan/robot.Rigid: function 37 -/
noncomputable def robot_Rigid.F0 (a0 : List ((ByteArray × (Int × (Int × ((Int × (Int × Int)) × (Int × (Int × (Int × (Int × (Int × Int))))))))))) (a1 : List ((Int × (Int × (Int × (Int × Int)))))) (a2 : Int) (a3 : Int) : Option (Bool) :=
  ((robot_isLink.F a0 a1 a2).bind fun r1 => (bif (!r1) then some false else ((robot_isLink.F a0 a1 a3).bind fun r2 => (bif (!r2) then some false else ((robot_Between.F a0 a1 a2 a3).bind fun r3 => ((slices_ContainsFunc_int__robot_Rigid_1.F r3 a0 a1).bind fun r4 => some (!r4.1)))))))
noncomputable def robot_Rigid.F : (List ((ByteArray × (Int × (Int × ((Int × (Int × Int)) × (Int × (Int × (Int × (Int × (Int × Int))))))))))) → (List ((Int × (Int × (Int × (Int × Int)))))) → Int → Int → Option (Bool) := lock robot_Rigid.F0
theorem robot_Rigid.F_eq : robot_Rigid.F = robot_Rigid.F0 := lock_eq _
noncomputable def robot_Rigid.p : Proc := { nargs := 3, inS := ⟨[(0, .ag [.dat (.pair .str (.pair (.int .i64) (.pair (.int .i64) (.pair (.pair (.int .i64) (.pair (.int .i64) (.int .i64))) (.pair (.int .i64) (.pair (.int .i64) (.pair (.int .i64) (.pair (.int .i64) (.pair (.int .i64) (.int .i64)))))))))), .dat (.pair (.int .i64) (.pair (.int .i64) (.pair (.int .i64) (.pair (.int .i64) (.int .i64)))))]), (1, .lf (.sc (.int .i64))), (2, .lf (.sc (.int .i64)))], []⟩, outS := ⟨[(0, .lf (.sc .bool))], []⟩, n0 := 0, R := Bool, F := fun x => robot_Rigid.F x.1.1.1 x.1.1.2.1 x.1.2.1 x.1.2.2.1, post := fun r => ((r, ()), ()), un := fun x => x.1.1 }
noncomputable def robot_Rigid.E : Env := { P := Tryz.prog, ty := tyTab [(3, (.int .i64))], glob := glob0, proc := procTab [(61, robot_isLink.p), (35, robot_Between.p), (64, slices_ContainsFunc_int__robot_Rigid_1.p)], lproc := lprocTab [], n0 := 0, ntmps := 24 }
theorem robot_Rigid.ok : ProcsOk robot_Rigid.E := AllSound.ok (l := [(61, robot_isLink.p), (35, robot_Between.p), (64, slices_ContainsFunc_int__robot_Rigid_1.p)]) (by kernel_rfl) rfl ⟨robot_isLink.sound, robot_Between.sound, slices_ContainsFunc_int__robot_Rigid_1.sound, trivial⟩
noncomputable def robot_Rigid.body0 : Code := (match Tryz.f37.body with | some c => c | none => .skip)
noncomputable def robot_Rigid.ann : Ann := .z
set_option maxRecDepth 100000 in
theorem robot_Rigid.eq (x : Tup robot_Rigid.p.inS) : peFn robot_Rigid.E Tryz.f37 robot_Rigid.ann robot_Rigid.p x = robot_Rigid.p.F x := by
  have h : peFn robot_Rigid.E Tryz.f37 robot_Rigid.ann robot_Rigid.p x = robot_Rigid.F0 x.1.1.1 x.1.1.2.1 x.1.2.1 x.1.2.2.1 := by kernel_rfl
  exact h.trans (by show _ = robot_Rigid.F x.1.1.1 x.1.1.2.1 x.1.2.1 x.1.2.2.1; rw [robot_Rigid.F_eq])
set_option maxRecDepth 100000 in
theorem robot_Rigid.sound : ProcSound Tryz.prog glob0 37 robot_Rigid.p :=
  fn_sound (E := robot_Rigid.E) (c := robot_Rigid.body0) (ann := robot_Rigid.ann) robot_Rigid.ok Tryz.func37 (of_decide_eq_true (by kernel_rfl)) rfl rfl rfl (by decide +kernel) ((SubsOk_z _ _) : SubsOk robot_Rigid.E robot_Rigid.body0 robot_Rigid.ann) (fun _ => rfl) rfl robot_Rigid.eq

/-! ### armplan/armplanlaw8.awake: function 9 -/
noncomputable def armplanlaw8_awake.F0 (_ : Unit) : Option (Bool) :=
  ((robot_Read.F ([((1 : Int), ((⟨#[106, 111, 105, 110, 116]⟩ : ByteArray), ([(⟨#[98, 97, 115, 101]⟩ : ByteArray), (⟨#[116, 117, 114, 110, 122]⟩ : ByteArray), (⟨#[119, 111, 114, 108, 100]⟩ : ByteArray), (⟨#[48]⟩ : ByteArray), (⟨#[48]⟩ : ByteArray), (⟨#[48]⟩ : ByteArray), (⟨#[45, 48, 46, 50, 53]⟩ : ByteArray), (⟨#[48, 46, 50, 53]⟩ : ByteArray), (⟨#[49]⟩ : ByteArray)] : List (ByteArray))))] : List ((Int × (ByteArray × List (ByteArray)))))).bind fun r1 => ((armplanlaw8_one.F ()).bind fun r2 => ((robot_Check.F r2.1 r2.2).bind fun r3 => (bif (r3 == (0 : Int)) then (bif (r1.2.2.1 == (0 : Int)) then ((armplanlaw8_one.F ()).bind fun r4 => ((armplanmake_SameRobot.F r1.1 r1.2.1 r4.1 r4.2).bind fun r5 => (bif r5 then ((armplanlaw8_one.F ()).bind fun r6 => ((robot_Find.F r6.1 r6.2 (⟨#[98, 97, 115, 101]⟩ : ByteArray)).bind fun r7 => some (r7 == (0 : Int)))) else some false))) else some false) else some false))))
noncomputable def armplanlaw8_awake.F : Unit → Option (Bool) := lock armplanlaw8_awake.F0
theorem armplanlaw8_awake.F_eq : armplanlaw8_awake.F = armplanlaw8_awake.F0 := lock_eq _
noncomputable def armplanlaw8_awake.p : Proc := { nargs := 0, inS := ⟨[], []⟩, outS := ⟨[(0, .lf (.sc .bool))], []⟩, n0 := 0, R := Bool, F := fun x => armplanlaw8_awake.F (), post := fun r => ((r, ()), ()), un := fun x => x.1.1 }
noncomputable def armplanlaw8_awake.E : Env := { P := Tryz.prog, ty := tyTab [(9, .str), (37, (.pair (.int .i64) (.pair .str (.slc .str))))], glob := glob0, proc := procTab [(15, robot_Read.p), (28, armplanlaw8_one.p), (27, robot_Check.p), (17, armplanmake_SameRobot.p), (29, robot_Find.p)], lproc := lprocTab [], n0 := 0, ntmps := 28 }
theorem armplanlaw8_awake.ok : ProcsOk armplanlaw8_awake.E := AllSound.ok (l := [(15, robot_Read.p), (28, armplanlaw8_one.p), (27, robot_Check.p), (17, armplanmake_SameRobot.p), (29, robot_Find.p)]) (by kernel_rfl) rfl ⟨robot_Read.sound, armplanlaw8_one.sound, robot_Check.sound, armplanmake_SameRobot.sound, robot_Find.sound, trivial⟩
noncomputable def armplanlaw8_awake.body0 : Code := (match Tryz.f9.body with | some c => c | none => .skip)
noncomputable def armplanlaw8_awake.ann : Ann := .z
set_option maxRecDepth 100000 in
theorem armplanlaw8_awake.eq (x : Tup armplanlaw8_awake.p.inS) : peFn armplanlaw8_awake.E Tryz.f9 armplanlaw8_awake.ann armplanlaw8_awake.p x = armplanlaw8_awake.p.F x := by
  have h : peFn armplanlaw8_awake.E Tryz.f9 armplanlaw8_awake.ann armplanlaw8_awake.p x = armplanlaw8_awake.F0 () := by kernel_rfl
  exact h.trans (by show _ = armplanlaw8_awake.F (); rw [armplanlaw8_awake.F_eq])
set_option maxRecDepth 100000 in
theorem armplanlaw8_awake.sound : ProcSound Tryz.prog glob0 9 armplanlaw8_awake.p :=
  fn_sound (E := armplanlaw8_awake.E) (c := armplanlaw8_awake.body0) (ann := armplanlaw8_awake.ann) armplanlaw8_awake.ok Tryz.func9 (of_decide_eq_true (by kernel_rfl)) rfl rfl rfl (by decide +kernel) ((SubsOk_z _ _) : SubsOk armplanlaw8_awake.E armplanlaw8_awake.body0 armplanlaw8_awake.ann) (fun _ => rfl) rfl armplanlaw8_awake.eq

/-! ### armplan/armplanlaw8.chains: function 12 -/
noncomputable def armplanlaw8_chains.F0 (a0 : List ((ByteArray × (Int × (Int × ((Int × (Int × Int)) × (Int × (Int × (Int × (Int × (Int × Int))))))))))) (a1 : List ((Int × (Int × (Int × (Int × Int)))))) (a2 : ByteArray) (a3 : Int) (a4 : Int) : Option (Bool) :=
  ((robot_Find.F a0 a1 a2).bind fun r1 => ((armplanref6_Find.F a0 a1 a2).bind fun r2 => (bif (r1 == r2) then ((robot_Chain.F a0 a1 a3).bind fun r3 => ((armplanref6_Chain.F a0 a1 a3).bind fun r4 => ((armplanmake_Same_int.F r3 r4).bind fun r5 => (bif r5 then ((robot_Between.F a0 a1 a3 a4).bind fun r6 => ((armplanref6_Between.F a0 a1 a3 a4).bind fun r7 => ((armplanmake_Same_int.F r6 r7).bind fun r8 => (bif r8 then ((robot_Rigid.F a0 a1 a3 a4).bind fun r9 => ((armplanref6_Rigid.F a0 a1 a3 a4).bind fun r10 => some (r9 == r10))) else some false)))) else some false)))) else some false)))
noncomputable def armplanlaw8_chains.F : (List ((ByteArray × (Int × (Int × ((Int × (Int × Int)) × (Int × (Int × (Int × (Int × (Int × Int))))))))))) → (List ((Int × (Int × (Int × (Int × Int)))))) → ByteArray → Int → Int → Option (Bool) := lock armplanlaw8_chains.F0
theorem armplanlaw8_chains.F_eq : armplanlaw8_chains.F = armplanlaw8_chains.F0 := lock_eq _
noncomputable def armplanlaw8_chains.p : Proc := { nargs := 4, inS := ⟨[(0, .ag [.dat (.pair .str (.pair (.int .i64) (.pair (.int .i64) (.pair (.pair (.int .i64) (.pair (.int .i64) (.int .i64))) (.pair (.int .i64) (.pair (.int .i64) (.pair (.int .i64) (.pair (.int .i64) (.pair (.int .i64) (.int .i64)))))))))), .dat (.pair (.int .i64) (.pair (.int .i64) (.pair (.int .i64) (.pair (.int .i64) (.int .i64)))))]), (1, .lf (.sc .str)), (2, .lf (.sc (.int .i64))), (3, .lf (.sc (.int .i64)))], []⟩, outS := ⟨[(0, .lf (.sc .bool))], []⟩, n0 := 0, R := Bool, F := fun x => armplanlaw8_chains.F x.1.1.1 x.1.1.2.1 x.1.2.1 x.1.2.2.1 x.1.2.2.2.1, post := fun r => ((r, ()), ()), un := fun x => x.1.1 }
noncomputable def armplanlaw8_chains.E : Env := { P := Tryz.prog, ty := tyTab [], glob := glob0, proc := procTab [(29, robot_Find.p), (31, armplanref6_Find.p), (33, robot_Chain.p), (34, armplanref6_Chain.p), (32, armplanmake_Same_int.p), (35, robot_Between.p), (36, armplanref6_Between.p), (37, robot_Rigid.p), (38, armplanref6_Rigid.p)], lproc := lprocTab [], n0 := 0, ntmps := 47 }
theorem armplanlaw8_chains.ok : ProcsOk armplanlaw8_chains.E := AllSound.ok (l := [(29, robot_Find.p), (31, armplanref6_Find.p), (33, robot_Chain.p), (34, armplanref6_Chain.p), (32, armplanmake_Same_int.p), (35, robot_Between.p), (36, armplanref6_Between.p), (37, robot_Rigid.p), (38, armplanref6_Rigid.p)]) (by kernel_rfl) rfl ⟨robot_Find.sound, armplanref6_Find.sound, robot_Chain.sound, armplanref6_Chain.sound, armplanmake_Same_int.sound, robot_Between.sound, armplanref6_Between.sound, robot_Rigid.sound, armplanref6_Rigid.sound, trivial⟩
noncomputable def armplanlaw8_chains.body0 : Code := (match Tryz.f12.body with | some c => c | none => .skip)
noncomputable def armplanlaw8_chains.ann : Ann := .z
set_option maxRecDepth 100000 in
theorem armplanlaw8_chains.eq (x : Tup armplanlaw8_chains.p.inS) : peFn armplanlaw8_chains.E Tryz.f12 armplanlaw8_chains.ann armplanlaw8_chains.p x = armplanlaw8_chains.p.F x := by
  have h : peFn armplanlaw8_chains.E Tryz.f12 armplanlaw8_chains.ann armplanlaw8_chains.p x = armplanlaw8_chains.F0 x.1.1.1 x.1.1.2.1 x.1.2.1 x.1.2.2.1 x.1.2.2.2.1 := by kernel_rfl
  exact h.trans (by show _ = armplanlaw8_chains.F x.1.1.1 x.1.1.2.1 x.1.2.1 x.1.2.2.1 x.1.2.2.2.1; rw [armplanlaw8_chains.F_eq])
set_option maxRecDepth 100000 in
theorem armplanlaw8_chains.sound : ProcSound Tryz.prog glob0 12 armplanlaw8_chains.p :=
  fn_sound (E := armplanlaw8_chains.E) (c := armplanlaw8_chains.body0) (ann := armplanlaw8_chains.ann) armplanlaw8_chains.ok Tryz.func12 (of_decide_eq_true (by kernel_rfl)) rfl rfl rfl (by decide +kernel) ((SubsOk_z _ _) : SubsOk armplanlaw8_chains.E armplanlaw8_chains.body0 armplanlaw8_chains.ann) (fun _ => rfl) rfl armplanlaw8_chains.eq

end Go.Abs
