/- A part of the proof that the text with the row names: printed readings of functions, or plain lemmas about them. -/
import Derived.Test.YtanopckddijfcaaGreatDoorC8YX
import Derived.KernelRfl
set_option linter.unusedVariables false
set_option linter.unusedSimpArgs false
namespace Go.Abs
open Go Go.Proofs

abbrev jz : ByteArray × Int × Int × (Int × Int × Int) × Int × Int × Int × Int × Int × Int := ((⟨#[]⟩ : ByteArray), ((0 : Int), ((0 : Int), (((0 : Int), ((0 : Int), (0 : Int))), ((0 : Int), ((0 : Int), ((0 : Int), ((0 : Int), ((0 : Int), (0 : Int))))))))))

/-! ### armplan/armplanmake.Round: function 8 -/
noncomputable def armplanmake_Round.F0 (a0 : Int) (a1 : Int) : Option (Int) :=
  (bif (a1 != 0) then (bif decide ((a0.tmod a1) < (0 : Int)) then some (IntKind.wrap .i64 ((a0.tmod a1) + a1)) else some (a0.tmod a1)) else none)
noncomputable def armplanmake_Round.F : Int → Int → Option (Int) := lock armplanmake_Round.F0
theorem armplanmake_Round.F_eq : armplanmake_Round.F = armplanmake_Round.F0 := lock_eq _
noncomputable def armplanmake_Round.p : Proc := { nargs := 2, inS := ⟨[(0, .lf (.sc (.int .i64))), (1, .lf (.sc (.int .i64)))], []⟩, outS := ⟨[(0, .lf (.sc (.int .i64)))], []⟩, n0 := 0, R := Int, F := fun x => armplanmake_Round.F x.1.1 x.1.2.1, post := fun r => ((r, ()), ()), un := fun x => x.1.1 }
noncomputable def armplanmake_Round.E : Env := { P := Tryz.prog, ty := tyTab [], glob := glob0, proc := procTab [], lproc := lprocTab [], n0 := 0, ntmps := 15 }
theorem armplanmake_Round.ok : ProcsOk armplanmake_Round.E := AllSound.ok (l := []) (by kernel_rfl) rfl trivial
noncomputable def armplanmake_Round.body0 : Code := (match Tryz.f8.body with | some c => c | none => .skip)
noncomputable def armplanmake_Round.ann : Ann := .z
set_option maxRecDepth 100000 in
theorem armplanmake_Round.eq (x : Tup armplanmake_Round.p.inS) : peFn armplanmake_Round.E Tryz.f8 armplanmake_Round.ann armplanmake_Round.p x = armplanmake_Round.p.F x := by
  have h : peFn armplanmake_Round.E Tryz.f8 armplanmake_Round.ann armplanmake_Round.p x = armplanmake_Round.F0 x.1.1 x.1.2.1 := by kernel_rfl
  exact h.trans (by show _ = armplanmake_Round.F x.1.1 x.1.2.1; rw [armplanmake_Round.F_eq])
set_option maxRecDepth 100000 in
theorem armplanmake_Round.sound : ProcSound Tryz.prog glob0 8 armplanmake_Round.p :=
  fn_sound (E := armplanmake_Round.E) (c := armplanmake_Round.body0) (ann := armplanmake_Round.ann) armplanmake_Round.ok Tryz.func8 (of_decide_eq_true (by kernel_rfl)) rfl rfl rfl (by decide +kernel) ((SubsOk_z _ _) : SubsOk armplanmake_Round.E armplanmake_Round.body0 armplanmake_Round.ann) (fun _ => rfl) rfl armplanmake_Round.eq

/-! ### armplan/armplanmake.From: function 22 -/
noncomputable def armplanmake_From.F0 (a0 : List (Int)) : Option (List (Int) × Int) :=
  some (a0, (0 : Int))
noncomputable def armplanmake_From.F : (List (Int)) → Option (List (Int) × Int) := lock armplanmake_From.F0
theorem armplanmake_From.F_eq : armplanmake_From.F = armplanmake_From.F0 := lock_eq _
noncomputable def armplanmake_From.p : Proc := { nargs := 1, inS := ⟨[(0, .lf (.dat (.int .i64)))], []⟩, outS := ⟨[(0, .lf (.bp 0 0))], [.box [.dat (.int .i64), .sc (.int .i64)]]⟩, n0 := 0, R := List (Int) × Int, F := fun x => armplanmake_From.F x.1.1, post := fun r => (((), ()), ((r.1, (r.2, ())), ())), un := fun x => (x.2.1.1, x.2.1.2.1) }
noncomputable def armplanmake_From.E : Env := { P := Tryz.prog, ty := tyTab [], glob := glob0, proc := procTab [], lproc := lprocTab [], n0 := 0, ntmps := 6 }
theorem armplanmake_From.ok : ProcsOk armplanmake_From.E := AllSound.ok (l := []) (by kernel_rfl) rfl trivial
noncomputable def armplanmake_From.body0 : Code := (match Tryz.f22.body with | some c => c | none => .skip)
noncomputable def armplanmake_From.ann : Ann := .z
set_option maxRecDepth 100000 in
theorem armplanmake_From.eq (x : Tup armplanmake_From.p.inS) : peFn armplanmake_From.E Tryz.f22 armplanmake_From.ann armplanmake_From.p x = armplanmake_From.p.F x := by
  have h : peFn armplanmake_From.E Tryz.f22 armplanmake_From.ann armplanmake_From.p x = armplanmake_From.F0 x.1.1 := by kernel_rfl
  exact h.trans (by show _ = armplanmake_From.F x.1.1; rw [armplanmake_From.F_eq])
set_option maxRecDepth 100000 in
theorem armplanmake_From.sound : ProcSound Tryz.prog glob0 22 armplanmake_From.p :=
  fn_sound (E := armplanmake_From.E) (c := armplanmake_From.body0) (ann := armplanmake_From.ann) armplanmake_From.ok Tryz.func22 (of_decide_eq_true (by kernel_rfl)) rfl rfl rfl (by decide +kernel) ((SubsOk_z _ _) : SubsOk armplanmake_From.E armplanmake_From.body0 armplanmake_From.ann) (fun _ => rfl) rfl armplanmake_From.eq

/-! ### (*armplan/armplanmake.Source).Next: function 24 -/
noncomputable def armplanmake_Source_Next.F0 (a0 : Int) (a1 : List (Int)) (a2 : Int) : Option (Int × List (Int) × Int) :=
  (bif decide (a2 ≥ (a1.length : Int)) then some ((0 : Int), a1, a2) else (bif decide (0 ≤ (IntKind.wrap .i64 ((IntKind.wrap .i64 (a2 + (1 : Int))) - (1 : Int)))) then (bif decide ((IntKind.wrap .i64 ((IntKind.wrap .i64 (a2 + (1 : Int))) - (1 : Int))) < (a1.length : Int)) then ((armplanmake_Round.F (a1.getD (IntKind.wrap .i64 ((IntKind.wrap .i64 (a2 + (1 : Int))) - (1 : Int))).toNat (0 : Int)) a0).bind fun r1 => some (r1, a1, (IntKind.wrap .i64 (a2 + (1 : Int))))) else none) else none))
noncomputable def armplanmake_Source_Next.F : Int → (List (Int)) → Int → Option (Int × List (Int) × Int) := lock armplanmake_Source_Next.F0
theorem armplanmake_Source_Next.F_eq : armplanmake_Source_Next.F = armplanmake_Source_Next.F0 := lock_eq _
noncomputable def armplanmake_Source_Next.p : Proc := { nargs := 2, inS := ⟨[(0, .lf (.bp 0 0)), (1, .lf (.sc (.int .i64)))], [.box [.dat (.int .i64), .sc (.int .i64)]]⟩, outS := ⟨[(0, .lf (.sc (.int .i64)))], [.box [.dat (.int .i64), .sc (.int .i64)]]⟩, n0 := 1, R := Int × List (Int) × Int, F := fun x => armplanmake_Source_Next.F x.1.2.1 x.2.1.1 x.2.1.2.1, post := fun r => ((r.1, ()), ((r.2.1, (r.2.2, ())), ())), un := fun x => (x.1.1, x.2.1.1, x.2.1.2.1) }
noncomputable def armplanmake_Source_Next.E : Env := { P := Tryz.prog, ty := tyTab [], glob := glob0, proc := procTab [(8, armplanmake_Round.p)], lproc := lprocTab [], n0 := 1, ntmps := 35 }
theorem armplanmake_Source_Next.ok : ProcsOk armplanmake_Source_Next.E := AllSound.ok (l := [(8, armplanmake_Round.p)]) (by kernel_rfl) rfl ⟨armplanmake_Round.sound, trivial⟩
noncomputable def armplanmake_Source_Next.body0 : Code := (match Tryz.f24.body with | some c => c | none => .skip)
noncomputable def armplanmake_Source_Next.ann : Ann := .z
set_option maxRecDepth 100000 in
theorem armplanmake_Source_Next.eq (x : Tup armplanmake_Source_Next.p.inS) : peFn armplanmake_Source_Next.E Tryz.f24 armplanmake_Source_Next.ann armplanmake_Source_Next.p x = armplanmake_Source_Next.p.F x := by
  have h : peFn armplanmake_Source_Next.E Tryz.f24 armplanmake_Source_Next.ann armplanmake_Source_Next.p x = armplanmake_Source_Next.F0 x.1.2.1 x.2.1.1 x.2.1.2.1 := by kernel_rfl
  exact h.trans (by show _ = armplanmake_Source_Next.F x.1.2.1 x.2.1.1 x.2.1.2.1; rw [armplanmake_Source_Next.F_eq])
set_option maxRecDepth 100000 in
theorem armplanmake_Source_Next.sound : ProcSound Tryz.prog glob0 24 armplanmake_Source_Next.p :=
  fn_sound (E := armplanmake_Source_Next.E) (c := armplanmake_Source_Next.body0) (ann := armplanmake_Source_Next.ann) armplanmake_Source_Next.ok Tryz.func24 (of_decide_eq_true (by kernel_rfl)) rfl rfl rfl (by decide +kernel) ((SubsOk_z _ _) : SubsOk armplanmake_Source_Next.E armplanmake_Source_Next.body0 armplanmake_Source_Next.ann) (fun _ => rfl) rfl armplanmake_Source_Next.eq

/-! ### (*armplan/armplanmake.Source).Signed: function 26 -/
noncomputable def armplanmake_Source_Signed.F0 (a0 : Int) (a1 : List (Int)) (a2 : Int) : Option (Int × List (Int) × Int) :=
  ((armplanmake_Source_Next.F (IntKind.wrap .i64 ((IntKind.wrap .i64 ((2 : Int) * a0)) + (1 : Int))) a1 a2).bind fun r1 => some ((IntKind.wrap .i64 (r1.1 - a0)), r1.2.1, r1.2.2))
noncomputable def armplanmake_Source_Signed.F : Int → (List (Int)) → Int → Option (Int × List (Int) × Int) := lock armplanmake_Source_Signed.F0
theorem armplanmake_Source_Signed.F_eq : armplanmake_Source_Signed.F = armplanmake_Source_Signed.F0 := lock_eq _
noncomputable def armplanmake_Source_Signed.p : Proc := { nargs := 2, inS := ⟨[(0, .lf (.bp 0 0)), (1, .lf (.sc (.int .i64)))], [.box [.dat (.int .i64), .sc (.int .i64)]]⟩, outS := ⟨[(0, .lf (.sc (.int .i64)))], [.box [.dat (.int .i64), .sc (.int .i64)]]⟩, n0 := 1, R := Int × List (Int) × Int, F := fun x => armplanmake_Source_Signed.F x.1.2.1 x.2.1.1 x.2.1.2.1, post := fun r => ((r.1, ()), ((r.2.1, (r.2.2, ())), ())), un := fun x => (x.1.1, x.2.1.1, x.2.1.2.1) }
noncomputable def armplanmake_Source_Signed.E : Env := { P := Tryz.prog, ty := tyTab [], glob := glob0, proc := procTab [(24, armplanmake_Source_Next.p)], lproc := lprocTab [], n0 := 1, ntmps := 12 }
theorem armplanmake_Source_Signed.ok : ProcsOk armplanmake_Source_Signed.E := AllSound.ok (l := [(24, armplanmake_Source_Next.p)]) (by kernel_rfl) rfl ⟨armplanmake_Source_Next.sound, trivial⟩
noncomputable def armplanmake_Source_Signed.body0 : Code := (match Tryz.f26.body with | some c => c | none => .skip)
noncomputable def armplanmake_Source_Signed.ann : Ann := .z
set_option maxRecDepth 100000 in
theorem armplanmake_Source_Signed.eq (x : Tup armplanmake_Source_Signed.p.inS) : peFn armplanmake_Source_Signed.E Tryz.f26 armplanmake_Source_Signed.ann armplanmake_Source_Signed.p x = armplanmake_Source_Signed.p.F x := by
  have h : peFn armplanmake_Source_Signed.E Tryz.f26 armplanmake_Source_Signed.ann armplanmake_Source_Signed.p x = armplanmake_Source_Signed.F0 x.1.2.1 x.2.1.1 x.2.1.2.1 := by kernel_rfl
  exact h.trans (by show _ = armplanmake_Source_Signed.F x.1.2.1 x.2.1.1 x.2.1.2.1; rw [armplanmake_Source_Signed.F_eq])
set_option maxRecDepth 100000 in
theorem armplanmake_Source_Signed.sound : ProcSound Tryz.prog glob0 26 armplanmake_Source_Signed.p :=
  fn_sound (E := armplanmake_Source_Signed.E) (c := armplanmake_Source_Signed.body0) (ann := armplanmake_Source_Signed.ann) armplanmake_Source_Signed.ok Tryz.func26 (of_decide_eq_true (by kernel_rfl)) rfl rfl rfl (by decide +kernel) ((SubsOk_z _ _) : SubsOk armplanmake_Source_Signed.E armplanmake_Source_Signed.body0 armplanmake_Source_Signed.ann) (fun _ => rfl) rfl armplanmake_Source_Signed.eq

/-! ### armplan/armplanlaw8.one: function 28 -/
noncomputable def armplanlaw8_one.F0 (_ : Unit) : Option (List ((ByteArray × (Int × (Int × ((Int × (Int × Int)) × (Int × (Int × (Int × (Int × (Int × Int)))))))))) × List ((Int × (Int × (Int × (Int × Int)))))) :=
  some (([((⟨#[98, 97, 115, 101]⟩ : ByteArray), ((3 : Int), ((-1 : Int), (((0 : Int), ((0 : Int), (0 : Int))), ((-16384 : Int), ((16384 : Int), ((1 : Int), ((65536 : Int), ((65536 : Int), (65536 : Int))))))))))] : List ((ByteArray × (Int × (Int × ((Int × (Int × Int)) × (Int × (Int × (Int × (Int × (Int × Int))))))))))), ([] : List ((Int × (Int × (Int × (Int × Int)))))))
noncomputable def armplanlaw8_one.F : Unit → Option (List ((ByteArray × (Int × (Int × ((Int × (Int × Int)) × (Int × (Int × (Int × (Int × (Int × Int)))))))))) × List ((Int × (Int × (Int × (Int × Int)))))) := lock armplanlaw8_one.F0
theorem armplanlaw8_one.F_eq : armplanlaw8_one.F = armplanlaw8_one.F0 := lock_eq _
noncomputable def armplanlaw8_one.p : Proc := { nargs := 0, inS := ⟨[], []⟩, outS := ⟨[(0, .ag [.dat (.pair .str (.pair (.int .i64) (.pair (.int .i64) (.pair (.pair (.int .i64) (.pair (.int .i64) (.int .i64))) (.pair (.int .i64) (.pair (.int .i64) (.pair (.int .i64) (.pair (.int .i64) (.pair (.int .i64) (.int .i64)))))))))), .dat (.pair (.int .i64) (.pair (.int .i64) (.pair (.int .i64) (.pair (.int .i64) (.int .i64)))))])], []⟩, n0 := 0, R := List ((ByteArray × (Int × (Int × ((Int × (Int × Int)) × (Int × (Int × (Int × (Int × (Int × Int)))))))))) × List ((Int × (Int × (Int × (Int × Int))))), F := fun x => armplanlaw8_one.F (), post := fun r => (((r.1, (r.2, ())), ()), ()), un := fun x => (x.1.1.1, x.1.1.2.1) }
noncomputable def armplanlaw8_one.E : Env := { P := Tryz.prog, ty := tyTab [(79, (.pair .str (.pair (.int .i64) (.pair (.int .i64) (.pair (.pair (.int .i64) (.pair (.int .i64) (.int .i64))) (.pair (.int .i64) (.pair (.int .i64) (.pair (.int .i64) (.pair (.int .i64) (.pair (.int .i64) (.int .i64))))))))))), (85, (.pair (.int .i64) (.pair (.int .i64) (.pair (.int .i64) (.pair (.int .i64) (.int .i64))))))], glob := glob0, proc := procTab [], lproc := lprocTab [], n0 := 0, ntmps := 4 }
theorem armplanlaw8_one.ok : ProcsOk armplanlaw8_one.E := AllSound.ok (l := []) (by kernel_rfl) rfl trivial
noncomputable def armplanlaw8_one.body0 : Code := (match Tryz.f28.body with | some c => c | none => .skip)
noncomputable def armplanlaw8_one.ann : Ann := .z
set_option maxRecDepth 100000 in
theorem armplanlaw8_one.eq (x : Tup armplanlaw8_one.p.inS) : peFn armplanlaw8_one.E Tryz.f28 armplanlaw8_one.ann armplanlaw8_one.p x = armplanlaw8_one.p.F x := by
  have h : peFn armplanlaw8_one.E Tryz.f28 armplanlaw8_one.ann armplanlaw8_one.p x = armplanlaw8_one.F0 () := by kernel_rfl
  exact h.trans (by show _ = armplanlaw8_one.F (); rw [armplanlaw8_one.F_eq])
set_option maxRecDepth 100000 in
theorem armplanlaw8_one.sound : ProcSound Tryz.prog glob0 28 armplanlaw8_one.p :=
  fn_sound (E := armplanlaw8_one.E) (c := armplanlaw8_one.body0) (ann := armplanlaw8_one.ann) armplanlaw8_one.ok Tryz.func28 (of_decide_eq_true (by kernel_rfl)) rfl rfl rfl (by decide +kernel) ((SubsOk_z _ _) : SubsOk armplanlaw8_one.E armplanlaw8_one.body0 armplanlaw8_one.ann) (fun _ => rfl) rfl armplanlaw8_one.eq

/-! ### armplan/armplanref6.Decimal: function 39 -/
noncomputable def armplanref6_Decimal.p0.round (v0 : Int) (v1 : Int) (v2 : ByteArray) : Option ((Int × Int × ByteArray) ⊕ ((ByteArray))) :=
  (bif decide (v0 > (0 : Int)) then (bif decide (0 ≤ (v0.tmod (10 : Int))) then (bif decide ((v0.tmod (10 : Int)) ≤ (IntKind.wrap .i64 ((v0.tmod (10 : Int)) + (1 : Int)))) then (bif decide ((IntKind.wrap .i64 ((v0.tmod (10 : Int)) + (1 : Int))) ≤ ((⟨#[48, 49, 50, 51, 52, 53, 54, 55, 56, 57]⟩ : ByteArray).size : Int)) then (bif (catOk ((⟨#[48, 49, 50, 51, 52, 53, 54, 55, 56, 57]⟩ : ByteArray).extract (v0.tmod (10 : Int)).toNat (IntKind.wrap .i64 ((v0.tmod (10 : Int)) + (1 : Int))).toNat) v2) then some (.inl ((IntKind.wrap .i64 (v0.tdiv (10 : Int))), v1, (((⟨#[48, 49, 50, 51, 52, 53, 54, 55, 56, 57]⟩ : ByteArray).extract (v0.tmod (10 : Int)).toNat (IntKind.wrap .i64 ((v0.tmod (10 : Int)) + (1 : Int))).toNat) ++ v2))) else none) else none) else none) else none) else (bif decide ((v2.size : Int) < v1) then (bif decide (0 ≤ (v0.tmod (10 : Int))) then (bif decide ((v0.tmod (10 : Int)) ≤ (IntKind.wrap .i64 ((v0.tmod (10 : Int)) + (1 : Int)))) then (bif decide ((IntKind.wrap .i64 ((v0.tmod (10 : Int)) + (1 : Int))) ≤ ((⟨#[48, 49, 50, 51, 52, 53, 54, 55, 56, 57]⟩ : ByteArray).size : Int)) then (bif (catOk ((⟨#[48, 49, 50, 51, 52, 53, 54, 55, 56, 57]⟩ : ByteArray).extract (v0.tmod (10 : Int)).toNat (IntKind.wrap .i64 ((v0.tmod (10 : Int)) + (1 : Int))).toNat) v2) then some (.inl ((IntKind.wrap .i64 (v0.tdiv (10 : Int))), v1, (((⟨#[48, 49, 50, 51, 52, 53, 54, 55, 56, 57]⟩ : ByteArray).extract (v0.tmod (10 : Int)).toNat (IntKind.wrap .i64 ((v0.tmod (10 : Int)) + (1 : Int))).toNat) ++ v2))) else none) else none) else none) else none) else some (.inr v2)))
noncomputable def armplanref6_Decimal.p0.step (s : Int × Int × ByteArray) : Option ((Int × Int × ByteArray) ⊕ ((ByteArray))) := armplanref6_Decimal.p0.round s.1 s.2.1 s.2.2
noncomputable def armplanref6_Decimal.p0.inS : Shape := ⟨[(0, .lf (.sc (.int .i64))), (1, .lf (.sc (.int .i64))), (5, .lf (.sc .str))], []⟩
noncomputable def armplanref6_Decimal.p0.w0 : Way := { ex := (.ex 0), S := ⟨[(5, .lf (.sc .str))], []⟩, R := ByteArray, post := fun r => ((r, ()), ()), un := fun x => x.1.1 }
noncomputable def armplanref6_Decimal.p0.outs : List Way := [armplanref6_Decimal.p0.w0]
noncomputable def armplanref6_Decimal.p0.un (x : Tup armplanref6_Decimal.p0.inS) : Int × Int × ByteArray := (x.1.1, x.1.2.1, x.1.2.2.1)
noncomputable def armplanref6_Decimal.p0.lp : LProc := { inS := armplanref6_Decimal.p0.inS, outs := armplanref6_Decimal.p0.outs, F := fun x => loopF armplanref6_Decimal.p0.step (armplanref6_Decimal.p0.un x) }
noncomputable def armplanref6_Decimal.F0 (a0 : Int) (a1 : Int) : Option (ByteArray) :=
  ((loopF armplanref6_Decimal.p0.step (a0, a1, (⟨#[]⟩ : ByteArray))).bind fun y1 => some y1)
noncomputable def armplanref6_Decimal.F : Int → Int → Option (ByteArray) := lock armplanref6_Decimal.F0
theorem armplanref6_Decimal.F_eq : armplanref6_Decimal.F = armplanref6_Decimal.F0 := lock_eq _
noncomputable def armplanref6_Decimal.p : Proc := { nargs := 2, inS := ⟨[(0, .lf (.sc (.int .i64))), (1, .lf (.sc (.int .i64)))], []⟩, outS := ⟨[(0, .lf (.sc .str))], []⟩, n0 := 0, R := ByteArray, F := fun x => armplanref6_Decimal.F x.1.1 x.1.2.1, post := fun r => ((r, ()), ()), un := fun x => x.1.1 }
noncomputable def armplanref6_Decimal.E : Env := { P := Tryz.prog, ty := tyTab [], glob := glob0, proc := procTab [], lproc := lprocTab [(0, armplanref6_Decimal.p0.lp)], n0 := 0, ntmps := 26 }
theorem armplanref6_Decimal.ok : ProcsOk armplanref6_Decimal.E := AllSound.ok (l := []) (by kernel_rfl) rfl trivial
noncomputable def armplanref6_Decimal.body0 : Code := (match Tryz.f39.body with | some c => c | none => .skip)
noncomputable def armplanref6_Decimal.p0.c : Code := ((codeAt armplanref6_Decimal.body0 [.r, .r, .l, .b, .b]).getD .skip)
noncomputable def armplanref6_Decimal.p0.ann : Ann := .z
set_option maxRecDepth 100000 in
theorem armplanref6_Decimal.p0.eq (x : Tup armplanref6_Decimal.p0.inS) : peRound armplanref6_Decimal.E armplanref6_Decimal.p0.c armplanref6_Decimal.p0.ann _ armplanref6_Decimal.p0.inS armplanref6_Decimal.p0.un armplanref6_Decimal.p0.outs x = armplanref6_Decimal.p0.step (armplanref6_Decimal.p0.un x) := by
  kernel_rfl
set_option maxRecDepth 100000 in
theorem armplanref6_Decimal.p0.sound : LProcSound armplanref6_Decimal.E (.loop armplanref6_Decimal.p0.c) armplanref6_Decimal.p0.lp :=
  loop_sound (c := armplanref6_Decimal.p0.c) (ann := armplanref6_Decimal.p0.ann) armplanref6_Decimal.ok ((SubsOk_z _ _) : SubsOk armplanref6_Decimal.E armplanref6_Decimal.p0.c armplanref6_Decimal.p0.ann) (by intro a ha; simp only [armplanref6_Decimal.p0.outs, List.mem_cons, List.not_mem_nil, or_false] at ha; rcases ha with rfl <;> exact fun _ => rfl) armplanref6_Decimal.p0.eq
noncomputable def armplanref6_Decimal.ann : Ann := .s (.z) (.s (.z) (.s (.b (.sub 0)) (.z)))
set_option maxRecDepth 100000 in
theorem armplanref6_Decimal.eq (x : Tup armplanref6_Decimal.p.inS) : peFn armplanref6_Decimal.E Tryz.f39 armplanref6_Decimal.ann armplanref6_Decimal.p x = armplanref6_Decimal.p.F x := by
  have h : peFn armplanref6_Decimal.E Tryz.f39 armplanref6_Decimal.ann armplanref6_Decimal.p x = armplanref6_Decimal.F0 x.1.1 x.1.2.1 := by kernel_rfl
  exact h.trans (by show _ = armplanref6_Decimal.F x.1.1 x.1.2.1; rw [armplanref6_Decimal.F_eq])
set_option maxRecDepth 100000 in
theorem armplanref6_Decimal.sound : ProcSound Tryz.prog glob0 39 armplanref6_Decimal.p :=
  fn_sound (E := armplanref6_Decimal.E) (c := armplanref6_Decimal.body0) (ann := armplanref6_Decimal.ann) armplanref6_Decimal.ok Tryz.func39 (of_decide_eq_true (by kernel_rfl)) rfl rfl rfl (by decide +kernel) (⟨(SubsOk_z _ _), ⟨(SubsOk_z _ _), ⟨(sub_of rfl armplanref6_Decimal.p0.sound), (SubsOk_z _ _)⟩⟩⟩ : SubsOk armplanref6_Decimal.E armplanref6_Decimal.body0 armplanref6_Decimal.ann) (fun _ => rfl) rfl armplanref6_Decimal.eq

/-! ### armplan/armplanref6.between: function 41 -/
noncomputable def armplanref6_between.F0 (a0 : Int) (a1 : Int) (a2 : Int) : Option (Bool) :=
  (bif decide (a1 ≤ a0) then some (decide (a0 ≤ a2)) else some false)
noncomputable def armplanref6_between.F : Int → Int → Int → Option (Bool) := lock armplanref6_between.F0
theorem armplanref6_between.F_eq : armplanref6_between.F = armplanref6_between.F0 := lock_eq _
noncomputable def armplanref6_between.p : Proc := { nargs := 3, inS := ⟨[(0, .lf (.sc (.int .i64))), (1, .lf (.sc (.int .i64))), (2, .lf (.sc (.int .i64)))], []⟩, outS := ⟨[(0, .lf (.sc .bool))], []⟩, n0 := 0, R := Bool, F := fun x => armplanref6_between.F x.1.1 x.1.2.1 x.1.2.2.1, post := fun r => ((r, ()), ()), un := fun x => x.1.1 }
noncomputable def armplanref6_between.E : Env := { P := Tryz.prog, ty := tyTab [], glob := glob0, proc := procTab [], lproc := lprocTab [], n0 := 0, ntmps := 15 }
theorem armplanref6_between.ok : ProcsOk armplanref6_between.E := AllSound.ok (l := []) (by kernel_rfl) rfl trivial
noncomputable def armplanref6_between.body0 : Code := (match Tryz.f41.body with | some c => c | none => .skip)
noncomputable def armplanref6_between.ann : Ann := .z
set_option maxRecDepth 100000 in
theorem armplanref6_between.eq (x : Tup armplanref6_between.p.inS) : peFn armplanref6_between.E Tryz.f41 armplanref6_between.ann armplanref6_between.p x = armplanref6_between.p.F x := by
  have h : peFn armplanref6_between.E Tryz.f41 armplanref6_between.ann armplanref6_between.p x = armplanref6_between.F0 x.1.1 x.1.2.1 x.1.2.2.1 := by kernel_rfl
  exact h.trans (by show _ = armplanref6_between.F x.1.1 x.1.2.1 x.1.2.2.1; rw [armplanref6_between.F_eq])
set_option maxRecDepth 100000 in
theorem armplanref6_between.sound : ProcSound Tryz.prog glob0 41 armplanref6_between.p :=
  fn_sound (E := armplanref6_between.E) (c := armplanref6_between.body0) (ann := armplanref6_between.ann) armplanref6_between.ok Tryz.func41 (of_decide_eq_true (by kernel_rfl)) rfl rfl rfl (by decide +kernel) ((SubsOk_z _ _) : SubsOk armplanref6_between.E armplanref6_between.body0 armplanref6_between.ann) (fun _ => rfl) rfl armplanref6_between.eq

/-! ### armplan/armplanref6.Near: function 42 -/
noncomputable def armplanref6_Near.p0.round (v0 : Int) (v1 : Int) (v2 : Int) (v3 : Int) (v4 : Int) : Option ((Int × Int × Int × Int × Int) ⊕ ((Bool) ⊕ (Unit))) :=
  (bif decide (v1 < (3 : Int)) then (bif (v1 == (0 : Int)) then (bif decide (v2 < (IntKind.wrap .i64 (0 - v0))) then some (.inr (.inl false)) else (bif (v1 == (0 : Int)) then (bif decide (v2 > v0) then some (.inr (.inl false)) else some (.inl (v0, (IntKind.wrap .i64 (v1 + (1 : Int))), v2, v3, v4))) else (bif (v1 == (1 : Int)) then (bif decide (v3 > v0) then some (.inr (.inl false)) else some (.inl (v0, (IntKind.wrap .i64 (v1 + (1 : Int))), v2, v3, v4))) else (bif (v1 == (2 : Int)) then (bif decide (v4 > v0) then some (.inr (.inl false)) else some (.inl (v0, (IntKind.wrap .i64 (v1 + (1 : Int))), v2, v3, v4))) else none)))) else (bif (v1 == (1 : Int)) then (bif decide (v3 < (IntKind.wrap .i64 (0 - v0))) then some (.inr (.inl false)) else (bif (v1 == (0 : Int)) then (bif decide (v2 > v0) then some (.inr (.inl false)) else some (.inl (v0, (IntKind.wrap .i64 (v1 + (1 : Int))), v2, v3, v4))) else (bif (v1 == (1 : Int)) then (bif decide (v3 > v0) then some (.inr (.inl false)) else some (.inl (v0, (IntKind.wrap .i64 (v1 + (1 : Int))), v2, v3, v4))) else (bif (v1 == (2 : Int)) then (bif decide (v4 > v0) then some (.inr (.inl false)) else some (.inl (v0, (IntKind.wrap .i64 (v1 + (1 : Int))), v2, v3, v4))) else none)))) else (bif (v1 == (2 : Int)) then (bif decide (v4 < (IntKind.wrap .i64 (0 - v0))) then some (.inr (.inl false)) else (bif (v1 == (0 : Int)) then (bif decide (v2 > v0) then some (.inr (.inl false)) else some (.inl (v0, (IntKind.wrap .i64 (v1 + (1 : Int))), v2, v3, v4))) else (bif (v1 == (1 : Int)) then (bif decide (v3 > v0) then some (.inr (.inl false)) else some (.inl (v0, (IntKind.wrap .i64 (v1 + (1 : Int))), v2, v3, v4))) else (bif (v1 == (2 : Int)) then (bif decide (v4 > v0) then some (.inr (.inl false)) else some (.inl (v0, (IntKind.wrap .i64 (v1 + (1 : Int))), v2, v3, v4))) else none)))) else none))) else some (.inr (.inr ())))
noncomputable def armplanref6_Near.p0.step (s : Int × Int × Int × Int × Int) : Option ((Int × Int × Int × Int × Int) ⊕ ((Bool) ⊕ (Unit))) := armplanref6_Near.p0.round s.1 s.2.1 s.2.2.1 s.2.2.2.1 s.2.2.2.2
noncomputable def armplanref6_Near.p0.inS : Shape := ⟨[(1, .lf (.sc (.int .i64))), (2, .lf (.bp 0 0)), (5, .lf (.sc (.int .i64)))], [.box [.sc (.int .i64), .sc (.int .i64), .sc (.int .i64)]]⟩
noncomputable def armplanref6_Near.p0.w0 : Way := { ex := .rt, S := ⟨[(4, .lf (.sc .bool))], []⟩, R := Bool, post := fun r => ((r, ()), ()), un := fun x => x.1.1 }
noncomputable def armplanref6_Near.p0.w1 : Way := { ex := (.ex 0), S := ⟨[], []⟩, R := Unit, post := fun r => ((), ()), un := fun x => () }
noncomputable def armplanref6_Near.p0.outs : List Way := [armplanref6_Near.p0.w0, armplanref6_Near.p0.w1]
noncomputable def armplanref6_Near.p0.un (x : Tup armplanref6_Near.p0.inS) : Int × Int × Int × Int × Int := (x.1.1, x.1.2.2.1, x.2.1.1, x.2.1.2.1, x.2.1.2.2.1)
noncomputable def armplanref6_Near.p0.lp : LProc := { inS := armplanref6_Near.p0.inS, outs := armplanref6_Near.p0.outs, F := fun x => loopF armplanref6_Near.p0.step (armplanref6_Near.p0.un x) }
noncomputable def armplanref6_Near.F0 (a0 : Int) (a1 : Int) (a2 : Int) (a3 : Int) : Option (Bool) :=
  ((loopF armplanref6_Near.p0.step (a3, (0 : Int), a0, a1, a2)).bind fun y1 => (Sum.elim (fun y2 => some y2) (fun z3 => some true) y1))
noncomputable def armplanref6_Near.F : Int → Int → Int → Int → Option (Bool) := lock armplanref6_Near.F0
theorem armplanref6_Near.F_eq : armplanref6_Near.F = armplanref6_Near.F0 := lock_eq _
noncomputable def armplanref6_Near.p : Proc := { nargs := 2, inS := ⟨[(0, .ag [.sc (.int .i64), .sc (.int .i64), .sc (.int .i64)]), (1, .lf (.sc (.int .i64)))], []⟩, outS := ⟨[(0, .lf (.sc .bool))], []⟩, n0 := 0, R := Bool, F := fun x => armplanref6_Near.F x.1.1.1 x.1.1.2.1 x.1.1.2.2.1 x.1.2.1, post := fun r => ((r, ()), ()), un := fun x => x.1.1 }
noncomputable def armplanref6_Near.E : Env := { P := Tryz.prog, ty := tyTab [], glob := glob0, proc := procTab [], lproc := lprocTab [(0, armplanref6_Near.p0.lp)], n0 := 0, ntmps := 23 }
theorem armplanref6_Near.ok : ProcsOk armplanref6_Near.E := AllSound.ok (l := []) (by kernel_rfl) rfl trivial
noncomputable def armplanref6_Near.body0 : Code := (match Tryz.f42.body with | some c => c | none => .skip)
noncomputable def armplanref6_Near.p0.c : Code := ((codeAt armplanref6_Near.body0 [.r, .l, .r, .b, .b]).getD .skip)
noncomputable def armplanref6_Near.p0.ann : Ann := .z
set_option maxRecDepth 100000 in
theorem armplanref6_Near.p0.eq (x : Tup armplanref6_Near.p0.inS) : peRound armplanref6_Near.E armplanref6_Near.p0.c armplanref6_Near.p0.ann _ armplanref6_Near.p0.inS armplanref6_Near.p0.un armplanref6_Near.p0.outs x = armplanref6_Near.p0.step (armplanref6_Near.p0.un x) := by
  kernel_rfl
set_option maxRecDepth 100000 in
theorem armplanref6_Near.p0.sound : LProcSound armplanref6_Near.E (.loop armplanref6_Near.p0.c) armplanref6_Near.p0.lp :=
  loop_sound (c := armplanref6_Near.p0.c) (ann := armplanref6_Near.p0.ann) armplanref6_Near.ok ((SubsOk_z _ _) : SubsOk armplanref6_Near.E armplanref6_Near.p0.c armplanref6_Near.p0.ann) (by intro a ha; simp only [armplanref6_Near.p0.outs, List.mem_cons, List.not_mem_nil, or_false] at ha; rcases ha with rfl | rfl <;> exact fun _ => rfl) armplanref6_Near.p0.eq
noncomputable def armplanref6_Near.ann : Ann := .s (.z) (.s (.s (.z) (.b (.sub 0))) (.z))
set_option maxRecDepth 100000 in
theorem armplanref6_Near.eq (x : Tup armplanref6_Near.p.inS) : peFn armplanref6_Near.E Tryz.f42 armplanref6_Near.ann armplanref6_Near.p x = armplanref6_Near.p.F x := by
  have h : peFn armplanref6_Near.E Tryz.f42 armplanref6_Near.ann armplanref6_Near.p x = armplanref6_Near.F0 x.1.1.1 x.1.1.2.1 x.1.1.2.2.1 x.1.2.1 := by kernel_rfl
  exact h.trans (by show _ = armplanref6_Near.F x.1.1.1 x.1.1.2.1 x.1.1.2.2.1 x.1.2.1; rw [armplanref6_Near.F_eq])
set_option maxRecDepth 100000 in
theorem armplanref6_Near.sound : ProcSound Tryz.prog glob0 42 armplanref6_Near.p :=
  fn_sound (E := armplanref6_Near.E) (c := armplanref6_Near.body0) (ann := armplanref6_Near.ann) armplanref6_Near.ok Tryz.func42 (of_decide_eq_true (by kernel_rfl)) rfl rfl rfl (by decide +kernel) (⟨(SubsOk_z _ _), ⟨⟨(SubsOk_z _ _), (sub_of rfl armplanref6_Near.p0.sound)⟩, (SubsOk_z _ _)⟩⟩ : SubsOk armplanref6_Near.E armplanref6_Near.body0 armplanref6_Near.ann) (fun _ => rfl) rfl armplanref6_Near.eq

/-! ### armplan/token.Format: function 45 -/
noncomputable def token_Format.p1.F0 (v0 : Int) (v1 : ByteArray) : Option ((ByteArray)) :=
  (bif ((65536 : Int) != 0) then ((libFormatInt.F (IntKind.wrap .i64 (v0.tdiv (65536 : Int))) (10 : Int)).bind fun r15 => (bif (catOk v1 r15) then (bif ((65536 : Int) != 0) then (bif ((v0.tmod (65536 : Int)) == (0 : Int)) then some (v1 ++ r15) else (bif ((131072 : Int) != 0) then ((libFormatInt.F (IntKind.wrap .i64 ((IntKind.wrap .i64 ((IntKind.wrap .i64 ((IntKind.wrap .i64 ((2 : Int) * (v0.tmod (65536 : Int)))) * (100000 : Int))) + (65536 : Int))).tdiv (131072 : Int))) (10 : Int)).bind fun r16 => ((libRepeat.F (⟨#[48]⟩ : ByteArray) (IntKind.wrap .i64 ((5 : Int) - (r16.size : Int)))).bind fun r17 => (bif (catOk r17 r16) then (bif (catOk (v1 ++ r15) (⟨#[46]⟩ : ByteArray)) then ((libTrimRight.F (r17 ++ r16) (⟨#[48]⟩ : ByteArray)).bind fun r18 => (bif (catOk ((v1 ++ r15) ++ (⟨#[46]⟩ : ByteArray)) r18) then some (((v1 ++ r15) ++ (⟨#[46]⟩ : ByteArray)) ++ r18) else none)) else none) else none))) else none)) else none) else none)) else none)
noncomputable def token_Format.p1 : Int → ByteArray → Option ((ByteArray)) := lock token_Format.p1.F0
theorem token_Format.p1.F_eq : token_Format.p1 = token_Format.p1.F0 := lock_eq _
noncomputable def token_Format.p1.inS : Shape := ⟨[(0, .lf (.sc (.int .i64))), (3, .lf (.sc .str))], []⟩
noncomputable def token_Format.p1.w0 : Way := { ex := .rt, S := ⟨[(2, .lf (.sc .str))], []⟩, R := ByteArray, post := fun r => ((r, ()), ()), un := fun x => x.1.1 }
noncomputable def token_Format.p1.outs : List Way := [token_Format.p1.w0]
noncomputable def token_Format.p1.lp : LProc := { inS := token_Format.p1.inS, outs := token_Format.p1.outs, F := fun x => token_Format.p1 x.1.1 x.1.2.1 }
noncomputable def token_Format.p0.F0 (v0 : Int) : Option ((ByteArray)) :=
  (bif decide (v0 < (0 : Int)) then ((token_Format.p1 (IntKind.wrap .i64 (0 - v0)) (⟨#[45]⟩ : ByteArray)).bind fun y19 => some y19) else ((token_Format.p1 v0 (⟨#[]⟩ : ByteArray)).bind fun y20 => some y20))
noncomputable def token_Format.p0 : Int → Option ((ByteArray)) := lock token_Format.p0.F0
theorem token_Format.p0.F_eq : token_Format.p0 = token_Format.p0.F0 := lock_eq _
noncomputable def token_Format.p0.inS : Shape := ⟨[(0, .lf (.sc (.int .i64)))], []⟩
noncomputable def token_Format.p0.w0 : Way := { ex := .rt, S := ⟨[(2, .lf (.sc .str))], []⟩, R := ByteArray, post := fun r => ((r, ()), ()), un := fun x => x.1.1 }
noncomputable def token_Format.p0.outs : List Way := [token_Format.p0.w0]
noncomputable def token_Format.p0.lp : LProc := { inS := token_Format.p0.inS, outs := token_Format.p0.outs, F := fun x => token_Format.p0 x.1.1 }
noncomputable def token_Format.F0 (a0 : Int) : Option (ByteArray) :=
  ((token_Format.p0 (bif decide ((2147483648 : Int) < (bif decide ((-2147483648 : Int) > a0) then (-2147483648 : Int) else a0)) then (2147483648 : Int) else (bif decide ((-2147483648 : Int) > a0) then (-2147483648 : Int) else a0))).bind fun y21 => some y21)
noncomputable def token_Format.F : Int → Option (ByteArray) := lock token_Format.F0
theorem token_Format.F_eq : token_Format.F = token_Format.F0 := lock_eq _
noncomputable def token_Format.p : Proc := { nargs := 1, inS := ⟨[(0, .lf (.sc (.int .i64)))], []⟩, outS := ⟨[(0, .lf (.sc .str))], []⟩, n0 := 0, R := ByteArray, F := fun x => token_Format.F x.1.1, post := fun r => ((r, ()), ()), un := fun x => x.1.1 }
noncomputable def token_Format.E : Env := { P := Tryz.prog, ty := tyTab [], glob := glob0, proc := procTab [(72, lib_FormatInt.p), (73, lib_Repeat.p), (74, lib_TrimRight.p)], lproc := lprocTab [(0, token_Format.p0.lp), (1, token_Format.p1.lp)], n0 := 0, ntmps := 41 }
theorem token_Format.ok : ProcsOk token_Format.E := AllSound.ok (l := [(72, lib_FormatInt.p), (73, lib_Repeat.p), (74, lib_TrimRight.p)]) (by kernel_rfl) rfl ⟨lib_FormatInt.sound, lib_Repeat.sound, lib_TrimRight.sound, trivial⟩
noncomputable def token_Format.body0 : Code := (match Tryz.f45.body with | some c => c | none => .skip)
noncomputable def token_Format.p1.c : Code := ((codeAt token_Format.body0 [.r, .r, .r, .r]).getD .skip)
noncomputable def token_Format.p1.ann : Ann := .z
set_option maxRecDepth 100000 in
theorem token_Format.p1.eq (x : Tup token_Format.p1.inS) : peL token_Format.E token_Format.p1.c token_Format.p1.ann token_Format.p1.lp x = token_Format.p1.lp.F x := by
  have h : peL token_Format.E token_Format.p1.c token_Format.p1.ann token_Format.p1.lp x = token_Format.p1.F0 x.1.1 x.1.2.1 := by kernel_rfl
  exact h.trans (by show _ = token_Format.p1 x.1.1 x.1.2.1; rw [token_Format.p1.F_eq])
set_option maxRecDepth 100000 in
theorem token_Format.p1.sound : LProcSound token_Format.E token_Format.p1.c token_Format.p1.lp :=
  piece_sound (c := token_Format.p1.c) (ann := token_Format.p1.ann) token_Format.ok ((SubsOk_z _ _) : SubsOk token_Format.E token_Format.p1.c token_Format.p1.ann) (by intro a ha; simp only [token_Format.p1.lp, token_Format.p1.outs, List.mem_cons, List.not_mem_nil, or_false] at ha; rcases ha with rfl <;> exact fun _ => rfl) token_Format.p1.eq
noncomputable def token_Format.p0.c : Code := ((codeAt token_Format.body0 [.r, .r]).getD .skip)
noncomputable def token_Format.p0.ann : Ann := .s (.z) (.s (.z) (.sub 1))
set_option maxRecDepth 100000 in
theorem token_Format.p0.eq (x : Tup token_Format.p0.inS) : peL token_Format.E token_Format.p0.c token_Format.p0.ann token_Format.p0.lp x = token_Format.p0.lp.F x := by
  have h : peL token_Format.E token_Format.p0.c token_Format.p0.ann token_Format.p0.lp x = token_Format.p0.F0 x.1.1 := by kernel_rfl
  exact h.trans (by show _ = token_Format.p0 x.1.1; rw [token_Format.p0.F_eq])
set_option maxRecDepth 100000 in
theorem token_Format.p0.sound : LProcSound token_Format.E token_Format.p0.c token_Format.p0.lp :=
  piece_sound (c := token_Format.p0.c) (ann := token_Format.p0.ann) token_Format.ok (⟨(SubsOk_z _ _), ⟨(SubsOk_z _ _), (sub_of rfl token_Format.p1.sound)⟩⟩ : SubsOk token_Format.E token_Format.p0.c token_Format.p0.ann) (by intro a ha; simp only [token_Format.p0.lp, token_Format.p0.outs, List.mem_cons, List.not_mem_nil, or_false] at ha; rcases ha with rfl <;> exact fun _ => rfl) token_Format.p0.eq
noncomputable def token_Format.ann : Ann := .s (.z) (.s (.z) (.sub 0))
set_option maxRecDepth 100000 in
theorem token_Format.eq (x : Tup token_Format.p.inS) : peFn token_Format.E Tryz.f45 token_Format.ann token_Format.p x = token_Format.p.F x := by
  have h : peFn token_Format.E Tryz.f45 token_Format.ann token_Format.p x = token_Format.F0 x.1.1 := by kernel_rfl
  exact h.trans (by show _ = token_Format.F x.1.1; rw [token_Format.F_eq])
set_option maxRecDepth 100000 in
theorem token_Format.sound : ProcSound Tryz.prog glob0 45 token_Format.p :=
  fn_sound (E := token_Format.E) (c := token_Format.body0) (ann := token_Format.ann) token_Format.ok Tryz.func45 (of_decide_eq_true (by kernel_rfl)) rfl rfl rfl (by decide +kernel) (⟨(SubsOk_z _ _), ⟨(SubsOk_z _ _), (sub_of rfl token_Format.p0.sound)⟩⟩ : SubsOk token_Format.E token_Format.body0 token_Format.ann) (fun _ => rfl) rfl token_Format.eq

/-! ### armplan/robot.decimal: function 46 -/
noncomputable def robot_decimal.F0 (a0 : Int) : Option (ByteArray) :=
  ((libFormatInt.F a0 (10 : Int)).bind fun r1 => some r1)
noncomputable def robot_decimal.F : Int → Option (ByteArray) := lock robot_decimal.F0
theorem robot_decimal.F_eq : robot_decimal.F = robot_decimal.F0 := lock_eq _
noncomputable def robot_decimal.p : Proc := { nargs := 1, inS := ⟨[(0, .lf (.sc (.int .i64)))], []⟩, outS := ⟨[(0, .lf (.sc .str))], []⟩, n0 := 0, R := ByteArray, F := fun x => robot_decimal.F x.1.1, post := fun r => ((r, ()), ()), un := fun x => x.1.1 }
noncomputable def robot_decimal.E : Env := { P := Tryz.prog, ty := tyTab [], glob := glob0, proc := procTab [(72, lib_FormatInt.p)], lproc := lprocTab [], n0 := 0, ntmps := 5 }
theorem robot_decimal.ok : ProcsOk robot_decimal.E := AllSound.ok (l := [(72, lib_FormatInt.p)]) (by kernel_rfl) rfl ⟨lib_FormatInt.sound, trivial⟩
noncomputable def robot_decimal.body0 : Code := (match Tryz.f46.body with | some c => c | none => .skip)
noncomputable def robot_decimal.ann : Ann := .z
set_option maxRecDepth 100000 in
theorem robot_decimal.eq (x : Tup robot_decimal.p.inS) : peFn robot_decimal.E Tryz.f46 robot_decimal.ann robot_decimal.p x = robot_decimal.p.F x := by
  have h : peFn robot_decimal.E Tryz.f46 robot_decimal.ann robot_decimal.p x = robot_decimal.F0 x.1.1 := by kernel_rfl
  exact h.trans (by show _ = robot_decimal.F x.1.1; rw [robot_decimal.F_eq])
set_option maxRecDepth 100000 in
theorem robot_decimal.sound : ProcSound Tryz.prog glob0 46 robot_decimal.p :=
  fn_sound (E := robot_decimal.E) (c := robot_decimal.body0) (ann := robot_decimal.ann) robot_decimal.ok Tryz.func46 (of_decide_eq_true (by kernel_rfl)) rfl rfl rfl (by decide +kernel) ((SubsOk_z _ _) : SubsOk robot_decimal.E robot_decimal.body0 robot_decimal.ann) (fun _ => rfl) rfl robot_decimal.eq

/-! ### armplan/armplanmake.Same[armplan/api.Joint]: function 47 -/
noncomputable def armplanmake_Same_Joint.p0.round (v0 : List ((ByteArray × (Int × (Int × ((Int × (Int × Int)) × (Int × (Int × (Int × (Int × (Int × Int))))))))))) (v1 : List ((ByteArray × (Int × (Int × ((Int × (Int × Int)) × (Int × (Int × (Int × (Int × (Int × Int))))))))))) (v2 : Int) : Option ((List ((ByteArray × (Int × (Int × ((Int × (Int × Int)) × (Int × (Int × (Int × (Int × (Int × Int)))))))))) × List ((ByteArray × (Int × (Int × ((Int × (Int × Int)) × (Int × (Int × (Int × (Int × (Int × Int)))))))))) × Int) ⊕ ((Bool) ⊕ (Unit))) :=
  (bif decide (v2 < (v0.length : Int)) then (bif decide (0 ≤ v2) then (bif decide (v2 < (v0.length : Int)) then (bif decide (0 ≤ v2) then (bif decide (v2 < (v1.length : Int)) then (bif (!((eqS (v0.getD v2.toNat ((⟨#[]⟩ : ByteArray), ((0 : Int), ((0 : Int), (((0 : Int), ((0 : Int), (0 : Int))), ((0 : Int), ((0 : Int), ((0 : Int), ((0 : Int), ((0 : Int), (0 : Int))))))))))).1 (v1.getD v2.toNat ((⟨#[]⟩ : ByteArray), ((0 : Int), ((0 : Int), (((0 : Int), ((0 : Int), (0 : Int))), ((0 : Int), ((0 : Int), ((0 : Int), ((0 : Int), ((0 : Int), (0 : Int))))))))))).1) && ((((v0.getD v2.toNat ((⟨#[]⟩ : ByteArray), ((0 : Int), ((0 : Int), (((0 : Int), ((0 : Int), (0 : Int))), ((0 : Int), ((0 : Int), ((0 : Int), ((0 : Int), ((0 : Int), (0 : Int))))))))))).2).1 == ((v1.getD v2.toNat ((⟨#[]⟩ : ByteArray), ((0 : Int), ((0 : Int), (((0 : Int), ((0 : Int), (0 : Int))), ((0 : Int), ((0 : Int), ((0 : Int), ((0 : Int), ((0 : Int), (0 : Int))))))))))).2).1) && (((((v0.getD v2.toNat ((⟨#[]⟩ : ByteArray), ((0 : Int), ((0 : Int), (((0 : Int), ((0 : Int), (0 : Int))), ((0 : Int), ((0 : Int), ((0 : Int), ((0 : Int), ((0 : Int), (0 : Int))))))))))).2).2).1 == (((v1.getD v2.toNat ((⟨#[]⟩ : ByteArray), ((0 : Int), ((0 : Int), (((0 : Int), ((0 : Int), (0 : Int))), ((0 : Int), ((0 : Int), ((0 : Int), ((0 : Int), ((0 : Int), (0 : Int))))))))))).2).2).1) && ((((((((v0.getD v2.toNat ((⟨#[]⟩ : ByteArray), ((0 : Int), ((0 : Int), (((0 : Int), ((0 : Int), (0 : Int))), ((0 : Int), ((0 : Int), ((0 : Int), ((0 : Int), ((0 : Int), (0 : Int))))))))))).2).2).2).1).1 == (((((v1.getD v2.toNat ((⟨#[]⟩ : ByteArray), ((0 : Int), ((0 : Int), (((0 : Int), ((0 : Int), (0 : Int))), ((0 : Int), ((0 : Int), ((0 : Int), ((0 : Int), ((0 : Int), (0 : Int))))))))))).2).2).2).1).1) && ((((((((v0.getD v2.toNat ((⟨#[]⟩ : ByteArray), ((0 : Int), ((0 : Int), (((0 : Int), ((0 : Int), (0 : Int))), ((0 : Int), ((0 : Int), ((0 : Int), ((0 : Int), ((0 : Int), (0 : Int))))))))))).2).2).2).1).2).1 == ((((((v1.getD v2.toNat ((⟨#[]⟩ : ByteArray), ((0 : Int), ((0 : Int), (((0 : Int), ((0 : Int), (0 : Int))), ((0 : Int), ((0 : Int), ((0 : Int), ((0 : Int), ((0 : Int), (0 : Int))))))))))).2).2).2).1).2).1) && ((((((((v0.getD v2.toNat ((⟨#[]⟩ : ByteArray), ((0 : Int), ((0 : Int), (((0 : Int), ((0 : Int), (0 : Int))), ((0 : Int), ((0 : Int), ((0 : Int), ((0 : Int), ((0 : Int), (0 : Int))))))))))).2).2).2).1).2).2 == ((((((v1.getD v2.toNat ((⟨#[]⟩ : ByteArray), ((0 : Int), ((0 : Int), (((0 : Int), ((0 : Int), (0 : Int))), ((0 : Int), ((0 : Int), ((0 : Int), ((0 : Int), ((0 : Int), (0 : Int))))))))))).2).2).2).1).2).2) && true))) && (((((((v0.getD v2.toNat ((⟨#[]⟩ : ByteArray), ((0 : Int), ((0 : Int), (((0 : Int), ((0 : Int), (0 : Int))), ((0 : Int), ((0 : Int), ((0 : Int), ((0 : Int), ((0 : Int), (0 : Int))))))))))).2).2).2).2).1 == (((((v1.getD v2.toNat ((⟨#[]⟩ : ByteArray), ((0 : Int), ((0 : Int), (((0 : Int), ((0 : Int), (0 : Int))), ((0 : Int), ((0 : Int), ((0 : Int), ((0 : Int), ((0 : Int), (0 : Int))))))))))).2).2).2).2).1) && ((((((((v0.getD v2.toNat ((⟨#[]⟩ : ByteArray), ((0 : Int), ((0 : Int), (((0 : Int), ((0 : Int), (0 : Int))), ((0 : Int), ((0 : Int), ((0 : Int), ((0 : Int), ((0 : Int), (0 : Int))))))))))).2).2).2).2).2).1 == ((((((v1.getD v2.toNat ((⟨#[]⟩ : ByteArray), ((0 : Int), ((0 : Int), (((0 : Int), ((0 : Int), (0 : Int))), ((0 : Int), ((0 : Int), ((0 : Int), ((0 : Int), ((0 : Int), (0 : Int))))))))))).2).2).2).2).2).1) && (((((((((v0.getD v2.toNat ((⟨#[]⟩ : ByteArray), ((0 : Int), ((0 : Int), (((0 : Int), ((0 : Int), (0 : Int))), ((0 : Int), ((0 : Int), ((0 : Int), ((0 : Int), ((0 : Int), (0 : Int))))))))))).2).2).2).2).2).2).1 == (((((((v1.getD v2.toNat ((⟨#[]⟩ : ByteArray), ((0 : Int), ((0 : Int), (((0 : Int), ((0 : Int), (0 : Int))), ((0 : Int), ((0 : Int), ((0 : Int), ((0 : Int), ((0 : Int), (0 : Int))))))))))).2).2).2).2).2).2).1) && ((((((((((v0.getD v2.toNat ((⟨#[]⟩ : ByteArray), ((0 : Int), ((0 : Int), (((0 : Int), ((0 : Int), (0 : Int))), ((0 : Int), ((0 : Int), ((0 : Int), ((0 : Int), ((0 : Int), (0 : Int))))))))))).2).2).2).2).2).2).2).1 == ((((((((v1.getD v2.toNat ((⟨#[]⟩ : ByteArray), ((0 : Int), ((0 : Int), (((0 : Int), ((0 : Int), (0 : Int))), ((0 : Int), ((0 : Int), ((0 : Int), ((0 : Int), ((0 : Int), (0 : Int))))))))))).2).2).2).2).2).2).2).1) && (((((((((((v0.getD v2.toNat ((⟨#[]⟩ : ByteArray), ((0 : Int), ((0 : Int), (((0 : Int), ((0 : Int), (0 : Int))), ((0 : Int), ((0 : Int), ((0 : Int), ((0 : Int), ((0 : Int), (0 : Int))))))))))).2).2).2).2).2).2).2).2).1 == (((((((((v1.getD v2.toNat ((⟨#[]⟩ : ByteArray), ((0 : Int), ((0 : Int), (((0 : Int), ((0 : Int), (0 : Int))), ((0 : Int), ((0 : Int), ((0 : Int), ((0 : Int), ((0 : Int), (0 : Int))))))))))).2).2).2).2).2).2).2).2).1) && (((((((((((v0.getD v2.toNat ((⟨#[]⟩ : ByteArray), ((0 : Int), ((0 : Int), (((0 : Int), ((0 : Int), (0 : Int))), ((0 : Int), ((0 : Int), ((0 : Int), ((0 : Int), ((0 : Int), (0 : Int))))))))))).2).2).2).2).2).2).2).2).2 == (((((((((v1.getD v2.toNat ((⟨#[]⟩ : ByteArray), ((0 : Int), ((0 : Int), (((0 : Int), ((0 : Int), (0 : Int))), ((0 : Int), ((0 : Int), ((0 : Int), ((0 : Int), ((0 : Int), (0 : Int))))))))))).2).2).2).2).2).2).2).2).2) && true))))))))))) then some (.inr (.inl false)) else some (.inl (v0, v1, (IntKind.wrap .i64 (v2 + (1 : Int)))))) else none) else none) else none) else none) else some (.inr (.inr ())))
noncomputable def armplanmake_Same_Joint.p0.step (s : List ((ByteArray × (Int × (Int × ((Int × (Int × Int)) × (Int × (Int × (Int × (Int × (Int × Int)))))))))) × List ((ByteArray × (Int × (Int × ((Int × (Int × Int)) × (Int × (Int × (Int × (Int × (Int × Int)))))))))) × Int) : Option ((List ((ByteArray × (Int × (Int × ((Int × (Int × Int)) × (Int × (Int × (Int × (Int × (Int × Int)))))))))) × List ((ByteArray × (Int × (Int × ((Int × (Int × Int)) × (Int × (Int × (Int × (Int × (Int × Int)))))))))) × Int) ⊕ ((Bool) ⊕ (Unit))) := armplanmake_Same_Joint.p0.round s.1 s.2.1 s.2.2
noncomputable def armplanmake_Same_Joint.p0.inS : Shape := ⟨[(0, .lf (.dat (.pair .str (.pair (.int .i64) (.pair (.int .i64) (.pair (.pair (.int .i64) (.pair (.int .i64) (.int .i64))) (.pair (.int .i64) (.pair (.int .i64) (.pair (.int .i64) (.pair (.int .i64) (.pair (.int .i64) (.int .i64)))))))))))), (1, .lf (.dat (.pair .str (.pair (.int .i64) (.pair (.int .i64) (.pair (.pair (.int .i64) (.pair (.int .i64) (.int .i64))) (.pair (.int .i64) (.pair (.int .i64) (.pair (.int .i64) (.pair (.int .i64) (.pair (.int .i64) (.int .i64)))))))))))), (5, .lf (.sc (.int .i64)))], []⟩
noncomputable def armplanmake_Same_Joint.p0.w0 : Way := { ex := .rt, S := ⟨[(4, .lf (.sc .bool))], []⟩, R := Bool, post := fun r => ((r, ()), ()), un := fun x => x.1.1 }
noncomputable def armplanmake_Same_Joint.p0.w1 : Way := { ex := (.ex 0), S := ⟨[], []⟩, R := Unit, post := fun r => ((), ()), un := fun x => () }
noncomputable def armplanmake_Same_Joint.p0.outs : List Way := [armplanmake_Same_Joint.p0.w0, armplanmake_Same_Joint.p0.w1]
noncomputable def armplanmake_Same_Joint.p0.un (x : Tup armplanmake_Same_Joint.p0.inS) : List ((ByteArray × (Int × (Int × ((Int × (Int × Int)) × (Int × (Int × (Int × (Int × (Int × Int)))))))))) × List ((ByteArray × (Int × (Int × ((Int × (Int × Int)) × (Int × (Int × (Int × (Int × (Int × Int)))))))))) × Int := (x.1.1, x.1.2.1, x.1.2.2.1)
noncomputable def armplanmake_Same_Joint.p0.lp : LProc := { inS := armplanmake_Same_Joint.p0.inS, outs := armplanmake_Same_Joint.p0.outs, F := fun x => loopF armplanmake_Same_Joint.p0.step (armplanmake_Same_Joint.p0.un x) }
noncomputable def armplanmake_Same_Joint.F0 (a0 : List ((ByteArray × (Int × (Int × ((Int × (Int × Int)) × (Int × (Int × (Int × (Int × (Int × Int))))))))))) (a1 : List ((ByteArray × (Int × (Int × ((Int × (Int × Int)) × (Int × (Int × (Int × (Int × (Int × Int))))))))))) : Option (Bool) :=
  (bif ((a0.length : Int) != (a1.length : Int)) then some false else ((loopF armplanmake_Same_Joint.p0.step (a0, a1, (0 : Int))).bind fun y1 => (Sum.elim (fun y2 => some y2) (fun z3 => some true) y1)))
noncomputable def armplanmake_Same_Joint.F : (List ((ByteArray × (Int × (Int × ((Int × (Int × Int)) × (Int × (Int × (Int × (Int × (Int × Int))))))))))) → (List ((ByteArray × (Int × (Int × ((Int × (Int × Int)) × (Int × (Int × (Int × (Int × (Int × Int))))))))))) → Option (Bool) := lock armplanmake_Same_Joint.F0
theorem armplanmake_Same_Joint.F_eq : armplanmake_Same_Joint.F = armplanmake_Same_Joint.F0 := lock_eq _
noncomputable def armplanmake_Same_Joint.p : Proc := { nargs := 2, inS := ⟨[(0, .lf (.dat (.pair .str (.pair (.int .i64) (.pair (.int .i64) (.pair (.pair (.int .i64) (.pair (.int .i64) (.int .i64))) (.pair (.int .i64) (.pair (.int .i64) (.pair (.int .i64) (.pair (.int .i64) (.pair (.int .i64) (.int .i64)))))))))))), (1, .lf (.dat (.pair .str (.pair (.int .i64) (.pair (.int .i64) (.pair (.pair (.int .i64) (.pair (.int .i64) (.int .i64))) (.pair (.int .i64) (.pair (.int .i64) (.pair (.int .i64) (.pair (.int .i64) (.pair (.int .i64) (.int .i64))))))))))))], []⟩, outS := ⟨[(0, .lf (.sc .bool))], []⟩, n0 := 0, R := Bool, F := fun x => armplanmake_Same_Joint.F x.1.1 x.1.2.1, post := fun r => ((r, ()), ()), un := fun x => x.1.1 }
noncomputable def armplanmake_Same_Joint.E : Env := { P := Tryz.prog, ty := tyTab [], glob := glob0, proc := procTab [], lproc := lprocTab [(0, armplanmake_Same_Joint.p0.lp)], n0 := 0, ntmps := 26 }
theorem armplanmake_Same_Joint.ok : ProcsOk armplanmake_Same_Joint.E := AllSound.ok (l := []) (by kernel_rfl) rfl trivial
noncomputable def armplanmake_Same_Joint.body0 : Code := (match Tryz.f47.body with | some c => c | none => .skip)
noncomputable def armplanmake_Same_Joint.p0.c : Code := ((codeAt armplanmake_Same_Joint.body0 [.r, .r, .l, .r, .b, .b]).getD .skip)
noncomputable def armplanmake_Same_Joint.p0.ann : Ann := .z
set_option maxRecDepth 100000 in
theorem armplanmake_Same_Joint.p0.eq (x : Tup armplanmake_Same_Joint.p0.inS) : peRound armplanmake_Same_Joint.E armplanmake_Same_Joint.p0.c armplanmake_Same_Joint.p0.ann _ armplanmake_Same_Joint.p0.inS armplanmake_Same_Joint.p0.un armplanmake_Same_Joint.p0.outs x = armplanmake_Same_Joint.p0.step (armplanmake_Same_Joint.p0.un x) := by
  kernel_rfl
set_option maxRecDepth 100000 in
theorem armplanmake_Same_Joint.p0.sound : LProcSound armplanmake_Same_Joint.E (.loop armplanmake_Same_Joint.p0.c) armplanmake_Same_Joint.p0.lp :=
  loop_sound (c := armplanmake_Same_Joint.p0.c) (ann := armplanmake_Same_Joint.p0.ann) armplanmake_Same_Joint.ok ((SubsOk_z _ _) : SubsOk armplanmake_Same_Joint.E armplanmake_Same_Joint.p0.c armplanmake_Same_Joint.p0.ann) (by intro a ha; simp only [armplanmake_Same_Joint.p0.outs, List.mem_cons, List.not_mem_nil, or_false] at ha; rcases ha with rfl | rfl <;> exact fun _ => rfl) armplanmake_Same_Joint.p0.eq
noncomputable def armplanmake_Same_Joint.ann : Ann := .s (.z) (.s (.z) (.s (.s (.z) (.b (.sub 0))) (.z)))
set_option maxRecDepth 100000 in
theorem armplanmake_Same_Joint.eq (x : Tup armplanmake_Same_Joint.p.inS) : peFn armplanmake_Same_Joint.E Tryz.f47 armplanmake_Same_Joint.ann armplanmake_Same_Joint.p x = armplanmake_Same_Joint.p.F x := by
  have h : peFn armplanmake_Same_Joint.E Tryz.f47 armplanmake_Same_Joint.ann armplanmake_Same_Joint.p x = armplanmake_Same_Joint.F0 x.1.1 x.1.2.1 := by kernel_rfl
  exact h.trans (by show _ = armplanmake_Same_Joint.F x.1.1 x.1.2.1; rw [armplanmake_Same_Joint.F_eq])
set_option maxRecDepth 100000 in
theorem armplanmake_Same_Joint.sound : ProcSound Tryz.prog glob0 47 armplanmake_Same_Joint.p :=
  fn_sound (E := armplanmake_Same_Joint.E) (c := armplanmake_Same_Joint.body0) (ann := armplanmake_Same_Joint.ann) armplanmake_Same_Joint.ok Tryz.func47 (of_decide_eq_true (by kernel_rfl)) rfl rfl rfl (by decide +kernel) (⟨(SubsOk_z _ _), ⟨(SubsOk_z _ _), ⟨⟨(SubsOk_z _ _), (sub_of rfl armplanmake_Same_Joint.p0.sound)⟩, (SubsOk_z _ _)⟩⟩⟩ : SubsOk armplanmake_Same_Joint.E armplanmake_Same_Joint.body0 armplanmake_Same_Joint.ann) (fun _ => rfl) rfl armplanmake_Same_Joint.eq

/-! ### armplan/armplanmake.Same[armplan/api.Mass]: function 48 -/
noncomputable def armplanmake_Same_Mass.p0.round (v0 : List ((Int × (Int × (Int × (Int × Int)))))) (v1 : List ((Int × (Int × (Int × (Int × Int)))))) (v2 : Int) : Option ((List ((Int × (Int × (Int × (Int × Int))))) × List ((Int × (Int × (Int × (Int × Int))))) × Int) ⊕ ((Bool) ⊕ (Unit))) :=
  (bif decide (v2 < (v0.length : Int)) then (bif decide (0 ≤ v2) then (bif decide (v2 < (v0.length : Int)) then (bif decide (0 ≤ v2) then (bif decide (v2 < (v1.length : Int)) then (bif (!(((v0.getD v2.toNat ((0 : Int), ((0 : Int), ((0 : Int), ((0 : Int), (0 : Int)))))).1 == (v1.getD v2.toNat ((0 : Int), ((0 : Int), ((0 : Int), ((0 : Int), (0 : Int)))))).1) && ((((v0.getD v2.toNat ((0 : Int), ((0 : Int), ((0 : Int), ((0 : Int), (0 : Int)))))).2).1 == ((v1.getD v2.toNat ((0 : Int), ((0 : Int), ((0 : Int), ((0 : Int), (0 : Int)))))).2).1) && ((((((v0.getD v2.toNat ((0 : Int), ((0 : Int), ((0 : Int), ((0 : Int), (0 : Int)))))).2).2).1 == (((v1.getD v2.toNat ((0 : Int), ((0 : Int), ((0 : Int), ((0 : Int), (0 : Int)))))).2).2).1) && ((((((v0.getD v2.toNat ((0 : Int), ((0 : Int), ((0 : Int), ((0 : Int), (0 : Int)))))).2).2).2).1 == ((((v1.getD v2.toNat ((0 : Int), ((0 : Int), ((0 : Int), ((0 : Int), (0 : Int)))))).2).2).2).1) && ((((((v0.getD v2.toNat ((0 : Int), ((0 : Int), ((0 : Int), ((0 : Int), (0 : Int)))))).2).2).2).2 == ((((v1.getD v2.toNat ((0 : Int), ((0 : Int), ((0 : Int), ((0 : Int), (0 : Int)))))).2).2).2).2) && true))) && true)))) then some (.inr (.inl false)) else some (.inl (v0, v1, (IntKind.wrap .i64 (v2 + (1 : Int)))))) else none) else none) else none) else none) else some (.inr (.inr ())))
noncomputable def armplanmake_Same_Mass.p0.step (s : List ((Int × (Int × (Int × (Int × Int))))) × List ((Int × (Int × (Int × (Int × Int))))) × Int) : Option ((List ((Int × (Int × (Int × (Int × Int))))) × List ((Int × (Int × (Int × (Int × Int))))) × Int) ⊕ ((Bool) ⊕ (Unit))) := armplanmake_Same_Mass.p0.round s.1 s.2.1 s.2.2
noncomputable def armplanmake_Same_Mass.p0.inS : Shape := ⟨[(0, .lf (.dat (.pair (.int .i64) (.pair (.int .i64) (.pair (.int .i64) (.pair (.int .i64) (.int .i64))))))), (1, .lf (.dat (.pair (.int .i64) (.pair (.int .i64) (.pair (.int .i64) (.pair (.int .i64) (.int .i64))))))), (5, .lf (.sc (.int .i64)))], []⟩
noncomputable def armplanmake_Same_Mass.p0.w0 : Way := { ex := .rt, S := ⟨[(4, .lf (.sc .bool))], []⟩, R := Bool, post := fun r => ((r, ()), ()), un := fun x => x.1.1 }
noncomputable def armplanmake_Same_Mass.p0.w1 : Way := { ex := (.ex 0), S := ⟨[], []⟩, R := Unit, post := fun r => ((), ()), un := fun x => () }
noncomputable def armplanmake_Same_Mass.p0.outs : List Way := [armplanmake_Same_Mass.p0.w0, armplanmake_Same_Mass.p0.w1]
noncomputable def armplanmake_Same_Mass.p0.un (x : Tup armplanmake_Same_Mass.p0.inS) : List ((Int × (Int × (Int × (Int × Int))))) × List ((Int × (Int × (Int × (Int × Int))))) × Int := (x.1.1, x.1.2.1, x.1.2.2.1)
noncomputable def armplanmake_Same_Mass.p0.lp : LProc := { inS := armplanmake_Same_Mass.p0.inS, outs := armplanmake_Same_Mass.p0.outs, F := fun x => loopF armplanmake_Same_Mass.p0.step (armplanmake_Same_Mass.p0.un x) }
noncomputable def armplanmake_Same_Mass.F0 (a0 : List ((Int × (Int × (Int × (Int × Int)))))) (a1 : List ((Int × (Int × (Int × (Int × Int)))))) : Option (Bool) :=
  (bif ((a0.length : Int) != (a1.length : Int)) then some false else ((loopF armplanmake_Same_Mass.p0.step (a0, a1, (0 : Int))).bind fun y1 => (Sum.elim (fun y2 => some y2) (fun z3 => some true) y1)))
noncomputable def armplanmake_Same_Mass.F : (List ((Int × (Int × (Int × (Int × Int)))))) → (List ((Int × (Int × (Int × (Int × Int)))))) → Option (Bool) := lock armplanmake_Same_Mass.F0
theorem armplanmake_Same_Mass.F_eq : armplanmake_Same_Mass.F = armplanmake_Same_Mass.F0 := lock_eq _
noncomputable def armplanmake_Same_Mass.p : Proc := { nargs := 2, inS := ⟨[(0, .lf (.dat (.pair (.int .i64) (.pair (.int .i64) (.pair (.int .i64) (.pair (.int .i64) (.int .i64))))))), (1, .lf (.dat (.pair (.int .i64) (.pair (.int .i64) (.pair (.int .i64) (.pair (.int .i64) (.int .i64)))))))], []⟩, outS := ⟨[(0, .lf (.sc .bool))], []⟩, n0 := 0, R := Bool, F := fun x => armplanmake_Same_Mass.F x.1.1 x.1.2.1, post := fun r => ((r, ()), ()), un := fun x => x.1.1 }
noncomputable def armplanmake_Same_Mass.E : Env := { P := Tryz.prog, ty := tyTab [], glob := glob0, proc := procTab [], lproc := lprocTab [(0, armplanmake_Same_Mass.p0.lp)], n0 := 0, ntmps := 26 }
theorem armplanmake_Same_Mass.ok : ProcsOk armplanmake_Same_Mass.E := AllSound.ok (l := []) (by kernel_rfl) rfl trivial
noncomputable def armplanmake_Same_Mass.body0 : Code := (match Tryz.f48.body with | some c => c | none => .skip)
noncomputable def armplanmake_Same_Mass.p0.c : Code := ((codeAt armplanmake_Same_Mass.body0 [.r, .r, .l, .r, .b, .b]).getD .skip)
noncomputable def armplanmake_Same_Mass.p0.ann : Ann := .z
set_option maxRecDepth 100000 in
theorem armplanmake_Same_Mass.p0.eq (x : Tup armplanmake_Same_Mass.p0.inS) : peRound armplanmake_Same_Mass.E armplanmake_Same_Mass.p0.c armplanmake_Same_Mass.p0.ann _ armplanmake_Same_Mass.p0.inS armplanmake_Same_Mass.p0.un armplanmake_Same_Mass.p0.outs x = armplanmake_Same_Mass.p0.step (armplanmake_Same_Mass.p0.un x) := by
  kernel_rfl
set_option maxRecDepth 100000 in
theorem armplanmake_Same_Mass.p0.sound : LProcSound armplanmake_Same_Mass.E (.loop armplanmake_Same_Mass.p0.c) armplanmake_Same_Mass.p0.lp :=
  loop_sound (c := armplanmake_Same_Mass.p0.c) (ann := armplanmake_Same_Mass.p0.ann) armplanmake_Same_Mass.ok ((SubsOk_z _ _) : SubsOk armplanmake_Same_Mass.E armplanmake_Same_Mass.p0.c armplanmake_Same_Mass.p0.ann) (by intro a ha; simp only [armplanmake_Same_Mass.p0.outs, List.mem_cons, List.not_mem_nil, or_false] at ha; rcases ha with rfl | rfl <;> exact fun _ => rfl) armplanmake_Same_Mass.p0.eq
noncomputable def armplanmake_Same_Mass.ann : Ann := .s (.z) (.s (.z) (.s (.s (.z) (.b (.sub 0))) (.z)))
set_option maxRecDepth 100000 in
theorem armplanmake_Same_Mass.eq (x : Tup armplanmake_Same_Mass.p.inS) : peFn armplanmake_Same_Mass.E Tryz.f48 armplanmake_Same_Mass.ann armplanmake_Same_Mass.p x = armplanmake_Same_Mass.p.F x := by
  have h : peFn armplanmake_Same_Mass.E Tryz.f48 armplanmake_Same_Mass.ann armplanmake_Same_Mass.p x = armplanmake_Same_Mass.F0 x.1.1 x.1.2.1 := by kernel_rfl
  exact h.trans (by show _ = armplanmake_Same_Mass.F x.1.1 x.1.2.1; rw [armplanmake_Same_Mass.F_eq])
set_option maxRecDepth 100000 in
theorem armplanmake_Same_Mass.sound : ProcSound Tryz.prog glob0 48 armplanmake_Same_Mass.p :=
  fn_sound (E := armplanmake_Same_Mass.E) (c := armplanmake_Same_Mass.body0) (ann := armplanmake_Same_Mass.ann) armplanmake_Same_Mass.ok Tryz.func48 (of_decide_eq_true (by kernel_rfl)) rfl rfl rfl (by decide +kernel) (⟨(SubsOk_z _ _), ⟨(SubsOk_z _ _), ⟨⟨(SubsOk_z _ _), (sub_of rfl armplanmake_Same_Mass.p0.sound)⟩, (SubsOk_z _ _)⟩⟩⟩ : SubsOk armplanmake_Same_Mass.E armplanmake_Same_Mass.body0 armplanmake_Same_Mass.ann) (fun _ => rfl) rfl armplanmake_Same_Mass.eq

/-! ### armplan/robot.between: function 54 -/
noncomputable def robot_between.F0 (a0 : Int) (a1 : Int) (a2 : Int) : Option (Bool) :=
  (bif decide (a0 ≤ a1) then some (decide (a1 ≤ a2)) else some false)
noncomputable def robot_between.F : Int → Int → Int → Option (Bool) := lock robot_between.F0
theorem robot_between.F_eq : robot_between.F = robot_between.F0 := lock_eq _
noncomputable def robot_between.p : Proc := { nargs := 3, inS := ⟨[(0, .lf (.sc (.int .i64))), (1, .lf (.sc (.int .i64))), (2, .lf (.sc (.int .i64)))], []⟩, outS := ⟨[(0, .lf (.sc .bool))], []⟩, n0 := 0, R := Bool, F := fun x => robot_between.F x.1.1 x.1.2.1 x.1.2.2.1, post := fun r => ((r, ()), ()), un := fun x => x.1.1 }
noncomputable def robot_between.E : Env := { P := Tryz.prog, ty := tyTab [], glob := glob0, proc := procTab [], lproc := lprocTab [], n0 := 0, ntmps := 15 }
theorem robot_between.ok : ProcsOk robot_between.E := AllSound.ok (l := []) (by kernel_rfl) rfl trivial
noncomputable def robot_between.body0 : Code := (match Tryz.f54.body with | some c => c | none => .skip)
noncomputable def robot_between.ann : Ann := .z
set_option maxRecDepth 100000 in
theorem robot_between.eq (x : Tup robot_between.p.inS) : peFn robot_between.E Tryz.f54 robot_between.ann robot_between.p x = robot_between.p.F x := by
  have h : peFn robot_between.E Tryz.f54 robot_between.ann robot_between.p x = robot_between.F0 x.1.1 x.1.2.1 x.1.2.2.1 := by kernel_rfl
  exact h.trans (by show _ = robot_between.F x.1.1 x.1.2.1 x.1.2.2.1; rw [robot_between.F_eq])
set_option maxRecDepth 100000 in
theorem robot_between.sound : ProcSound Tryz.prog glob0 54 robot_between.p :=
  fn_sound (E := robot_between.E) (c := robot_between.body0) (ann := robot_between.ann) robot_between.ok Tryz.func54 (of_decide_eq_true (by kernel_rfl)) rfl rfl rfl (by decide +kernel) ((SubsOk_z _ _) : SubsOk robot_between.E robot_between.body0 robot_between.ann) (fun _ => rfl) rfl robot_between.eq

/-! ### armplan/robot.long: function 55 -/
noncomputable def robot_long.p0.round (v0 : Int) (v1 : Int) (v2 : Int) (v3 : Int) : Option ((Int × Int × Int × Int) ⊕ ((Bool) ⊕ (Unit))) :=
  (bif decide (v3 < (3 : Int)) then (bif decide (0 ≤ v3) then (bif decide (v3 < (3 : Int)) then (bif decide ((([v0, v1, v2] : List Int).getD v3.toNat 0) < (-4194304 : Int)) then some (.inr (.inl true)) else (bif decide ((([v0, v1, v2] : List Int).getD v3.toNat 0) > (4194304 : Int)) then some (.inr (.inl true)) else some (.inl (v0, v1, v2, (IntKind.wrap .i64 (v3 + (1 : Int))))))) else none) else none) else some (.inr (.inr ())))
noncomputable def robot_long.p0.step (s : Int × Int × Int × Int) : Option ((Int × Int × Int × Int) ⊕ ((Bool) ⊕ (Unit))) := robot_long.p0.round s.1 s.2.1 s.2.2.1 s.2.2.2
noncomputable def robot_long.p0.inS : Shape := ⟨[(5, .ag [.sc (.int .i64), .sc (.int .i64), .sc (.int .i64)]), (6, .lf (.sc (.int .i64)))], []⟩
noncomputable def robot_long.p0.w0 : Way := { ex := .rt, S := ⟨[(2, .lf (.sc .bool))], []⟩, R := Bool, post := fun r => ((r, ()), ()), un := fun x => x.1.1 }
noncomputable def robot_long.p0.w1 : Way := { ex := (.ex 0), S := ⟨[], []⟩, R := Unit, post := fun r => ((), ()), un := fun x => () }
noncomputable def robot_long.p0.outs : List Way := [robot_long.p0.w0, robot_long.p0.w1]
noncomputable def robot_long.p0.un (x : Tup robot_long.p0.inS) : Int × Int × Int × Int := (x.1.1.1, x.1.1.2.1, x.1.1.2.2.1, x.1.2.1)
noncomputable def robot_long.p0.lp : LProc := { inS := robot_long.p0.inS, outs := robot_long.p0.outs, F := fun x => loopF robot_long.p0.step (robot_long.p0.un x) }
noncomputable def robot_long.F0 (a0 : Int) (a1 : Int) (a2 : Int) : Option (Bool) :=
  ((loopF robot_long.p0.step (a0, a1, a2, (0 : Int))).bind fun y1 => (Sum.elim (fun y2 => some y2) (fun z3 => some false) y1))
noncomputable def robot_long.F : Int → Int → Int → Option (Bool) := lock robot_long.F0
theorem robot_long.F_eq : robot_long.F = robot_long.F0 := lock_eq _
noncomputable def robot_long.p : Proc := { nargs := 1, inS := ⟨[(0, .ag [.sc (.int .i64), .sc (.int .i64), .sc (.int .i64)])], []⟩, outS := ⟨[(0, .lf (.sc .bool))], []⟩, n0 := 0, R := Bool, F := fun x => robot_long.F x.1.1.1 x.1.1.2.1 x.1.1.2.2.1, post := fun r => ((r, ()), ()), un := fun x => x.1.1 }
noncomputable def robot_long.E : Env := { P := Tryz.prog, ty := tyTab [], glob := glob0, proc := procTab [], lproc := lprocTab [(0, robot_long.p0.lp)], n0 := 0, ntmps := 16 }
theorem robot_long.ok : ProcsOk robot_long.E := AllSound.ok (l := []) (by kernel_rfl) rfl trivial
noncomputable def robot_long.body0 : Code := (match Tryz.f55.body with | some c => c | none => .skip)
noncomputable def robot_long.p0.c : Code := ((codeAt robot_long.body0 [.r, .l, .r, .b, .b]).getD .skip)
noncomputable def robot_long.p0.ann : Ann := .z
set_option maxRecDepth 100000 in
theorem robot_long.p0.eq (x : Tup robot_long.p0.inS) : peRound robot_long.E robot_long.p0.c robot_long.p0.ann _ robot_long.p0.inS robot_long.p0.un robot_long.p0.outs x = robot_long.p0.step (robot_long.p0.un x) := by
  kernel_rfl
set_option maxRecDepth 100000 in
theorem robot_long.p0.sound : LProcSound robot_long.E (.loop robot_long.p0.c) robot_long.p0.lp :=
  loop_sound (c := robot_long.p0.c) (ann := robot_long.p0.ann) robot_long.ok ((SubsOk_z _ _) : SubsOk robot_long.E robot_long.p0.c robot_long.p0.ann) (by intro a ha; simp only [robot_long.p0.outs, List.mem_cons, List.not_mem_nil, or_false] at ha; rcases ha with rfl | rfl <;> exact fun _ => rfl) robot_long.p0.eq
noncomputable def robot_long.ann : Ann := .s (.z) (.s (.s (.z) (.b (.sub 0))) (.z))
set_option maxRecDepth 100000 in
theorem robot_long.eq (x : Tup robot_long.p.inS) : peFn robot_long.E Tryz.f55 robot_long.ann robot_long.p x = robot_long.p.F x := by
  have h : peFn robot_long.E Tryz.f55 robot_long.ann robot_long.p x = robot_long.F0 x.1.1.1 x.1.1.2.1 x.1.1.2.2.1 := by kernel_rfl
  exact h.trans (by show _ = robot_long.F x.1.1.1 x.1.1.2.1 x.1.1.2.2.1; rw [robot_long.F_eq])
set_option maxRecDepth 100000 in
theorem robot_long.sound : ProcSound Tryz.prog glob0 55 robot_long.p :=
  fn_sound (E := robot_long.E) (c := robot_long.body0) (ann := robot_long.ann) robot_long.ok Tryz.func55 (of_decide_eq_true (by kernel_rfl)) rfl rfl rfl (by decide +kernel) (⟨(SubsOk_z _ _), ⟨⟨(SubsOk_z _ _), (sub_of rfl robot_long.p0.sound)⟩, (SubsOk_z _ _)⟩⟩ : SubsOk robot_long.E robot_long.body0 robot_long.ann) (fun _ => rfl) rfl robot_long.eq

/-! ### armplan/robot.place$1: function 79 -/
noncomputable def robot_place_1.F0 (a0 : ByteArray) (a1 : Int) (a2 : Int) (a3 : Int) (a4 : Int) (a5 : Int) (a6 : Int) (a7 : Int) (a8 : Int) (a9 : Int) (a10 : Int) (a11 : Int) (a12 : ByteArray) : Option (Bool × ByteArray) :=
  some ((eqS a0 a12), a12)
noncomputable def robot_place_1.F : ByteArray → Int → Int → Int → Int → Int → Int → Int → Int → Int → Int → Int → ByteArray → Option (Bool × ByteArray) := lock robot_place_1.F0
theorem robot_place_1.F_eq : robot_place_1.F = robot_place_1.F0 := lock_eq _
noncomputable def robot_place_1.p : Proc := { nargs := 2, inS := ⟨[(0, .ag [.sc .str, .sc (.int .i64), .sc (.int .i64), .sc (.int .i64), .sc (.int .i64), .sc (.int .i64), .sc (.int .i64), .sc (.int .i64), .sc (.int .i64), .sc (.int .i64), .sc (.int .i64), .sc (.int .i64)]), (1, .lf (.bp 0 0))], [.box [.sc .str]]⟩, outS := ⟨[(0, .lf (.sc .bool))], [.box [.sc .str]]⟩, n0 := 1, R := Bool × ByteArray, F := fun x => robot_place_1.F x.1.1.1 x.1.1.2.1 x.1.1.2.2.1 x.1.1.2.2.2.1 x.1.1.2.2.2.2.1 x.1.1.2.2.2.2.2.1 x.1.1.2.2.2.2.2.2.1 x.1.1.2.2.2.2.2.2.2.1 x.1.1.2.2.2.2.2.2.2.2.1 x.1.1.2.2.2.2.2.2.2.2.2.1 x.1.1.2.2.2.2.2.2.2.2.2.2.1 x.1.1.2.2.2.2.2.2.2.2.2.2.2.1 x.2.1.1, post := fun r => ((r.1, ()), ((r.2, ()), ())), un := fun x => (x.1.1, x.2.1.1) }
noncomputable def robot_place_1.E : Env := { P := Tryz.prog, ty := tyTab [], glob := glob0, proc := procTab [], lproc := lprocTab [], n0 := 1, ntmps := 8 }
theorem robot_place_1.ok : ProcsOk robot_place_1.E := AllSound.ok (l := []) (by kernel_rfl) rfl trivial
noncomputable def robot_place_1.body0 : Code := (match Tryz.f79.body with | some c => c | none => .skip)
noncomputable def robot_place_1.ann : Ann := .z
set_option maxRecDepth 100000 in
theorem robot_place_1.eq (x : Tup robot_place_1.p.inS) : peFn robot_place_1.E Tryz.f79 robot_place_1.ann robot_place_1.p x = robot_place_1.p.F x := by
  have h : peFn robot_place_1.E Tryz.f79 robot_place_1.ann robot_place_1.p x = robot_place_1.F0 x.1.1.1 x.1.1.2.1 x.1.1.2.2.1 x.1.1.2.2.2.1 x.1.1.2.2.2.2.1 x.1.1.2.2.2.2.2.1 x.1.1.2.2.2.2.2.2.1 x.1.1.2.2.2.2.2.2.2.1 x.1.1.2.2.2.2.2.2.2.2.1 x.1.1.2.2.2.2.2.2.2.2.2.1 x.1.1.2.2.2.2.2.2.2.2.2.2.1 x.1.1.2.2.2.2.2.2.2.2.2.2.2.1 x.2.1.1 := by kernel_rfl
  exact h.trans (by show _ = robot_place_1.F x.1.1.1 x.1.1.2.1 x.1.1.2.2.1 x.1.1.2.2.2.1 x.1.1.2.2.2.2.1 x.1.1.2.2.2.2.2.1 x.1.1.2.2.2.2.2.2.1 x.1.1.2.2.2.2.2.2.2.1 x.1.1.2.2.2.2.2.2.2.2.1 x.1.1.2.2.2.2.2.2.2.2.2.1 x.1.1.2.2.2.2.2.2.2.2.2.2.1 x.1.1.2.2.2.2.2.2.2.2.2.2.2.1 x.2.1.1; rw [robot_place_1.F_eq])
set_option maxRecDepth 100000 in
theorem robot_place_1.sound : ProcSound Tryz.prog glob0 79 robot_place_1.p :=
  fn_sound (E := robot_place_1.E) (c := robot_place_1.body0) (ann := robot_place_1.ann) robot_place_1.ok Tryz.func79 (of_decide_eq_true (by kernel_rfl)) rfl rfl rfl (by decide +kernel) ((SubsOk_z _ _) : SubsOk robot_place_1.E robot_place_1.body0 robot_place_1.ann) (fun _ => rfl) rfl robot_place_1.eq

/-! ### slices.IndexFunc[[]armplan/api.Joint,armplan/api.Joint]: function 78 -/
noncomputable def slices_IndexFunc_Joint__robot_place_1.p0.round (v0 : List ((ByteArray × (Int × (Int × ((Int × (Int × Int)) × (Int × (Int × (Int × (Int × (Int × Int))))))))))) (v1 : Int) (v2 : Int) (v3 : ByteArray) : Option ((List ((ByteArray × (Int × (Int × ((Int × (Int × Int)) × (Int × (Int × (Int × (Int × (Int × Int)))))))))) × Int × Int × ByteArray) ⊕ ((Int × ByteArray) ⊕ (ByteArray))) :=
  (bif decide (v2 < v1) then (bif decide (0 ≤ v2) then (bif decide (v2 < (v0.length : Int)) then ((robot_place_1.F (v0.getD v2.toNat ((⟨#[]⟩ : ByteArray), ((0 : Int), ((0 : Int), (((0 : Int), ((0 : Int), (0 : Int))), ((0 : Int), ((0 : Int), ((0 : Int), ((0 : Int), ((0 : Int), (0 : Int))))))))))).1 ((v0.getD v2.toNat ((⟨#[]⟩ : ByteArray), ((0 : Int), ((0 : Int), (((0 : Int), ((0 : Int), (0 : Int))), ((0 : Int), ((0 : Int), ((0 : Int), ((0 : Int), ((0 : Int), (0 : Int))))))))))).2).1 (((v0.getD v2.toNat ((⟨#[]⟩ : ByteArray), ((0 : Int), ((0 : Int), (((0 : Int), ((0 : Int), (0 : Int))), ((0 : Int), ((0 : Int), ((0 : Int), ((0 : Int), ((0 : Int), (0 : Int))))))))))).2).2).1 (((((v0.getD v2.toNat ((⟨#[]⟩ : ByteArray), ((0 : Int), ((0 : Int), (((0 : Int), ((0 : Int), (0 : Int))), ((0 : Int), ((0 : Int), ((0 : Int), ((0 : Int), ((0 : Int), (0 : Int))))))))))).2).2).2).1).1 ((((((v0.getD v2.toNat ((⟨#[]⟩ : ByteArray), ((0 : Int), ((0 : Int), (((0 : Int), ((0 : Int), (0 : Int))), ((0 : Int), ((0 : Int), ((0 : Int), ((0 : Int), ((0 : Int), (0 : Int))))))))))).2).2).2).1).2).1 ((((((v0.getD v2.toNat ((⟨#[]⟩ : ByteArray), ((0 : Int), ((0 : Int), (((0 : Int), ((0 : Int), (0 : Int))), ((0 : Int), ((0 : Int), ((0 : Int), ((0 : Int), ((0 : Int), (0 : Int))))))))))).2).2).2).1).2).2 (((((v0.getD v2.toNat ((⟨#[]⟩ : ByteArray), ((0 : Int), ((0 : Int), (((0 : Int), ((0 : Int), (0 : Int))), ((0 : Int), ((0 : Int), ((0 : Int), ((0 : Int), ((0 : Int), (0 : Int))))))))))).2).2).2).2).1 ((((((v0.getD v2.toNat ((⟨#[]⟩ : ByteArray), ((0 : Int), ((0 : Int), (((0 : Int), ((0 : Int), (0 : Int))), ((0 : Int), ((0 : Int), ((0 : Int), ((0 : Int), ((0 : Int), (0 : Int))))))))))).2).2).2).2).2).1 (((((((v0.getD v2.toNat ((⟨#[]⟩ : ByteArray), ((0 : Int), ((0 : Int), (((0 : Int), ((0 : Int), (0 : Int))), ((0 : Int), ((0 : Int), ((0 : Int), ((0 : Int), ((0 : Int), (0 : Int))))))))))).2).2).2).2).2).2).1 ((((((((v0.getD v2.toNat ((⟨#[]⟩ : ByteArray), ((0 : Int), ((0 : Int), (((0 : Int), ((0 : Int), (0 : Int))), ((0 : Int), ((0 : Int), ((0 : Int), ((0 : Int), ((0 : Int), (0 : Int))))))))))).2).2).2).2).2).2).2).1 (((((((((v0.getD v2.toNat ((⟨#[]⟩ : ByteArray), ((0 : Int), ((0 : Int), (((0 : Int), ((0 : Int), (0 : Int))), ((0 : Int), ((0 : Int), ((0 : Int), ((0 : Int), ((0 : Int), (0 : Int))))))))))).2).2).2).2).2).2).2).2).1 (((((((((v0.getD v2.toNat ((⟨#[]⟩ : ByteArray), ((0 : Int), ((0 : Int), (((0 : Int), ((0 : Int), (0 : Int))), ((0 : Int), ((0 : Int), ((0 : Int), ((0 : Int), ((0 : Int), (0 : Int))))))))))).2).2).2).2).2).2).2).2).2 v3).bind fun r2 => (bif r2.1 then some (.inr (.inl (v2, r2.2))) else some (.inl (v0, v1, (IntKind.wrap .i64 (v2 + (1 : Int))), r2.2)))) else none) else none) else some (.inr (.inr v3)))
noncomputable def slices_IndexFunc_Joint__robot_place_1.p0.step (s : List ((ByteArray × (Int × (Int × ((Int × (Int × Int)) × (Int × (Int × (Int × (Int × (Int × Int)))))))))) × Int × Int × ByteArray) : Option ((List ((ByteArray × (Int × (Int × ((Int × (Int × Int)) × (Int × (Int × (Int × (Int × (Int × Int)))))))))) × Int × Int × ByteArray) ⊕ ((Int × ByteArray) ⊕ (ByteArray))) := slices_IndexFunc_Joint__robot_place_1.p0.round s.1 s.2.1 s.2.2.1 s.2.2.2
noncomputable def slices_IndexFunc_Joint__robot_place_1.p0.inS : Shape := ⟨[(0, .lf (.dat (.pair .str (.pair (.int .i64) (.pair (.int .i64) (.pair (.pair (.int .i64) (.pair (.int .i64) (.int .i64))) (.pair (.int .i64) (.pair (.int .i64) (.pair (.int .i64) (.pair (.int .i64) (.pair (.int .i64) (.int .i64)))))))))))), (1, .lf (.fn 79 [0])), (7, .lf (.sc (.int .i64))), (8, .lf (.sc (.int .i64)))], [.box [.sc .str]]⟩
noncomputable def slices_IndexFunc_Joint__robot_place_1.p0.w0 : Way := { ex := .rt, S := ⟨[(4, .lf (.sc (.int .i64)))], [.box [.sc .str]]⟩, R := Int × ByteArray, post := fun r => ((r.1, ()), ((r.2, ()), ())), un := fun x => (x.1.1, x.2.1.1) }
noncomputable def slices_IndexFunc_Joint__robot_place_1.p0.w1 : Way := { ex := (.ex 0), S := ⟨[], [.box [.sc .str]]⟩, R := ByteArray, post := fun r => ((), ((r, ()), ())), un := fun x => x.2.1.1 }
noncomputable def slices_IndexFunc_Joint__robot_place_1.p0.outs : List Way := [slices_IndexFunc_Joint__robot_place_1.p0.w0, slices_IndexFunc_Joint__robot_place_1.p0.w1]
noncomputable def slices_IndexFunc_Joint__robot_place_1.p0.un (x : Tup slices_IndexFunc_Joint__robot_place_1.p0.inS) : List ((ByteArray × (Int × (Int × ((Int × (Int × Int)) × (Int × (Int × (Int × (Int × (Int × Int)))))))))) × Int × Int × ByteArray := (x.1.1, x.1.2.2.1, x.1.2.2.2.1, x.2.1.1)
noncomputable def slices_IndexFunc_Joint__robot_place_1.p0.lp : LProc := { inS := slices_IndexFunc_Joint__robot_place_1.p0.inS, outs := slices_IndexFunc_Joint__robot_place_1.p0.outs, F := fun x => loopF slices_IndexFunc_Joint__robot_place_1.p0.step (slices_IndexFunc_Joint__robot_place_1.p0.un x) }
noncomputable def slices_IndexFunc_Joint__robot_place_1.F0 (a0 : List ((ByteArray × (Int × (Int × ((Int × (Int × Int)) × (Int × (Int × (Int × (Int × (Int × Int))))))))))) (a1 : ByteArray) : Option (Int × ByteArray) :=
  ((loopF slices_IndexFunc_Joint__robot_place_1.p0.step (a0, (a0.length : Int), (0 : Int), a1)).bind fun y3 => (Sum.elim (fun y4 => some (y4.1, y4.2)) (fun z5 => some ((-1 : Int), z5)) y3))
noncomputable def slices_IndexFunc_Joint__robot_place_1.F : (List ((ByteArray × (Int × (Int × ((Int × (Int × Int)) × (Int × (Int × (Int × (Int × (Int × Int))))))))))) → ByteArray → Option (Int × ByteArray) := lock slices_IndexFunc_Joint__robot_place_1.F0
theorem slices_IndexFunc_Joint__robot_place_1.F_eq : slices_IndexFunc_Joint__robot_place_1.F = slices_IndexFunc_Joint__robot_place_1.F0 := lock_eq _
noncomputable def slices_IndexFunc_Joint__robot_place_1.p : Proc := { nargs := 2, inS := ⟨[(0, .lf (.dat (.pair .str (.pair (.int .i64) (.pair (.int .i64) (.pair (.pair (.int .i64) (.pair (.int .i64) (.int .i64))) (.pair (.int .i64) (.pair (.int .i64) (.pair (.int .i64) (.pair (.int .i64) (.pair (.int .i64) (.int .i64)))))))))))), (1, .lf (.fn 79 [0]))], [.box [.sc .str]]⟩, outS := ⟨[(0, .lf (.sc (.int .i64)))], [.box [.sc .str]]⟩, n0 := 1, R := Int × ByteArray, F := fun x => slices_IndexFunc_Joint__robot_place_1.F x.1.1 x.2.1.1, post := fun r => ((r.1, ()), ((r.2, ()), ())), un := fun x => (x.1.1, x.2.1.1) }
noncomputable def slices_IndexFunc_Joint__robot_place_1.E : Env := { P := Tryz.prog, ty := tyTab [], glob := glob0, proc := procTab [(79, robot_place_1.p)], lproc := lprocTab [(0, slices_IndexFunc_Joint__robot_place_1.p0.lp)], n0 := 1, ntmps := 19 }
theorem slices_IndexFunc_Joint__robot_place_1.ok : ProcsOk slices_IndexFunc_Joint__robot_place_1.E := AllSound.ok (l := [(79, robot_place_1.p)]) (by kernel_rfl) rfl ⟨robot_place_1.sound, trivial⟩
noncomputable def slices_IndexFunc_Joint__robot_place_1.body0 : Code := (match Tryz.f78.body with | some c => c | none => .skip)
noncomputable def slices_IndexFunc_Joint__robot_place_1.p0.c : Code := ((codeAt slices_IndexFunc_Joint__robot_place_1.body0 [.r, .l, .r, .b, .b]).getD .skip)
noncomputable def slices_IndexFunc_Joint__robot_place_1.p0.ann : Ann := .z
set_option maxRecDepth 100000 in
theorem slices_IndexFunc_Joint__robot_place_1.p0.eq (x : Tup slices_IndexFunc_Joint__robot_place_1.p0.inS) : peRound slices_IndexFunc_Joint__robot_place_1.E slices_IndexFunc_Joint__robot_place_1.p0.c slices_IndexFunc_Joint__robot_place_1.p0.ann _ slices_IndexFunc_Joint__robot_place_1.p0.inS slices_IndexFunc_Joint__robot_place_1.p0.un slices_IndexFunc_Joint__robot_place_1.p0.outs x = slices_IndexFunc_Joint__robot_place_1.p0.step (slices_IndexFunc_Joint__robot_place_1.p0.un x) := by
  kernel_rfl
set_option maxRecDepth 100000 in
theorem slices_IndexFunc_Joint__robot_place_1.p0.sound : LProcSound slices_IndexFunc_Joint__robot_place_1.E (.loop slices_IndexFunc_Joint__robot_place_1.p0.c) slices_IndexFunc_Joint__robot_place_1.p0.lp :=
  loop_sound (c := slices_IndexFunc_Joint__robot_place_1.p0.c) (ann := slices_IndexFunc_Joint__robot_place_1.p0.ann) slices_IndexFunc_Joint__robot_place_1.ok ((SubsOk_z _ _) : SubsOk slices_IndexFunc_Joint__robot_place_1.E slices_IndexFunc_Joint__robot_place_1.p0.c slices_IndexFunc_Joint__robot_place_1.p0.ann) (by intro a ha; simp only [slices_IndexFunc_Joint__robot_place_1.p0.outs, List.mem_cons, List.not_mem_nil, or_false] at ha; rcases ha with rfl | rfl <;> exact fun _ => rfl) slices_IndexFunc_Joint__robot_place_1.p0.eq
noncomputable def slices_IndexFunc_Joint__robot_place_1.ann : Ann := .s (.z) (.s (.s (.z) (.b (.sub 0))) (.z))
set_option maxRecDepth 100000 in
theorem slices_IndexFunc_Joint__robot_place_1.eq (x : Tup slices_IndexFunc_Joint__robot_place_1.p.inS) : peFn slices_IndexFunc_Joint__robot_place_1.E Tryz.f78 slices_IndexFunc_Joint__robot_place_1.ann slices_IndexFunc_Joint__robot_place_1.p x = slices_IndexFunc_Joint__robot_place_1.p.F x := by
  have h : peFn slices_IndexFunc_Joint__robot_place_1.E Tryz.f78 slices_IndexFunc_Joint__robot_place_1.ann slices_IndexFunc_Joint__robot_place_1.p x = slices_IndexFunc_Joint__robot_place_1.F0 x.1.1 x.2.1.1 := by kernel_rfl
  exact h.trans (by show _ = slices_IndexFunc_Joint__robot_place_1.F x.1.1 x.2.1.1; rw [slices_IndexFunc_Joint__robot_place_1.F_eq])
set_option maxRecDepth 100000 in
theorem slices_IndexFunc_Joint__robot_place_1.sound : ProcSound Tryz.prog glob0 78 slices_IndexFunc_Joint__robot_place_1.p :=
  fn_sound (E := slices_IndexFunc_Joint__robot_place_1.E) (c := slices_IndexFunc_Joint__robot_place_1.body0) (ann := slices_IndexFunc_Joint__robot_place_1.ann) slices_IndexFunc_Joint__robot_place_1.ok Tryz.func78 (of_decide_eq_true (by kernel_rfl)) rfl rfl rfl (by decide +kernel) (⟨(SubsOk_z _ _), ⟨⟨(SubsOk_z _ _), (sub_of rfl slices_IndexFunc_Joint__robot_place_1.p0.sound)⟩, (SubsOk_z _ _)⟩⟩ : SubsOk slices_IndexFunc_Joint__robot_place_1.E slices_IndexFunc_Joint__robot_place_1.body0 slices_IndexFunc_Joint__robot_place_1.ann) (fun _ => rfl) rfl slices_IndexFunc_Joint__robot_place_1.eq

/-! ### armplan/robot.place: function 56 -/
noncomputable def robot_place.F0 (a0 : List ((ByteArray × (Int × (Int × ((Int × (Int × Int)) × (Int × (Int × (Int × (Int × (Int × Int))))))))))) (a1 : ByteArray) : Option (Int) :=
  ((slices_IndexFunc_Joint__robot_place_1.F a0 a1).bind fun r1 => some r1.1)
noncomputable def robot_place.F : (List ((ByteArray × (Int × (Int × ((Int × (Int × Int)) × (Int × (Int × (Int × (Int × (Int × Int))))))))))) → ByteArray → Option (Int) := lock robot_place.F0
theorem robot_place.F_eq : robot_place.F = robot_place.F0 := lock_eq _
noncomputable def robot_place.p : Proc := { nargs := 2, inS := ⟨[(0, .lf (.dat (.pair .str (.pair (.int .i64) (.pair (.int .i64) (.pair (.pair (.int .i64) (.pair (.int .i64) (.int .i64))) (.pair (.int .i64) (.pair (.int .i64) (.pair (.int .i64) (.pair (.int .i64) (.pair (.int .i64) (.int .i64)))))))))))), (1, .lf (.sc .str))], []⟩, outS := ⟨[(0, .lf (.sc (.int .i64)))], []⟩, n0 := 0, R := Int, F := fun x => robot_place.F x.1.1 x.1.2.1, post := fun r => ((r, ()), ()), un := fun x => x.1.1 }
noncomputable def robot_place.E : Env := { P := Tryz.prog, ty := tyTab [(79, (.pair .str (.pair (.int .i64) (.pair (.int .i64) (.pair (.pair (.int .i64) (.pair (.int .i64) (.int .i64))) (.pair (.int .i64) (.pair (.int .i64) (.pair (.int .i64) (.pair (.int .i64) (.pair (.int .i64) (.int .i64)))))))))))], glob := glob0, proc := procTab [(78, slices_IndexFunc_Joint__robot_place_1.p)], lproc := lprocTab [], n0 := 0, ntmps := 8 }
theorem robot_place.ok : ProcsOk robot_place.E := AllSound.ok (l := [(78, slices_IndexFunc_Joint__robot_place_1.p)]) (by kernel_rfl) rfl ⟨slices_IndexFunc_Joint__robot_place_1.sound, trivial⟩
noncomputable def robot_place.body0 : Code := (match Tryz.f56.body with | some c => c | none => .skip)
noncomputable def robot_place.ann : Ann := .z
set_option maxRecDepth 100000 in
theorem robot_place.eq (x : Tup robot_place.p.inS) : peFn robot_place.E Tryz.f56 robot_place.ann robot_place.p x = robot_place.p.F x := by
  have h : peFn robot_place.E Tryz.f56 robot_place.ann robot_place.p x = robot_place.F0 x.1.1 x.1.2.1 := by kernel_rfl
  exact h.trans (by show _ = robot_place.F x.1.1 x.1.2.1; rw [robot_place.F_eq])
set_option maxRecDepth 100000 in
theorem robot_place.sound : ProcSound Tryz.prog glob0 56 robot_place.p :=
  fn_sound (E := robot_place.E) (c := robot_place.body0) (ann := robot_place.ann) robot_place.ok Tryz.func56 (of_decide_eq_true (by kernel_rfl)) rfl rfl rfl (by decide +kernel) ((SubsOk_z _ _) : SubsOk robot_place.E robot_place.body0 robot_place.ann) (fun _ => rfl) rfl robot_place.eq

/-! ### armplan/armplanref6.Name: function 66 -/
noncomputable def armplanref6_Name.p0.round (v0 : ByteArray) (v1 : Int) : Option ((ByteArray × Int) ⊕ ((Bool) ⊕ (Unit))) :=
  (bif decide (v1 < (v0.size : Int)) then (bif decide (0 ≤ v1) then (bif decide (v1 < (v0.size : Int)) then (bif decide ((btI v0 v1) ≥ (97 : Int)) then (bif decide (0 ≤ v1) then (bif decide (v1 < (v0.size : Int)) then (bif (!decide ((btI v0 v1) ≤ (122 : Int))) then (bif (v1 == (0 : Int)) then some (.inr (.inl false)) else (bif decide (0 ≤ v1) then (bif decide (v1 < (v0.size : Int)) then (bif ((btI v0 v1) != (95 : Int)) then (bif decide (0 ≤ v1) then (bif decide (v1 < (v0.size : Int)) then (bif decide ((btI v0 v1) < (48 : Int)) then some (.inr (.inl false)) else (bif decide (0 ≤ v1) then (bif decide (v1 < (v0.size : Int)) then (bif decide ((btI v0 v1) > (57 : Int)) then some (.inr (.inl false)) else some (.inl (v0, (IntKind.wrap .i64 (v1 + (1 : Int)))))) else none) else none)) else none) else none) else some (.inl (v0, (IntKind.wrap .i64 (v1 + (1 : Int)))))) else none) else none)) else some (.inl (v0, (IntKind.wrap .i64 (v1 + (1 : Int)))))) else none) else none) else (bif (v1 == (0 : Int)) then some (.inr (.inl false)) else (bif decide (0 ≤ v1) then (bif decide (v1 < (v0.size : Int)) then (bif ((btI v0 v1) != (95 : Int)) then (bif decide (0 ≤ v1) then (bif decide (v1 < (v0.size : Int)) then (bif decide ((btI v0 v1) < (48 : Int)) then some (.inr (.inl false)) else (bif decide (0 ≤ v1) then (bif decide (v1 < (v0.size : Int)) then (bif decide ((btI v0 v1) > (57 : Int)) then some (.inr (.inl false)) else some (.inl (v0, (IntKind.wrap .i64 (v1 + (1 : Int)))))) else none) else none)) else none) else none) else some (.inl (v0, (IntKind.wrap .i64 (v1 + (1 : Int)))))) else none) else none))) else none) else none) else some (.inr (.inr ())))
noncomputable def armplanref6_Name.p0.step (s : ByteArray × Int) : Option ((ByteArray × Int) ⊕ ((Bool) ⊕ (Unit))) := armplanref6_Name.p0.round s.1 s.2
noncomputable def armplanref6_Name.p0.inS : Shape := ⟨[(0, .lf (.sc .str)), (3, .lf (.sc (.int .i64)))], []⟩
noncomputable def armplanref6_Name.p0.w0 : Way := { ex := .rt, S := ⟨[(2, .lf (.sc .bool))], []⟩, R := Bool, post := fun r => ((r, ()), ()), un := fun x => x.1.1 }
noncomputable def armplanref6_Name.p0.w1 : Way := { ex := (.ex 0), S := ⟨[], []⟩, R := Unit, post := fun r => ((), ()), un := fun x => () }
noncomputable def armplanref6_Name.p0.outs : List Way := [armplanref6_Name.p0.w0, armplanref6_Name.p0.w1]
noncomputable def armplanref6_Name.p0.un (x : Tup armplanref6_Name.p0.inS) : ByteArray × Int := (x.1.1, x.1.2.1)
noncomputable def armplanref6_Name.p0.lp : LProc := { inS := armplanref6_Name.p0.inS, outs := armplanref6_Name.p0.outs, F := fun x => loopF armplanref6_Name.p0.step (armplanref6_Name.p0.un x) }
noncomputable def armplanref6_Name.F0 (a0 : ByteArray) : Option (Bool) :=
  (bif decide ((a0.size : Int) < (1 : Int)) then some false else (bif decide ((a0.size : Int) > (16 : Int)) then some false else (bif (eqS a0 (⟨#[119, 111, 114, 108, 100]⟩ : ByteArray)) then some false else ((loopF armplanref6_Name.p0.step (a0, (0 : Int))).bind fun y1 => (Sum.elim (fun y2 => some y2) (fun z3 => some true) y1)))))
noncomputable def armplanref6_Name.F : ByteArray → Option (Bool) := lock armplanref6_Name.F0
theorem armplanref6_Name.F_eq : armplanref6_Name.F = armplanref6_Name.F0 := lock_eq _
noncomputable def armplanref6_Name.p : Proc := { nargs := 1, inS := ⟨[(0, .lf (.sc .str))], []⟩, outS := ⟨[(0, .lf (.sc .bool))], []⟩, n0 := 0, R := Bool, F := fun x => armplanref6_Name.F x.1.1, post := fun r => ((r, ()), ()), un := fun x => x.1.1 }
noncomputable def armplanref6_Name.E : Env := { P := Tryz.prog, ty := tyTab [], glob := glob0, proc := procTab [], lproc := lprocTab [(0, armplanref6_Name.p0.lp)], n0 := 0, ntmps := 57 }
theorem armplanref6_Name.ok : ProcsOk armplanref6_Name.E := AllSound.ok (l := []) (by kernel_rfl) rfl trivial
noncomputable def armplanref6_Name.body0 : Code := (match Tryz.f66.body with | some c => c | none => .skip)
noncomputable def armplanref6_Name.p0.c : Code := ((codeAt armplanref6_Name.body0 [.r, .r, .l, .r, .b, .b]).getD .skip)
noncomputable def armplanref6_Name.p0.ann : Ann := .z
set_option maxRecDepth 100000 in
theorem armplanref6_Name.p0.eq (x : Tup armplanref6_Name.p0.inS) : peRound armplanref6_Name.E armplanref6_Name.p0.c armplanref6_Name.p0.ann _ armplanref6_Name.p0.inS armplanref6_Name.p0.un armplanref6_Name.p0.outs x = armplanref6_Name.p0.step (armplanref6_Name.p0.un x) := by
  kernel_rfl
set_option maxRecDepth 100000 in
theorem armplanref6_Name.p0.sound : LProcSound armplanref6_Name.E (.loop armplanref6_Name.p0.c) armplanref6_Name.p0.lp :=
  loop_sound (c := armplanref6_Name.p0.c) (ann := armplanref6_Name.p0.ann) armplanref6_Name.ok ((SubsOk_z _ _) : SubsOk armplanref6_Name.E armplanref6_Name.p0.c armplanref6_Name.p0.ann) (by intro a ha; simp only [armplanref6_Name.p0.outs, List.mem_cons, List.not_mem_nil, or_false] at ha; rcases ha with rfl | rfl <;> exact fun _ => rfl) armplanref6_Name.p0.eq
noncomputable def armplanref6_Name.ann : Ann := .s (.z) (.s (.z) (.s (.s (.z) (.b (.sub 0))) (.z)))
set_option maxRecDepth 100000 in
theorem armplanref6_Name.eq (x : Tup armplanref6_Name.p.inS) : peFn armplanref6_Name.E Tryz.f66 armplanref6_Name.ann armplanref6_Name.p x = armplanref6_Name.p.F x := by
  have h : peFn armplanref6_Name.E Tryz.f66 armplanref6_Name.ann armplanref6_Name.p x = armplanref6_Name.F0 x.1.1 := by kernel_rfl
  exact h.trans (by show _ = armplanref6_Name.F x.1.1; rw [armplanref6_Name.F_eq])
set_option maxRecDepth 100000 in
theorem armplanref6_Name.sound : ProcSound Tryz.prog glob0 66 armplanref6_Name.p :=
  fn_sound (E := armplanref6_Name.E) (c := armplanref6_Name.body0) (ann := armplanref6_Name.ann) armplanref6_Name.ok Tryz.func66 (of_decide_eq_true (by kernel_rfl)) rfl rfl rfl (by decide +kernel) (⟨(SubsOk_z _ _), ⟨(SubsOk_z _ _), ⟨⟨(SubsOk_z _ _), (sub_of rfl armplanref6_Name.p0.sound)⟩, (SubsOk_z _ _)⟩⟩⟩ : SubsOk armplanref6_Name.E armplanref6_Name.body0 armplanref6_Name.ann) (fun _ => rfl) rfl armplanref6_Name.eq

/-! ### armplan/armplanref6.reach: function 67 -/
noncomputable def armplanref6_reach.F0 (a0 : Int) : Option (Int) :=
  (bif (a0 == (0 : Int)) then some (0 : Int) else (bif (a0 == (1 : Int)) then some (524288 : Int) else (bif (a0 == (2 : Int)) then some (524288 : Int) else (bif (a0 == (3 : Int)) then some (524288 : Int) else some (4194304 : Int)))))
noncomputable def armplanref6_reach.F : Int → Option (Int) := lock armplanref6_reach.F0
theorem armplanref6_reach.F_eq : armplanref6_reach.F = armplanref6_reach.F0 := lock_eq _
noncomputable def armplanref6_reach.p : Proc := { nargs := 1, inS := ⟨[(0, .lf (.sc (.int .i64)))], []⟩, outS := ⟨[(0, .lf (.sc (.int .i64)))], []⟩, n0 := 0, R := Int, F := fun x => armplanref6_reach.F x.1.1, post := fun r => ((r, ()), ()), un := fun x => x.1.1 }
noncomputable def armplanref6_reach.E : Env := { P := Tryz.prog, ty := tyTab [], glob := glob0, proc := procTab [], lproc := lprocTab [], n0 := 0, ntmps := 10 }
theorem armplanref6_reach.ok : ProcsOk armplanref6_reach.E := AllSound.ok (l := []) (by kernel_rfl) rfl trivial
noncomputable def armplanref6_reach.body0 : Code := (match Tryz.f67.body with | some c => c | none => .skip)
noncomputable def armplanref6_reach.ann : Ann := .z
set_option maxRecDepth 100000 in
theorem armplanref6_reach.eq (x : Tup armplanref6_reach.p.inS) : peFn armplanref6_reach.E Tryz.f67 armplanref6_reach.ann armplanref6_reach.p x = armplanref6_reach.p.F x := by
  have h : peFn armplanref6_reach.E Tryz.f67 armplanref6_reach.ann armplanref6_reach.p x = armplanref6_reach.F0 x.1.1 := by kernel_rfl
  exact h.trans (by show _ = armplanref6_reach.F x.1.1; rw [armplanref6_reach.F_eq])
set_option maxRecDepth 100000 in
theorem armplanref6_reach.sound : ProcSound Tryz.prog glob0 67 armplanref6_reach.p :=
  fn_sound (E := armplanref6_reach.E) (c := armplanref6_reach.body0) (ann := armplanref6_reach.ann) armplanref6_reach.ok Tryz.func67 (of_decide_eq_true (by kernel_rfl)) rfl rfl rfl (by decide +kernel) ((SubsOk_z _ _) : SubsOk armplanref6_reach.E armplanref6_reach.body0 armplanref6_reach.ann) (fun _ => rfl) rfl armplanref6_reach.eq

/-! ### armplan/armplanmake.letter: function 75 -/
noncomputable def armplanmake_letter.F0 (a0 : Int) : Option (ByteArray) :=
  (bif decide (0 ≤ a0) then (bif decide (a0 ≤ (IntKind.wrap .i64 (a0 + (1 : Int)))) then (bif decide ((IntKind.wrap .i64 (a0 + (1 : Int))) ≤ ((⟨#[97, 98, 99, 100, 101, 102, 103, 104, 105, 106]⟩ : ByteArray).size : Int)) then some ((⟨#[97, 98, 99, 100, 101, 102, 103, 104, 105, 106]⟩ : ByteArray).extract a0.toNat (IntKind.wrap .i64 (a0 + (1 : Int))).toNat) else none) else none) else none)
noncomputable def armplanmake_letter.F : Int → Option (ByteArray) := lock armplanmake_letter.F0
theorem armplanmake_letter.F_eq : armplanmake_letter.F = armplanmake_letter.F0 := lock_eq _
noncomputable def armplanmake_letter.p : Proc := { nargs := 1, inS := ⟨[(0, .lf (.sc (.int .i64)))], []⟩, outS := ⟨[(0, .lf (.sc .str))], []⟩, n0 := 0, R := ByteArray, F := fun x => armplanmake_letter.F x.1.1, post := fun r => ((r, ()), ()), un := fun x => x.1.1 }
noncomputable def armplanmake_letter.E : Env := { P := Tryz.prog, ty := tyTab [], glob := glob0, proc := procTab [], lproc := lprocTab [], n0 := 0, ntmps := 7 }
theorem armplanmake_letter.ok : ProcsOk armplanmake_letter.E := AllSound.ok (l := []) (by kernel_rfl) rfl trivial
noncomputable def armplanmake_letter.body0 : Code := (match Tryz.f75.body with | some c => c | none => .skip)
noncomputable def armplanmake_letter.ann : Ann := .z
set_option maxRecDepth 100000 in
theorem armplanmake_letter.eq (x : Tup armplanmake_letter.p.inS) : peFn armplanmake_letter.E Tryz.f75 armplanmake_letter.ann armplanmake_letter.p x = armplanmake_letter.p.F x := by
  have h : peFn armplanmake_letter.E Tryz.f75 armplanmake_letter.ann armplanmake_letter.p x = armplanmake_letter.F0 x.1.1 := by kernel_rfl
  exact h.trans (by show _ = armplanmake_letter.F x.1.1; rw [armplanmake_letter.F_eq])
set_option maxRecDepth 100000 in
theorem armplanmake_letter.sound : ProcSound Tryz.prog glob0 75 armplanmake_letter.p :=
  fn_sound (E := armplanmake_letter.E) (c := armplanmake_letter.body0) (ann := armplanmake_letter.ann) armplanmake_letter.ok Tryz.func75 (of_decide_eq_true (by kernel_rfl)) rfl rfl rfl (by decide +kernel) ((SubsOk_z _ _) : SubsOk armplanmake_letter.E armplanmake_letter.body0 armplanmake_letter.ann) (fun _ => rfl) rfl armplanmake_letter.eq

/-! ### armplan/robot.bound: function 76 -/
noncomputable def robot_bound.F0 (a0 : Int) : Option (Int) :=
  (bif (a0 == (0 : Int)) then some (0 : Int) else (bif (a0 == (1 : Int)) then some (524288 : Int) else (bif (a0 == (2 : Int)) then some (524288 : Int) else (bif (a0 == (3 : Int)) then some (524288 : Int) else some (4194304 : Int)))))
noncomputable def robot_bound.F : Int → Option (Int) := lock robot_bound.F0
theorem robot_bound.F_eq : robot_bound.F = robot_bound.F0 := lock_eq _
noncomputable def robot_bound.p : Proc := { nargs := 1, inS := ⟨[(0, .lf (.sc (.int .i64)))], []⟩, outS := ⟨[(0, .lf (.sc (.int .i64)))], []⟩, n0 := 0, R := Int, F := fun x => robot_bound.F x.1.1, post := fun r => ((r, ()), ()), un := fun x => x.1.1 }
noncomputable def robot_bound.E : Env := { P := Tryz.prog, ty := tyTab [], glob := glob0, proc := procTab [], lproc := lprocTab [], n0 := 0, ntmps := 10 }
theorem robot_bound.ok : ProcsOk robot_bound.E := AllSound.ok (l := []) (by kernel_rfl) rfl trivial
noncomputable def robot_bound.body0 : Code := (match Tryz.f76.body with | some c => c | none => .skip)
noncomputable def robot_bound.ann : Ann := .z
set_option maxRecDepth 100000 in
theorem robot_bound.eq (x : Tup robot_bound.p.inS) : peFn robot_bound.E Tryz.f76 robot_bound.ann robot_bound.p x = robot_bound.p.F x := by
  have h : peFn robot_bound.E Tryz.f76 robot_bound.ann robot_bound.p x = robot_bound.F0 x.1.1 := by kernel_rfl
  exact h.trans (by show _ = robot_bound.F x.1.1; rw [robot_bound.F_eq])
set_option maxRecDepth 100000 in
theorem robot_bound.sound : ProcSound Tryz.prog glob0 76 robot_bound.p :=
  fn_sound (E := robot_bound.E) (c := robot_bound.body0) (ann := robot_bound.ann) robot_bound.ok Tryz.func76 (of_decide_eq_true (by kernel_rfl)) rfl rfl rfl (by decide +kernel) ((SubsOk_z _ _) : SubsOk robot_bound.E robot_bound.body0 robot_bound.ann) (fun _ => rfl) rfl robot_bound.eq

/-! ### armplan/token.Name: function 77 -/
noncomputable def token_Name.p0.round (v0 : ByteArray) (v1 : ByteArray) (v2 : Int) : Option ((ByteArray × ByteArray × Int) ⊕ ((Bool) ⊕ (ByteArray))) :=
  (bif decide (v2 < (v1.size : Int)) then (bif decide ((rnC v1 v2) ≥ (97 : Int)) then (bif (!decide ((rnC v1 v2) ≤ (122 : Int))) then (bif (v2 == (0 : Int)) then some (.inr (.inl false)) else (bif ((rnC v1 v2) != (95 : Int)) then (bif decide ((rnC v1 v2) < (48 : Int)) then some (.inr (.inl false)) else (bif decide ((rnC v1 v2) > (57 : Int)) then some (.inr (.inl false)) else some (.inl (v0, v1, (v2 + rnW v1 v2))))) else some (.inl (v0, v1, (v2 + rnW v1 v2))))) else some (.inl (v0, v1, (v2 + rnW v1 v2)))) else (bif (v2 == (0 : Int)) then some (.inr (.inl false)) else (bif ((rnC v1 v2) != (95 : Int)) then (bif decide ((rnC v1 v2) < (48 : Int)) then some (.inr (.inl false)) else (bif decide ((rnC v1 v2) > (57 : Int)) then some (.inr (.inl false)) else some (.inl (v0, v1, (v2 + rnW v1 v2))))) else some (.inl (v0, v1, (v2 + rnW v1 v2)))))) else some (.inr (.inr v0)))
noncomputable def token_Name.p0.step (s : ByteArray × ByteArray × Int) : Option ((ByteArray × ByteArray × Int) ⊕ ((Bool) ⊕ (ByteArray))) := token_Name.p0.round s.1 s.2.1 s.2.2
noncomputable def token_Name.p0.inS : Shape := ⟨[(0, .lf (.sc .str)), (7, .lf (.bp 0 0))], [.iter]⟩
noncomputable def token_Name.p0.w0 : Way := { ex := .rt, S := ⟨[(2, .lf (.sc .bool))], []⟩, R := Bool, post := fun r => ((r, ()), ()), un := fun x => x.1.1 }
noncomputable def token_Name.p0.w1 : Way := { ex := (.ex 0), S := ⟨[(0, .lf (.sc .str))], []⟩, R := ByteArray, post := fun r => ((r, ()), ()), un := fun x => x.1.1 }
noncomputable def token_Name.p0.outs : List Way := [token_Name.p0.w0, token_Name.p0.w1]
noncomputable def token_Name.p0.un (x : Tup token_Name.p0.inS) : ByteArray × ByteArray × Int := (x.1.1, x.2.1.1, x.2.1.2)
noncomputable def token_Name.p0.lp : LProc := { inS := token_Name.p0.inS, outs := token_Name.p0.outs, F := fun x => loopF token_Name.p0.step (token_Name.p0.un x) }
noncomputable def token_Name.F0 (a0 : ByteArray) : Option (Bool) :=
  ((loopF token_Name.p0.step (a0, a0, (0 : Int))).bind fun y1 => (Sum.elim (fun y2 => some y2) (fun z3 => (bif decide ((z3.size : Int) ≥ (1 : Int)) then (bif decide ((z3.size : Int) ≤ (16 : Int)) then some (!(eqS z3 (⟨#[119, 111, 114, 108, 100]⟩ : ByteArray))) else some false) else some false)) y1))
noncomputable def token_Name.F : ByteArray → Option (Bool) := lock token_Name.F0
theorem token_Name.F_eq : token_Name.F = token_Name.F0 := lock_eq _
noncomputable def token_Name.p : Proc := { nargs := 1, inS := ⟨[(0, .lf (.sc .str))], []⟩, outS := ⟨[(0, .lf (.sc .bool))], []⟩, n0 := 0, R := Bool, F := fun x => token_Name.F x.1.1, post := fun r => ((r, ()), ()), un := fun x => x.1.1 }
noncomputable def token_Name.E : Env := { P := Tryz.prog, ty := tyTab [], glob := glob0, proc := procTab [], lproc := lprocTab [(0, token_Name.p0.lp)], n0 := 0, ntmps := 48 }
theorem token_Name.ok : ProcsOk token_Name.E := AllSound.ok (l := []) (by kernel_rfl) rfl trivial
noncomputable def token_Name.body0 : Code := (match Tryz.f77.body with | some c => c | none => .skip)
noncomputable def token_Name.p0.c : Code := ((codeAt token_Name.body0 [.r, .l, .r, .b, .b]).getD .skip)
noncomputable def token_Name.p0.ann : Ann := .z
set_option maxRecDepth 100000 in
theorem token_Name.p0.eq (x : Tup token_Name.p0.inS) : peRound token_Name.E token_Name.p0.c token_Name.p0.ann _ token_Name.p0.inS token_Name.p0.un token_Name.p0.outs x = token_Name.p0.step (token_Name.p0.un x) := by
  kernel_rfl
set_option maxRecDepth 100000 in
theorem token_Name.p0.sound : LProcSound token_Name.E (.loop token_Name.p0.c) token_Name.p0.lp :=
  loop_sound (c := token_Name.p0.c) (ann := token_Name.p0.ann) token_Name.ok ((SubsOk_z _ _) : SubsOk token_Name.E token_Name.p0.c token_Name.p0.ann) (by intro a ha; simp only [token_Name.p0.outs, List.mem_cons, List.not_mem_nil, or_false] at ha; rcases ha with rfl | rfl <;> exact fun _ => rfl) token_Name.p0.eq
noncomputable def token_Name.ann : Ann := .s (.z) (.s (.s (.z) (.b (.sub 0))) (.z))
set_option maxRecDepth 100000 in
theorem token_Name.eq (x : Tup token_Name.p.inS) : peFn token_Name.E Tryz.f77 token_Name.ann token_Name.p x = token_Name.p.F x := by
  have h : peFn token_Name.E Tryz.f77 token_Name.ann token_Name.p x = token_Name.F0 x.1.1 := by kernel_rfl
  exact h.trans (by show _ = token_Name.F x.1.1; rw [token_Name.F_eq])
set_option maxRecDepth 100000 in
theorem token_Name.sound : ProcSound Tryz.prog glob0 77 token_Name.p :=
  fn_sound (E := token_Name.E) (c := token_Name.body0) (ann := token_Name.ann) token_Name.ok Tryz.func77 (of_decide_eq_true (by kernel_rfl)) rfl rfl rfl (by decide +kernel) (⟨(SubsOk_z _ _), ⟨⟨(SubsOk_z _ _), (sub_of rfl token_Name.p0.sound)⟩, (SubsOk_z _ _)⟩⟩ : SubsOk token_Name.E token_Name.body0 token_Name.ann) (fun _ => rfl) rfl token_Name.eq

/-! ### slices.Index[[]string,string]: function 86 -/
noncomputable def slices_Index_string.p0.round (v0 : List (ByteArray)) (v1 : ByteArray) (v2 : Int) (v3 : Int) : Option ((List (ByteArray) × ByteArray × Int × Int) ⊕ ((Int) ⊕ (Unit))) :=
  (bif decide (v3 < v2) then (bif decide (0 ≤ v3) then (bif decide (v3 < (v0.length : Int)) then (bif (eqS v1 (v0.getD v3.toNat (⟨#[]⟩ : ByteArray))) then some (.inr (.inl v3)) else some (.inl (v0, v1, v2, (IntKind.wrap .i64 (v3 + (1 : Int)))))) else none) else none) else some (.inr (.inr ())))
noncomputable def slices_Index_string.p0.step (s : List (ByteArray) × ByteArray × Int × Int) : Option ((List (ByteArray) × ByteArray × Int × Int) ⊕ ((Int) ⊕ (Unit))) := slices_Index_string.p0.round s.1 s.2.1 s.2.2.1 s.2.2.2
noncomputable def slices_Index_string.p0.inS : Shape := ⟨[(0, .lf (.dat .str)), (1, .lf (.sc .str)), (7, .lf (.sc (.int .i64))), (8, .lf (.sc (.int .i64)))], []⟩
noncomputable def slices_Index_string.p0.w0 : Way := { ex := .rt, S := ⟨[(4, .lf (.sc (.int .i64)))], []⟩, R := Int, post := fun r => ((r, ()), ()), un := fun x => x.1.1 }
noncomputable def slices_Index_string.p0.w1 : Way := { ex := (.ex 0), S := ⟨[], []⟩, R := Unit, post := fun r => ((), ()), un := fun x => () }
noncomputable def slices_Index_string.p0.outs : List Way := [slices_Index_string.p0.w0, slices_Index_string.p0.w1]
noncomputable def slices_Index_string.p0.un (x : Tup slices_Index_string.p0.inS) : List (ByteArray) × ByteArray × Int × Int := (x.1.1, x.1.2.1, x.1.2.2.1, x.1.2.2.2.1)
noncomputable def slices_Index_string.p0.lp : LProc := { inS := slices_Index_string.p0.inS, outs := slices_Index_string.p0.outs, F := fun x => loopF slices_Index_string.p0.step (slices_Index_string.p0.un x) }
noncomputable def slices_Index_string.F0 (a0 : List (ByteArray)) (a1 : ByteArray) : Option (Int) :=
  ((loopF slices_Index_string.p0.step (a0, a1, (a0.length : Int), (0 : Int))).bind fun y1 => (Sum.elim (fun y2 => some y2) (fun z3 => some (-1 : Int)) y1))
noncomputable def slices_Index_string.F : (List (ByteArray)) → ByteArray → Option (Int) := lock slices_Index_string.F0
theorem slices_Index_string.F_eq : slices_Index_string.F = slices_Index_string.F0 := lock_eq _
noncomputable def slices_Index_string.p : Proc := { nargs := 2, inS := ⟨[(0, .lf (.dat .str)), (1, .lf (.sc .str))], []⟩, outS := ⟨[(0, .lf (.sc (.int .i64)))], []⟩, n0 := 0, R := Int, F := fun x => slices_Index_string.F x.1.1 x.1.2.1, post := fun r => ((r, ()), ()), un := fun x => x.1.1 }
noncomputable def slices_Index_string.E : Env := { P := Tryz.prog, ty := tyTab [], glob := glob0, proc := procTab [], lproc := lprocTab [(0, slices_Index_string.p0.lp)], n0 := 0, ntmps := 19 }
theorem slices_Index_string.ok : ProcsOk slices_Index_string.E := AllSound.ok (l := []) (by kernel_rfl) rfl trivial
noncomputable def slices_Index_string.body0 : Code := (match Tryz.f86.body with | some c => c | none => .skip)
noncomputable def slices_Index_string.p0.c : Code := ((codeAt slices_Index_string.body0 [.r, .l, .r, .b, .b]).getD .skip)
noncomputable def slices_Index_string.p0.ann : Ann := .z
set_option maxRecDepth 100000 in
theorem slices_Index_string.p0.eq (x : Tup slices_Index_string.p0.inS) : peRound slices_Index_string.E slices_Index_string.p0.c slices_Index_string.p0.ann _ slices_Index_string.p0.inS slices_Index_string.p0.un slices_Index_string.p0.outs x = slices_Index_string.p0.step (slices_Index_string.p0.un x) := by
  kernel_rfl
set_option maxRecDepth 100000 in
theorem slices_Index_string.p0.sound : LProcSound slices_Index_string.E (.loop slices_Index_string.p0.c) slices_Index_string.p0.lp :=
  loop_sound (c := slices_Index_string.p0.c) (ann := slices_Index_string.p0.ann) slices_Index_string.ok ((SubsOk_z _ _) : SubsOk slices_Index_string.E slices_Index_string.p0.c slices_Index_string.p0.ann) (by intro a ha; simp only [slices_Index_string.p0.outs, List.mem_cons, List.not_mem_nil, or_false] at ha; rcases ha with rfl | rfl <;> exact fun _ => rfl) slices_Index_string.p0.eq
noncomputable def slices_Index_string.ann : Ann := .s (.z) (.s (.s (.z) (.b (.sub 0))) (.z))
set_option maxRecDepth 100000 in
theorem slices_Index_string.eq (x : Tup slices_Index_string.p.inS) : peFn slices_Index_string.E Tryz.f86 slices_Index_string.ann slices_Index_string.p x = slices_Index_string.p.F x := by
  have h : peFn slices_Index_string.E Tryz.f86 slices_Index_string.ann slices_Index_string.p x = slices_Index_string.F0 x.1.1 x.1.2.1 := by kernel_rfl
  exact h.trans (by show _ = slices_Index_string.F x.1.1 x.1.2.1; rw [slices_Index_string.F_eq])
set_option maxRecDepth 100000 in
theorem slices_Index_string.sound : ProcSound Tryz.prog glob0 86 slices_Index_string.p :=
  fn_sound (E := slices_Index_string.E) (c := slices_Index_string.body0) (ann := slices_Index_string.ann) slices_Index_string.ok Tryz.func86 (of_decide_eq_true (by kernel_rfl)) rfl rfl rfl (by decide +kernel) (⟨(SubsOk_z _ _), ⟨⟨(SubsOk_z _ _), (sub_of rfl slices_Index_string.p0.sound)⟩, (SubsOk_z _ _)⟩⟩ : SubsOk slices_Index_string.E slices_Index_string.body0 slices_Index_string.ann) (fun _ => rfl) rfl slices_Index_string.eq

/-! ### armplan/syntax.counts: function 90 -/
noncomputable def syntax_counts.F0 (_ : Unit) : Option (List ((ByteArray × Int))) :=
  some (setM (⟨#[115, 107, 105, 112]⟩ : ByteArray) (2 : Int) (setM (⟨#[109, 97, 115, 115]⟩ : ByteArray) (5 : Int) (setM (⟨#[108, 105, 109, 105, 116]⟩ : ByteArray) (4 : Int) (setM (⟨#[106, 111, 105, 110, 116]⟩ : ByteArray) (9 : Int) ([] : List (ByteArray × Int))))))
noncomputable def syntax_counts.F : Unit → Option (List ((ByteArray × Int))) := lock syntax_counts.F0
theorem syntax_counts.F_eq : syntax_counts.F = syntax_counts.F0 := lock_eq _
noncomputable def syntax_counts.p : Proc := { nargs := 0, inS := ⟨[], []⟩, outS := ⟨[(0, .lf (.own 0))], [.smap (.int .i64)]⟩, n0 := 0, R := List ((ByteArray × Int)), F := fun x => syntax_counts.F (), post := fun r => (((), ()), (r, ())), un := fun x => x.2.1 }
noncomputable def syntax_counts.E : Env := { P := Tryz.prog, ty := tyTab [(3, (.int .i64))], glob := glob0, proc := procTab [], lproc := lprocTab [], n0 := 0, ntmps := 3 }
theorem syntax_counts.ok : ProcsOk syntax_counts.E := AllSound.ok (l := []) (by kernel_rfl) rfl trivial
noncomputable def syntax_counts.body0 : Code := (match Tryz.f90.body with | some c => c | none => .skip)
noncomputable def syntax_counts.ann : Ann := .z
set_option maxRecDepth 100000 in
theorem syntax_counts.eq (x : Tup syntax_counts.p.inS) : peFn syntax_counts.E Tryz.f90 syntax_counts.ann syntax_counts.p x = syntax_counts.p.F x := by
  have h : peFn syntax_counts.E Tryz.f90 syntax_counts.ann syntax_counts.p x = syntax_counts.F0 () := by kernel_rfl
  exact h.trans (by show _ = syntax_counts.F (); rw [syntax_counts.F_eq])
set_option maxRecDepth 100000 in
theorem syntax_counts.sound : ProcSound Tryz.prog glob0 90 syntax_counts.p :=
  fn_sound (E := syntax_counts.E) (c := syntax_counts.body0) (ann := syntax_counts.ann) syntax_counts.ok Tryz.func90 (of_decide_eq_true (by kernel_rfl)) rfl rfl rfl (by decide +kernel) ((SubsOk_z _ _) : SubsOk syntax_counts.E syntax_counts.body0 syntax_counts.ann) (fun _ => rfl) rfl syntax_counts.eq

/-! ### armplan/token.digits: function 104 -/
noncomputable def token_digits.p0.round (v0 : ByteArray) (v1 : Int) (v2 : ByteArray) (v3 : Int) : Option ((ByteArray × Int × ByteArray × Int) ⊕ ((Bool) ⊕ (ByteArray × Int))) :=
  (bif decide (v3 < (v2.size : Int)) then (bif decide ((rnC v2 v3) < (48 : Int)) then some (.inr (.inl false)) else (bif decide ((rnC v2 v3) > (57 : Int)) then some (.inr (.inl false)) else some (.inl (v0, v1, v2, (v3 + rnW v2 v3))))) else some (.inr (.inr (v0, v1))))
noncomputable def token_digits.p0.step (s : ByteArray × Int × ByteArray × Int) : Option ((ByteArray × Int × ByteArray × Int) ⊕ ((Bool) ⊕ (ByteArray × Int))) := token_digits.p0.round s.1 s.2.1 s.2.2.1 s.2.2.2
noncomputable def token_digits.p0.inS : Shape := ⟨[(0, .lf (.sc .str)), (1, .lf (.sc (.int .i64))), (8, .lf (.bp 0 0))], [.iter]⟩
noncomputable def token_digits.p0.w0 : Way := { ex := .rt, S := ⟨[(4, .lf (.sc .bool))], []⟩, R := Bool, post := fun r => ((r, ()), ()), un := fun x => x.1.1 }
noncomputable def token_digits.p0.w1 : Way := { ex := (.ex 0), S := ⟨[(0, .lf (.sc .str)), (1, .lf (.sc (.int .i64)))], []⟩, R := ByteArray × Int, post := fun r => ((r.1, (r.2, ())), ()), un := fun x => (x.1.1, x.1.2.1) }
noncomputable def token_digits.p0.outs : List Way := [token_digits.p0.w0, token_digits.p0.w1]
noncomputable def token_digits.p0.un (x : Tup token_digits.p0.inS) : ByteArray × Int × ByteArray × Int := (x.1.1, x.1.2.1, x.2.1.1, x.2.1.2)
noncomputable def token_digits.p0.lp : LProc := { inS := token_digits.p0.inS, outs := token_digits.p0.outs, F := fun x => loopF token_digits.p0.step (token_digits.p0.un x) }
noncomputable def token_digits.F0 (a0 : ByteArray) (a1 : Int) : Option (Bool) :=
  ((loopF token_digits.p0.step (a0, a1, a0, (0 : Int))).bind fun y1 => (Sum.elim (fun y2 => some y2) (fun z3 => (bif decide ((z3.1.size : Int) ≥ (1 : Int)) then some (decide ((z3.1.size : Int) ≤ z3.2)) else some false)) y1))
noncomputable def token_digits.F : ByteArray → Int → Option (Bool) := lock token_digits.F0
theorem token_digits.F_eq : token_digits.F = token_digits.F0 := lock_eq _
noncomputable def token_digits.p : Proc := { nargs := 2, inS := ⟨[(0, .lf (.sc .str)), (1, .lf (.sc (.int .i64)))], []⟩, outS := ⟨[(0, .lf (.sc .bool))], []⟩, n0 := 0, R := Bool, F := fun x => token_digits.F x.1.1 x.1.2.1, post := fun r => ((r, ()), ()), un := fun x => x.1.1 }
noncomputable def token_digits.E : Env := { P := Tryz.prog, ty := tyTab [], glob := glob0, proc := procTab [], lproc := lprocTab [(0, token_digits.p0.lp)], n0 := 0, ntmps := 27 }
theorem token_digits.ok : ProcsOk token_digits.E := AllSound.ok (l := []) (by kernel_rfl) rfl trivial
noncomputable def token_digits.body0 : Code := (match Tryz.f104.body with | some c => c | none => .skip)
noncomputable def token_digits.p0.c : Code := ((codeAt token_digits.body0 [.r, .l, .r, .b, .b]).getD .skip)
noncomputable def token_digits.p0.ann : Ann := .z
set_option maxRecDepth 100000 in
theorem token_digits.p0.eq (x : Tup token_digits.p0.inS) : peRound token_digits.E token_digits.p0.c token_digits.p0.ann _ token_digits.p0.inS token_digits.p0.un token_digits.p0.outs x = token_digits.p0.step (token_digits.p0.un x) := by
  kernel_rfl
set_option maxRecDepth 100000 in
theorem token_digits.p0.sound : LProcSound token_digits.E (.loop token_digits.p0.c) token_digits.p0.lp :=
  loop_sound (c := token_digits.p0.c) (ann := token_digits.p0.ann) token_digits.ok ((SubsOk_z _ _) : SubsOk token_digits.E token_digits.p0.c token_digits.p0.ann) (by intro a ha; simp only [token_digits.p0.outs, List.mem_cons, List.not_mem_nil, or_false] at ha; rcases ha with rfl | rfl <;> exact fun _ => rfl) token_digits.p0.eq
noncomputable def token_digits.ann : Ann := .s (.z) (.s (.s (.z) (.b (.sub 0))) (.z))
set_option maxRecDepth 100000 in
theorem token_digits.eq (x : Tup token_digits.p.inS) : peFn token_digits.E Tryz.f104 token_digits.ann token_digits.p x = token_digits.p.F x := by
  have h : peFn token_digits.E Tryz.f104 token_digits.ann token_digits.p x = token_digits.F0 x.1.1 x.1.2.1 := by kernel_rfl
  exact h.trans (by show _ = token_digits.F x.1.1 x.1.2.1; rw [token_digits.F_eq])
set_option maxRecDepth 100000 in
theorem token_digits.sound : ProcSound Tryz.prog glob0 104 token_digits.p :=
  fn_sound (E := token_digits.E) (c := token_digits.body0) (ann := token_digits.ann) token_digits.ok Tryz.func104 (of_decide_eq_true (by kernel_rfl)) rfl rfl rfl (by decide +kernel) (⟨(SubsOk_z _ _), ⟨⟨(SubsOk_z _ _), (sub_of rfl token_digits.p0.sound)⟩, (SubsOk_z _ _)⟩⟩ : SubsOk token_digits.E token_digits.body0 token_digits.ann) (fun _ => rfl) rfl token_digits.eq

/-! ### armplan/token.signed: function 106 -/
noncomputable def token_signed.F0 (a0 : Int) (a1 : Bool) : Option (Int) :=
  (bif a1 then some (IntKind.wrap .i64 (0 - a0)) else some a0)
noncomputable def token_signed.F : Int → Bool → Option (Int) := lock token_signed.F0
theorem token_signed.F_eq : token_signed.F = token_signed.F0 := lock_eq _
noncomputable def token_signed.p : Proc := { nargs := 2, inS := ⟨[(0, .lf (.sc (.int .i64))), (1, .lf (.sc .bool))], []⟩, outS := ⟨[(0, .lf (.sc (.int .i64)))], []⟩, n0 := 0, R := Int, F := fun x => token_signed.F x.1.1 x.1.2.1, post := fun r => ((r, ()), ()), un := fun x => x.1.1 }
noncomputable def token_signed.E : Env := { P := Tryz.prog, ty := tyTab [], glob := glob0, proc := procTab [], lproc := lprocTab [], n0 := 0, ntmps := 9 }
theorem token_signed.ok : ProcsOk token_signed.E := AllSound.ok (l := []) (by kernel_rfl) rfl trivial
noncomputable def token_signed.body0 : Code := (match Tryz.f106.body with | some c => c | none => .skip)
noncomputable def token_signed.ann : Ann := .z
set_option maxRecDepth 100000 in
theorem token_signed.eq (x : Tup token_signed.p.inS) : peFn token_signed.E Tryz.f106 token_signed.ann token_signed.p x = token_signed.p.F x := by
  have h : peFn token_signed.E Tryz.f106 token_signed.ann token_signed.p x = token_signed.F0 x.1.1 x.1.2.1 := by kernel_rfl
  exact h.trans (by show _ = token_signed.F x.1.1 x.1.2.1; rw [token_signed.F_eq])
set_option maxRecDepth 100000 in
theorem token_signed.sound : ProcSound Tryz.prog glob0 106 token_signed.p :=
  fn_sound (E := token_signed.E) (c := token_signed.body0) (ann := token_signed.ann) token_signed.ok Tryz.func106 (of_decide_eq_true (by kernel_rfl)) rfl rfl rfl (by decide +kernel) ((SubsOk_z _ _) : SubsOk token_signed.E token_signed.body0 token_signed.ann) (fun _ => rfl) rfl token_signed.eq

/-! ### internal/stringslite.Cut: function 120 -/
noncomputable def stringslite_Cut.F0 (a0 : ByteArray) (a1 : ByteArray) : Option (ByteArray × ByteArray × Bool) :=
  ((libIndex.F a0 a1).bind fun r1 => (bif decide (r1 ≥ (0 : Int)) then (bif decide (0 ≤ r1) then (bif decide (r1 ≤ (a0.size : Int)) then (bif decide (0 ≤ (IntKind.wrap .i64 (r1 + (a1.size : Int)))) then (bif decide ((IntKind.wrap .i64 (r1 + (a1.size : Int))) ≤ (a0.size : Int)) then some ((a0.extract 0 r1.toNat), (a0.extract (IntKind.wrap .i64 (r1 + (a1.size : Int))).toNat a0.size), true) else none) else none) else none) else none) else some (a0, (⟨#[]⟩ : ByteArray), false)))
noncomputable def stringslite_Cut.F : ByteArray → ByteArray → Option (ByteArray × ByteArray × Bool) := lock stringslite_Cut.F0
theorem stringslite_Cut.F_eq : stringslite_Cut.F = stringslite_Cut.F0 := lock_eq _
noncomputable def stringslite_Cut.p : Proc := { nargs := 2, inS := ⟨[(0, .lf (.sc .str)), (1, .lf (.sc .str))], []⟩, outS := ⟨[(0, .lf (.sc .str)), (1, .lf (.sc .str)), (2, .lf (.sc .bool))], []⟩, n0 := 0, R := ByteArray × ByteArray × Bool, F := fun x => stringslite_Cut.F x.1.1 x.1.2.1, post := fun r => ((r.1, (r.2.1, (r.2.2, ()))), ()), un := fun x => (x.1.1, x.1.2.1, x.1.2.2.1) }
noncomputable def stringslite_Cut.E : Env := { P := Tryz.prog, ty := tyTab [], glob := glob0, proc := procTab [(133, lib_Index.p)], lproc := lprocTab [], n0 := 0, ntmps := 23 }
theorem stringslite_Cut.ok : ProcsOk stringslite_Cut.E := AllSound.ok (l := [(133, lib_Index.p)]) (by kernel_rfl) rfl ⟨lib_Index.sound, trivial⟩
noncomputable def stringslite_Cut.body0 : Code := (match Tryz.f120.body with | some c => c | none => .skip)
noncomputable def stringslite_Cut.ann : Ann := .z
set_option maxRecDepth 100000 in
theorem stringslite_Cut.eq (x : Tup stringslite_Cut.p.inS) : peFn stringslite_Cut.E Tryz.f120 stringslite_Cut.ann stringslite_Cut.p x = stringslite_Cut.p.F x := by
  have h : peFn stringslite_Cut.E Tryz.f120 stringslite_Cut.ann stringslite_Cut.p x = stringslite_Cut.F0 x.1.1 x.1.2.1 := by kernel_rfl
  exact h.trans (by show _ = stringslite_Cut.F x.1.1 x.1.2.1; rw [stringslite_Cut.F_eq])
set_option maxRecDepth 100000 in
theorem stringslite_Cut.sound : ProcSound Tryz.prog glob0 120 stringslite_Cut.p :=
  fn_sound (E := stringslite_Cut.E) (c := stringslite_Cut.body0) (ann := stringslite_Cut.ann) stringslite_Cut.ok Tryz.func120 (of_decide_eq_true (by kernel_rfl)) rfl rfl rfl (by decide +kernel) ((SubsOk_z _ _) : SubsOk stringslite_Cut.E stringslite_Cut.body0 stringslite_Cut.ann) (fun _ => rfl) rfl stringslite_Cut.eq

end Go.Abs
