/- A part of the proof that the text with the row names: printed readings of functions, or plain lemmas about them. -/
import Derived.Test.YtanopckddijfcaaGreatDoorC8ZX
import Derived.KernelRfl
set_option linter.unusedVariables false
set_option linter.unusedSimpArgs false
namespace Go.Abs
open Go Go.Proofs

abbrev jz : ByteArray × Int × Int × (Int × Int × Int) × Int × Int × Int × Int × Int × Int := ((⟨#[]⟩ : ByteArray), ((0 : Int), ((0 : Int), (((0 : Int), ((0 : Int), (0 : Int))), ((0 : Int), ((0 : Int), ((0 : Int), ((0 : Int), ((0 : Int), (0 : Int))))))))))

/-! ### armplan/armplanmake.Round: function 8 -/
noncomputable def armplanmake_Round.F0 (a0 : Int) (a1 : Int) : Option (Int) :=
  (bif (a1 != 0) then (bif decide ((a0.tmod a1) < (0 : Int)) then some (IntKind.wrap .i64 ((a0.tmod a1) + a1)) else some (a0.tmod a1)) else none)
noncomputable def armplanmake_Round.F : Int → Int → Option (Int) := lock armplanmake_Round.F0
theorem armplanmake_Round.F_eq : armplanmake_Round.F = armplanmake_Round.F0 := lock_eq _
noncomputable def armplanmake_Round.p : Proc := { nargs := 2, inS := ⟨[(0, .lf (.sc (.int .i64))), (1, .lf (.sc (.int .i64)))], []⟩, outS := ⟨[(0, .lf (.sc (.int .i64)))], []⟩, n0 := 0, R := Int, F := fun x => armplanmake_Round.F x.1.1 x.1.2.1, post := fun r => ((r, ()), ()), un := fun x => x.1.1 }
noncomputable def armplanmake_Round.E : Env := { P := Tryz.prog, ty := tyTab [], glob := glob0, proc := procTab [], lproc := lprocTab [], n0 := 0, ntmps := 15 }
theorem armplanmake_Round.ok : ProcsOk armplanmake_Round.E := AllSound.ok (l := []) (by kernel_rfl) rfl trivial
noncomputable def armplanmake_Round.body0 : Code := (match Tryz.f8.body with | some c => c | none => .skip)
noncomputable def armplanmake_Round.ann : Ann := .z
set_option maxRecDepth 100000 in
theorem armplanmake_Round.eq (x : Tup armplanmake_Round.p.inS) : peFn armplanmake_Round.E Tryz.f8 armplanmake_Round.ann armplanmake_Round.p x = armplanmake_Round.p.F x := by
  have h : peFn armplanmake_Round.E Tryz.f8 armplanmake_Round.ann armplanmake_Round.p x = armplanmake_Round.F0 x.1.1 x.1.2.1 := by kernel_rfl
  exact h.trans (by show _ = armplanmake_Round.F x.1.1 x.1.2.1; rw [armplanmake_Round.F_eq])
set_option maxRecDepth 100000 in
theorem armplanmake_Round.sound : ProcSound Tryz.prog glob0 8 armplanmake_Round.p :=
  fn_sound (E := armplanmake_Round.E) (c := armplanmake_Round.body0) (ann := armplanmake_Round.ann) armplanmake_Round.ok Tryz.func8 (of_decide_eq_true (by kernel_rfl)) rfl rfl rfl (by decide +kernel) ((SubsOk_z _ _) : SubsOk armplanmake_Round.E armplanmake_Round.body0 armplanmake_Round.ann) (fun _ => rfl) rfl armplanmake_Round.eq

/-! ### armplan/armplanmake.From: function 22 -/
noncomputable def armplanmake_From.F0 (a0 : List (Int)) : Option (List (Int) × Int) :=
  some (a0, (0 : Int))
noncomputable def armplanmake_From.F : (List (Int)) → Option (List (Int) × Int) := lock armplanmake_From.F0
theorem armplanmake_From.F_eq : armplanmake_From.F = armplanmake_From.F0 := lock_eq _
noncomputable def armplanmake_From.p : Proc := { nargs := 1, inS := ⟨[(0, .lf (.dat (.int .i64)))], []⟩, outS := ⟨[(0, .lf (.bp 0 0))], [.box [.dat (.int .i64), .sc (.int .i64)]]⟩, n0 := 0, R := List (Int) × Int, F := fun x => armplanmake_From.F x.1.1, post := fun r => (((), ()), ((r.1, (r.2, ())), ())), un := fun x => (x.2.1.1, x.2.1.2.1) }
noncomputable def armplanmake_From.E : Env := { P := Tryz.prog, ty := tyTab [], glob := glob0, proc := procTab [], lproc := lprocTab [], n0 := 0, ntmps := 6 }
theorem armplanmake_From.ok : ProcsOk armplanmake_From.E := AllSound.ok (l := []) (by kernel_rfl) rfl trivial
noncomputable def armplanmake_From.body0 : Code := (match Tryz.f22.body with | some c => c | none => .skip)
noncomputable def armplanmake_From.ann : Ann := .z
set_option maxRecDepth 100000 in
theorem armplanmake_From.eq (x : Tup armplanmake_From.p.inS) : peFn armplanmake_From.E Tryz.f22 armplanmake_From.ann armplanmake_From.p x = armplanmake_From.p.F x := by
  have h : peFn armplanmake_From.E Tryz.f22 armplanmake_From.ann armplanmake_From.p x = armplanmake_From.F0 x.1.1 := by kernel_rfl
  exact h.trans (by show _ = armplanmake_From.F x.1.1; rw [armplanmake_From.F_eq])
set_option maxRecDepth 100000 in
theorem armplanmake_From.sound : ProcSound Tryz.prog glob0 22 armplanmake_From.p :=
  fn_sound (E := armplanmake_From.E) (c := armplanmake_From.body0) (ann := armplanmake_From.ann) armplanmake_From.ok Tryz.func22 (of_decide_eq_true (by kernel_rfl)) rfl rfl rfl (by decide +kernel) ((SubsOk_z _ _) : SubsOk armplanmake_From.E armplanmake_From.body0 armplanmake_From.ann) (fun _ => rfl) rfl armplanmake_From.eq

/-! ### (*armplan/armplanmake.Source).Next: function 24 -/
noncomputable def armplanmake_Source_Next.F0 (a0 : Int) (a1 : List (Int)) (a2 : Int) : Option (Int × List (Int) × Int) :=
  (bif decide (a2 ≥ (a1.length : Int)) then some ((0 : Int), a1, a2) else (bif decide (0 ≤ (IntKind.wrap .i64 ((IntKind.wrap .i64 (a2 + (1 : Int))) - (1 : Int)))) then (bif decide ((IntKind.wrap .i64 ((IntKind.wrap .i64 (a2 + (1 : Int))) - (1 : Int))) < (a1.length : Int)) then ((armplanmake_Round.F (a1.getD (IntKind.wrap .i64 ((IntKind.wrap .i64 (a2 + (1 : Int))) - (1 : Int))).toNat (0 : Int)) a0).bind fun r1 => some (r1, a1, (IntKind.wrap .i64 (a2 + (1 : Int))))) else none) else none))
noncomputable def armplanmake_Source_Next.F : Int → (List (Int)) → Int → Option (Int × List (Int) × Int) := lock armplanmake_Source_Next.F0
theorem armplanmake_Source_Next.F_eq : armplanmake_Source_Next.F = armplanmake_Source_Next.F0 := lock_eq _
noncomputable def armplanmake_Source_Next.p : Proc := { nargs := 2, inS := ⟨[(0, .lf (.bp 0 0)), (1, .lf (.sc (.int .i64)))], [.box [.dat (.int .i64), .sc (.int .i64)]]⟩, outS := ⟨[(0, .lf (.sc (.int .i64)))], [.box [.dat (.int .i64), .sc (.int .i64)]]⟩, n0 := 1, R := Int × List (Int) × Int, F := fun x => armplanmake_Source_Next.F x.1.2.1 x.2.1.1 x.2.1.2.1, post := fun r => ((r.1, ()), ((r.2.1, (r.2.2, ())), ())), un := fun x => (x.1.1, x.2.1.1, x.2.1.2.1) }
noncomputable def armplanmake_Source_Next.E : Env := { P := Tryz.prog, ty := tyTab [], glob := glob0, proc := procTab [(8, armplanmake_Round.p)], lproc := lprocTab [], n0 := 1, ntmps := 35 }
theorem armplanmake_Source_Next.ok : ProcsOk armplanmake_Source_Next.E := AllSound.ok (l := [(8, armplanmake_Round.p)]) (by kernel_rfl) rfl ⟨armplanmake_Round.sound, trivial⟩
noncomputable def armplanmake_Source_Next.body0 : Code := (match Tryz.f24.body with | some c => c | none => .skip)
noncomputable def armplanmake_Source_Next.ann : Ann := .z
set_option maxRecDepth 100000 in
theorem armplanmake_Source_Next.eq (x : Tup armplanmake_Source_Next.p.inS) : peFn armplanmake_Source_Next.E Tryz.f24 armplanmake_Source_Next.ann armplanmake_Source_Next.p x = armplanmake_Source_Next.p.F x := by
  have h : peFn armplanmake_Source_Next.E Tryz.f24 armplanmake_Source_Next.ann armplanmake_Source_Next.p x = armplanmake_Source_Next.F0 x.1.2.1 x.2.1.1 x.2.1.2.1 := by kernel_rfl
  exact h.trans (by show _ = armplanmake_Source_Next.F x.1.2.1 x.2.1.1 x.2.1.2.1; rw [armplanmake_Source_Next.F_eq])
set_option maxRecDepth 100000 in
theorem armplanmake_Source_Next.sound : ProcSound Tryz.prog glob0 24 armplanmake_Source_Next.p :=
  fn_sound (E := armplanmake_Source_Next.E) (c := armplanmake_Source_Next.body0) (ann := armplanmake_Source_Next.ann) armplanmake_Source_Next.ok Tryz.func24 (of_decide_eq_true (by kernel_rfl)) rfl rfl rfl (by decide +kernel) ((SubsOk_z _ _) : SubsOk armplanmake_Source_Next.E armplanmake_Source_Next.body0 armplanmake_Source_Next.ann) (fun _ => rfl) rfl armplanmake_Source_Next.eq

/-! ### (*armplan/armplanmake.Source).Signed: function 26 -/
noncomputable def armplanmake_Source_Signed.F0 (a0 : Int) (a1 : List (Int)) (a2 : Int) : Option (Int × List (Int) × Int) :=
  ((armplanmake_Source_Next.F (IntKind.wrap .i64 ((IntKind.wrap .i64 ((2 : Int) * a0)) + (1 : Int))) a1 a2).bind fun r1 => some ((IntKind.wrap .i64 (r1.1 - a0)), r1.2.1, r1.2.2))
noncomputable def armplanmake_Source_Signed.F : Int → (List (Int)) → Int → Option (Int × List (Int) × Int) := lock armplanmake_Source_Signed.F0
theorem armplanmake_Source_Signed.F_eq : armplanmake_Source_Signed.F = armplanmake_Source_Signed.F0 := lock_eq _
noncomputable def armplanmake_Source_Signed.p : Proc := { nargs := 2, inS := ⟨[(0, .lf (.bp 0 0)), (1, .lf (.sc (.int .i64)))], [.box [.dat (.int .i64), .sc (.int .i64)]]⟩, outS := ⟨[(0, .lf (.sc (.int .i64)))], [.box [.dat (.int .i64), .sc (.int .i64)]]⟩, n0 := 1, R := Int × List (Int) × Int, F := fun x => armplanmake_Source_Signed.F x.1.2.1 x.2.1.1 x.2.1.2.1, post := fun r => ((r.1, ()), ((r.2.1, (r.2.2, ())), ())), un := fun x => (x.1.1, x.2.1.1, x.2.1.2.1) }
noncomputable def armplanmake_Source_Signed.E : Env := { P := Tryz.prog, ty := tyTab [], glob := glob0, proc := procTab [(24, armplanmake_Source_Next.p)], lproc := lprocTab [], n0 := 1, ntmps := 12 }
theorem armplanmake_Source_Signed.ok : ProcsOk armplanmake_Source_Signed.E := AllSound.ok (l := [(24, armplanmake_Source_Next.p)]) (by kernel_rfl) rfl ⟨armplanmake_Source_Next.sound, trivial⟩
noncomputable def armplanmake_Source_Signed.body0 : Code := (match Tryz.f26.body with | some c => c | none => .skip)
noncomputable def armplanmake_Source_Signed.ann : Ann := .z
set_option maxRecDepth 100000 in
theorem armplanmake_Source_Signed.eq (x : Tup armplanmake_Source_Signed.p.inS) : peFn armplanmake_Source_Signed.E Tryz.f26 armplanmake_Source_Signed.ann armplanmake_Source_Signed.p x = armplanmake_Source_Signed.p.F x := by
  have h : peFn armplanmake_Source_Signed.E Tryz.f26 armplanmake_Source_Signed.ann armplanmake_Source_Signed.p x = armplanmake_Source_Signed.F0 x.1.2.1 x.2.1.1 x.2.1.2.1 := by kernel_rfl
  exact h.trans (by show _ = armplanmake_Source_Signed.F x.1.2.1 x.2.1.1 x.2.1.2.1; rw [armplanmake_Source_Signed.F_eq])
set_option maxRecDepth 100000 in
theorem armplanmake_Source_Signed.sound : ProcSound Tryz.prog glob0 26 armplanmake_Source_Signed.p :=
  fn_sound (E := armplanmake_Source_Signed.E) (c := armplanmake_Source_Signed.body0) (ann := armplanmake_Source_Signed.ann) armplanmake_Source_Signed.ok Tryz.func26 (of_decide_eq_true (by kernel_rfl)) rfl rfl rfl (by decide +kernel) ((SubsOk_z _ _) : SubsOk armplanmake_Source_Signed.E armplanmake_Source_Signed.body0 armplanmake_Source_Signed.ann) (fun _ => rfl) rfl armplanmake_Source_Signed.eq

/-! ### armplan/armplanlaw8.one: function 28 -/
noncomputable def armplanlaw8_one.F0 (_ : Unit) : Option (List ((ByteArray × (Int × (Int × ((Int × (Int × Int)) × (Int × (Int × (Int × (Int × (Int × Int)))))))))) × List ((Int × (Int × (Int × (Int × Int)))))) :=
  some (([((⟨#[98, 97, 115, 101]⟩ : ByteArray), ((3 : Int), ((-1 : Int), (((0 : Int), ((0 : Int), (0 : Int))), ((-16384 : Int), ((16384 : Int), ((1 : Int), ((65536 : Int), ((65536 : Int), (65536 : Int))))))))))] : List ((ByteArray × (Int × (Int × ((Int × (Int × Int)) × (Int × (Int × (Int × (Int × (Int × Int))))))))))), ([] : List ((Int × (Int × (Int × (Int × Int)))))))
noncomputable def armplanlaw8_one.F : Unit → Option (List ((ByteArray × (Int × (Int × ((Int × (Int × Int)) × (Int × (Int × (Int × (Int × (Int × Int)))))))))) × List ((Int × (Int × (Int × (Int × Int)))))) := lock armplanlaw8_one.F0
theorem armplanlaw8_one.F_eq : armplanlaw8_one.F = armplanlaw8_one.F0 := lock_eq _
noncomputable def armplanlaw8_one.p : Proc := { nargs := 0, inS := ⟨[], []⟩, outS := ⟨[(0, .ag [.dat (.pair .str (.pair (.int .i64) (.pair (.int .i64) (.pair (.pair (.int .i64) (.pair (.int .i64) (.int .i64))) (.pair (.int .i64) (.pair (.int .i64) (.pair (.int .i64) (.pair (.int .i64) (.pair (.int .i64) (.int .i64)))))))))), .dat (.pair (.int .i64) (.pair (.int .i64) (.pair (.int .i64) (.pair (.int .i64) (.int .i64)))))])], []⟩, n0 := 0, R := List ((ByteArray × (Int × (Int × ((Int × (Int × Int)) × (Int × (Int × (Int × (Int × (Int × Int)))))))))) × List ((Int × (Int × (Int × (Int × Int))))), F := fun x => armplanlaw8_one.F (), post := fun r => (((r.1, (r.2, ())), ()), ()), un := fun x => (x.1.1.1, x.1.1.2.1) }
noncomputable def armplanlaw8_one.E : Env := { P := Tryz.prog, ty := tyTab [(79, (.pair .str (.pair (.int .i64) (.pair (.int .i64) (.pair (.pair (.int .i64) (.pair (.int .i64) (.int .i64))) (.pair (.int .i64) (.pair (.int .i64) (.pair (.int .i64) (.pair (.int .i64) (.pair (.int .i64) (.int .i64))))))))))), (85, (.pair (.int .i64) (.pair (.int .i64) (.pair (.int .i64) (.pair (.int .i64) (.int .i64))))))], glob := glob0, proc := procTab [], lproc := lprocTab [], n0 := 0, ntmps := 4 }
theorem armplanlaw8_one.ok : ProcsOk armplanlaw8_one.E := AllSound.ok (l := []) (by kernel_rfl) rfl trivial
noncomputable def armplanlaw8_one.body0 : Code := (match Tryz.f28.body with | some c => c | none => .skip)
noncomputable def armplanlaw8_one.ann : Ann := .z
set_option maxRecDepth 100000 in
theorem armplanlaw8_one.eq (x : Tup armplanlaw8_one.p.inS) : peFn armplanlaw8_one.E Tryz.f28 armplanlaw8_one.ann armplanlaw8_one.p x = armplanlaw8_one.p.F x := by
  have h : peFn armplanlaw8_one.E Tryz.f28 armplanlaw8_one.ann armplanlaw8_one.p x = armplanlaw8_one.F0 () := by kernel_rfl
  exact h.trans (by show _ = armplanlaw8_one.F (); rw [armplanlaw8_one.F_eq])
set_option maxRecDepth 100000 in
theorem armplanlaw8_one.sound : ProcSound Tryz.prog glob0 28 armplanlaw8_one.p :=
  fn_sound (E := armplanlaw8_one.E) (c := armplanlaw8_one.body0) (ann := armplanlaw8_one.ann) armplanlaw8_one.ok Tryz.func28 (of_decide_eq_true (by kernel_rfl)) rfl rfl rfl (by decide +kernel) ((SubsOk_z _ _) : SubsOk armplanlaw8_one.E armplanlaw8_one.body0 armplanlaw8_one.ann) (fun _ => rfl) rfl armplanlaw8_one.eq

/-! ### armplan/armplanref6.Find: function 31 -/
noncomputable def armplanref6_Find.p0.round (v0 : ByteArray) (v1 : Int) (v2 : List ((ByteArray × (Int × (Int × ((Int × (Int × Int)) × (Int × (Int × (Int × (Int × (Int × Int))))))))))) (v3 : List ((Int × (Int × (Int × (Int × Int)))))) : Option ((ByteArray × Int × List ((ByteArray × (Int × (Int × ((Int × (Int × Int)) × (Int × (Int × (Int × (Int × (Int × Int)))))))))) × List ((Int × (Int × (Int × (Int × Int)))))) ⊕ ((Int) ⊕ (Unit))) :=
  (bif decide (v1 < (v2.length : Int)) then (bif decide (0 ≤ v1) then (bif decide (v1 < (v2.length : Int)) then (bif (eqS (v2.getD v1.toNat ((⟨#[]⟩ : ByteArray), ((0 : Int), ((0 : Int), (((0 : Int), ((0 : Int), (0 : Int))), ((0 : Int), ((0 : Int), ((0 : Int), ((0 : Int), ((0 : Int), (0 : Int))))))))))).1 v0) then some (.inr (.inl v1)) else some (.inl (v0, (IntKind.wrap .i64 (v1 + (1 : Int))), v2, v3))) else none) else none) else some (.inr (.inr ())))
noncomputable def armplanref6_Find.p0.step (s : ByteArray × Int × List ((ByteArray × (Int × (Int × ((Int × (Int × Int)) × (Int × (Int × (Int × (Int × (Int × Int)))))))))) × List ((Int × (Int × (Int × (Int × Int)))))) : Option ((ByteArray × Int × List ((ByteArray × (Int × (Int × ((Int × (Int × Int)) × (Int × (Int × (Int × (Int × (Int × Int)))))))))) × List ((Int × (Int × (Int × (Int × Int)))))) ⊕ ((Int) ⊕ (Unit))) := armplanref6_Find.p0.round s.1 s.2.1 s.2.2.1 s.2.2.2
noncomputable def armplanref6_Find.p0.inS : Shape := ⟨[(1, .lf (.sc .str)), (2, .lf (.bp 0 0)), (5, .lf (.sc (.int .i64)))], [.box [.dat (.pair .str (.pair (.int .i64) (.pair (.int .i64) (.pair (.pair (.int .i64) (.pair (.int .i64) (.int .i64))) (.pair (.int .i64) (.pair (.int .i64) (.pair (.int .i64) (.pair (.int .i64) (.pair (.int .i64) (.int .i64)))))))))), .dat (.pair (.int .i64) (.pair (.int .i64) (.pair (.int .i64) (.pair (.int .i64) (.int .i64)))))]]⟩
noncomputable def armplanref6_Find.p0.w0 : Way := { ex := .rt, S := ⟨[(4, .lf (.sc (.int .i64)))], []⟩, R := Int, post := fun r => ((r, ()), ()), un := fun x => x.1.1 }
noncomputable def armplanref6_Find.p0.w1 : Way := { ex := (.ex 0), S := ⟨[], []⟩, R := Unit, post := fun r => ((), ()), un := fun x => () }
noncomputable def armplanref6_Find.p0.outs : List Way := [armplanref6_Find.p0.w0, armplanref6_Find.p0.w1]
noncomputable def armplanref6_Find.p0.un (x : Tup armplanref6_Find.p0.inS) : ByteArray × Int × List ((ByteArray × (Int × (Int × ((Int × (Int × Int)) × (Int × (Int × (Int × (Int × (Int × Int)))))))))) × List ((Int × (Int × (Int × (Int × Int))))) := (x.1.1, x.1.2.2.1, x.2.1.1, x.2.1.2.1)
noncomputable def armplanref6_Find.p0.lp : LProc := { inS := armplanref6_Find.p0.inS, outs := armplanref6_Find.p0.outs, F := fun x => loopF armplanref6_Find.p0.step (armplanref6_Find.p0.un x) }
noncomputable def armplanref6_Find.F0 (a0 : List ((ByteArray × (Int × (Int × ((Int × (Int × Int)) × (Int × (Int × (Int × (Int × (Int × Int))))))))))) (a1 : List ((Int × (Int × (Int × (Int × Int)))))) (a2 : ByteArray) : Option (Int) :=
  ((loopF armplanref6_Find.p0.step (a2, (0 : Int), a0, a1)).bind fun y1 => (Sum.elim (fun y2 => some y2) (fun z3 => some (-1 : Int)) y1))
noncomputable def armplanref6_Find.F : (List ((ByteArray × (Int × (Int × ((Int × (Int × Int)) × (Int × (Int × (Int × (Int × (Int × Int))))))))))) → (List ((Int × (Int × (Int × (Int × Int)))))) → ByteArray → Option (Int) := lock armplanref6_Find.F0
theorem armplanref6_Find.F_eq : armplanref6_Find.F = armplanref6_Find.F0 := lock_eq _
noncomputable def armplanref6_Find.p : Proc := { nargs := 2, inS := ⟨[(0, .ag [.dat (.pair .str (.pair (.int .i64) (.pair (.int .i64) (.pair (.pair (.int .i64) (.pair (.int .i64) (.int .i64))) (.pair (.int .i64) (.pair (.int .i64) (.pair (.int .i64) (.pair (.int .i64) (.pair (.int .i64) (.int .i64)))))))))), .dat (.pair (.int .i64) (.pair (.int .i64) (.pair (.int .i64) (.pair (.int .i64) (.int .i64)))))]), (1, .lf (.sc .str))], []⟩, outS := ⟨[(0, .lf (.sc (.int .i64)))], []⟩, n0 := 0, R := Int, F := fun x => armplanref6_Find.F x.1.1.1 x.1.1.2.1 x.1.2.1, post := fun r => ((r, ()), ()), un := fun x => x.1.1 }
noncomputable def armplanref6_Find.E : Env := { P := Tryz.prog, ty := tyTab [], glob := glob0, proc := procTab [], lproc := lprocTab [(0, armplanref6_Find.p0.lp)], n0 := 0, ntmps := 22 }
theorem armplanref6_Find.ok : ProcsOk armplanref6_Find.E := AllSound.ok (l := []) (by kernel_rfl) rfl trivial
noncomputable def armplanref6_Find.body0 : Code := (match Tryz.f31.body with | some c => c | none => .skip)
noncomputable def armplanref6_Find.p0.c : Code := ((codeAt armplanref6_Find.body0 [.r, .l, .r, .b, .b]).getD .skip)
noncomputable def armplanref6_Find.p0.ann : Ann := .z
set_option maxRecDepth 100000 in
theorem armplanref6_Find.p0.eq (x : Tup armplanref6_Find.p0.inS) : peRound armplanref6_Find.E armplanref6_Find.p0.c armplanref6_Find.p0.ann _ armplanref6_Find.p0.inS armplanref6_Find.p0.un armplanref6_Find.p0.outs x = armplanref6_Find.p0.step (armplanref6_Find.p0.un x) := by
  kernel_rfl
set_option maxRecDepth 100000 in
theorem armplanref6_Find.p0.sound : LProcSound armplanref6_Find.E (.loop armplanref6_Find.p0.c) armplanref6_Find.p0.lp :=
  loop_sound (c := armplanref6_Find.p0.c) (ann := armplanref6_Find.p0.ann) armplanref6_Find.ok ((SubsOk_z _ _) : SubsOk armplanref6_Find.E armplanref6_Find.p0.c armplanref6_Find.p0.ann) (by intro a ha; simp only [armplanref6_Find.p0.outs, List.mem_cons, List.not_mem_nil, or_false] at ha; rcases ha with rfl | rfl <;> exact fun _ => rfl) armplanref6_Find.p0.eq
noncomputable def armplanref6_Find.ann : Ann := .s (.z) (.s (.s (.z) (.b (.sub 0))) (.z))
set_option maxRecDepth 100000 in
theorem armplanref6_Find.eq (x : Tup armplanref6_Find.p.inS) : peFn armplanref6_Find.E Tryz.f31 armplanref6_Find.ann armplanref6_Find.p x = armplanref6_Find.p.F x := by
  have h : peFn armplanref6_Find.E Tryz.f31 armplanref6_Find.ann armplanref6_Find.p x = armplanref6_Find.F0 x.1.1.1 x.1.1.2.1 x.1.2.1 := by kernel_rfl
  exact h.trans (by show _ = armplanref6_Find.F x.1.1.1 x.1.1.2.1 x.1.2.1; rw [armplanref6_Find.F_eq])
set_option maxRecDepth 100000 in
theorem armplanref6_Find.sound : ProcSound Tryz.prog glob0 31 armplanref6_Find.p :=
  fn_sound (E := armplanref6_Find.E) (c := armplanref6_Find.body0) (ann := armplanref6_Find.ann) armplanref6_Find.ok Tryz.func31 (of_decide_eq_true (by kernel_rfl)) rfl rfl rfl (by decide +kernel) (⟨(SubsOk_z _ _), ⟨⟨(SubsOk_z _ _), (sub_of rfl armplanref6_Find.p0.sound)⟩, (SubsOk_z _ _)⟩⟩ : SubsOk armplanref6_Find.E armplanref6_Find.body0 armplanref6_Find.ann) (fun _ => rfl) rfl armplanref6_Find.eq

/-! ### armplan/armplanmake.Same[int]: function 32 -/
noncomputable def armplanmake_Same_int.p0.round (v0 : List (Int)) (v1 : List (Int)) (v2 : Int) : Option ((List (Int) × List (Int) × Int) ⊕ ((Bool) ⊕ (Unit))) :=
  (bif decide (v2 < (v0.length : Int)) then (bif decide (0 ≤ v2) then (bif decide (v2 < (v0.length : Int)) then (bif decide (0 ≤ v2) then (bif decide (v2 < (v1.length : Int)) then (bif ((v0.getD v2.toNat (0 : Int)) != (v1.getD v2.toNat (0 : Int))) then some (.inr (.inl false)) else some (.inl (v0, v1, (IntKind.wrap .i64 (v2 + (1 : Int)))))) else none) else none) else none) else none) else some (.inr (.inr ())))
noncomputable def armplanmake_Same_int.p0.step (s : List (Int) × List (Int) × Int) : Option ((List (Int) × List (Int) × Int) ⊕ ((Bool) ⊕ (Unit))) := armplanmake_Same_int.p0.round s.1 s.2.1 s.2.2
noncomputable def armplanmake_Same_int.p0.inS : Shape := ⟨[(0, .lf (.dat (.int .i64))), (1, .lf (.dat (.int .i64))), (5, .lf (.sc (.int .i64)))], []⟩
noncomputable def armplanmake_Same_int.p0.w0 : Way := { ex := .rt, S := ⟨[(4, .lf (.sc .bool))], []⟩, R := Bool, post := fun r => ((r, ()), ()), un := fun x => x.1.1 }
noncomputable def armplanmake_Same_int.p0.w1 : Way := { ex := (.ex 0), S := ⟨[], []⟩, R := Unit, post := fun r => ((), ()), un := fun x => () }
noncomputable def armplanmake_Same_int.p0.outs : List Way := [armplanmake_Same_int.p0.w0, armplanmake_Same_int.p0.w1]
noncomputable def armplanmake_Same_int.p0.un (x : Tup armplanmake_Same_int.p0.inS) : List (Int) × List (Int) × Int := (x.1.1, x.1.2.1, x.1.2.2.1)
noncomputable def armplanmake_Same_int.p0.lp : LProc := { inS := armplanmake_Same_int.p0.inS, outs := armplanmake_Same_int.p0.outs, F := fun x => loopF armplanmake_Same_int.p0.step (armplanmake_Same_int.p0.un x) }
noncomputable def armplanmake_Same_int.F0 (a0 : List (Int)) (a1 : List (Int)) : Option (Bool) :=
  (bif ((a0.length : Int) != (a1.length : Int)) then some false else ((loopF armplanmake_Same_int.p0.step (a0, a1, (0 : Int))).bind fun y1 => (Sum.elim (fun y2 => some y2) (fun z3 => some true) y1)))
noncomputable def armplanmake_Same_int.F : (List (Int)) → (List (Int)) → Option (Bool) := lock armplanmake_Same_int.F0
theorem armplanmake_Same_int.F_eq : armplanmake_Same_int.F = armplanmake_Same_int.F0 := lock_eq _
noncomputable def armplanmake_Same_int.p : Proc := { nargs := 2, inS := ⟨[(0, .lf (.dat (.int .i64))), (1, .lf (.dat (.int .i64)))], []⟩, outS := ⟨[(0, .lf (.sc .bool))], []⟩, n0 := 0, R := Bool, F := fun x => armplanmake_Same_int.F x.1.1 x.1.2.1, post := fun r => ((r, ()), ()), un := fun x => x.1.1 }
noncomputable def armplanmake_Same_int.E : Env := { P := Tryz.prog, ty := tyTab [], glob := glob0, proc := procTab [], lproc := lprocTab [(0, armplanmake_Same_int.p0.lp)], n0 := 0, ntmps := 26 }
theorem armplanmake_Same_int.ok : ProcsOk armplanmake_Same_int.E := AllSound.ok (l := []) (by kernel_rfl) rfl trivial
noncomputable def armplanmake_Same_int.body0 : Code := (match Tryz.f32.body with | some c => c | none => .skip)
noncomputable def armplanmake_Same_int.p0.c : Code := ((codeAt armplanmake_Same_int.body0 [.r, .r, .l, .r, .b, .b]).getD .skip)
noncomputable def armplanmake_Same_int.p0.ann : Ann := .z
set_option maxRecDepth 100000 in
theorem armplanmake_Same_int.p0.eq (x : Tup armplanmake_Same_int.p0.inS) : peRound armplanmake_Same_int.E armplanmake_Same_int.p0.c armplanmake_Same_int.p0.ann _ armplanmake_Same_int.p0.inS armplanmake_Same_int.p0.un armplanmake_Same_int.p0.outs x = armplanmake_Same_int.p0.step (armplanmake_Same_int.p0.un x) := by
  kernel_rfl
set_option maxRecDepth 100000 in
theorem armplanmake_Same_int.p0.sound : LProcSound armplanmake_Same_int.E (.loop armplanmake_Same_int.p0.c) armplanmake_Same_int.p0.lp :=
  loop_sound (c := armplanmake_Same_int.p0.c) (ann := armplanmake_Same_int.p0.ann) armplanmake_Same_int.ok ((SubsOk_z _ _) : SubsOk armplanmake_Same_int.E armplanmake_Same_int.p0.c armplanmake_Same_int.p0.ann) (by intro a ha; simp only [armplanmake_Same_int.p0.outs, List.mem_cons, List.not_mem_nil, or_false] at ha; rcases ha with rfl | rfl <;> exact fun _ => rfl) armplanmake_Same_int.p0.eq
noncomputable def armplanmake_Same_int.ann : Ann := .s (.z) (.s (.z) (.s (.s (.z) (.b (.sub 0))) (.z)))
set_option maxRecDepth 100000 in
theorem armplanmake_Same_int.eq (x : Tup armplanmake_Same_int.p.inS) : peFn armplanmake_Same_int.E Tryz.f32 armplanmake_Same_int.ann armplanmake_Same_int.p x = armplanmake_Same_int.p.F x := by
  have h : peFn armplanmake_Same_int.E Tryz.f32 armplanmake_Same_int.ann armplanmake_Same_int.p x = armplanmake_Same_int.F0 x.1.1 x.1.2.1 := by kernel_rfl
  exact h.trans (by show _ = armplanmake_Same_int.F x.1.1 x.1.2.1; rw [armplanmake_Same_int.F_eq])
set_option maxRecDepth 100000 in
theorem armplanmake_Same_int.sound : ProcSound Tryz.prog glob0 32 armplanmake_Same_int.p :=
  fn_sound (E := armplanmake_Same_int.E) (c := armplanmake_Same_int.body0) (ann := armplanmake_Same_int.ann) armplanmake_Same_int.ok Tryz.func32 (of_decide_eq_true (by kernel_rfl)) rfl rfl rfl (by decide +kernel) (⟨(SubsOk_z _ _), ⟨(SubsOk_z _ _), ⟨⟨(SubsOk_z _ _), (sub_of rfl armplanmake_Same_int.p0.sound)⟩, (SubsOk_z _ _)⟩⟩⟩ : SubsOk armplanmake_Same_int.E armplanmake_Same_int.body0 armplanmake_Same_int.ann) (fun _ => rfl) rfl armplanmake_Same_int.eq

/-! ### armplan/armplanref6.between: function 41 -/
noncomputable def armplanref6_between.F0 (a0 : Int) (a1 : Int) (a2 : Int) : Option (Bool) :=
  (bif decide (a1 ≤ a0) then some (decide (a0 ≤ a2)) else some false)
noncomputable def armplanref6_between.F : Int → Int → Int → Option (Bool) := lock armplanref6_between.F0
theorem armplanref6_between.F_eq : armplanref6_between.F = armplanref6_between.F0 := lock_eq _
noncomputable def armplanref6_between.p : Proc := { nargs := 3, inS := ⟨[(0, .lf (.sc (.int .i64))), (1, .lf (.sc (.int .i64))), (2, .lf (.sc (.int .i64)))], []⟩, outS := ⟨[(0, .lf (.sc .bool))], []⟩, n0 := 0, R := Bool, F := fun x => armplanref6_between.F x.1.1 x.1.2.1 x.1.2.2.1, post := fun r => ((r, ()), ()), un := fun x => x.1.1 }
noncomputable def armplanref6_between.E : Env := { P := Tryz.prog, ty := tyTab [], glob := glob0, proc := procTab [], lproc := lprocTab [], n0 := 0, ntmps := 15 }
theorem armplanref6_between.ok : ProcsOk armplanref6_between.E := AllSound.ok (l := []) (by kernel_rfl) rfl trivial
noncomputable def armplanref6_between.body0 : Code := (match Tryz.f41.body with | some c => c | none => .skip)
noncomputable def armplanref6_between.ann : Ann := .z
set_option maxRecDepth 100000 in
theorem armplanref6_between.eq (x : Tup armplanref6_between.p.inS) : peFn armplanref6_between.E Tryz.f41 armplanref6_between.ann armplanref6_between.p x = armplanref6_between.p.F x := by
  have h : peFn armplanref6_between.E Tryz.f41 armplanref6_between.ann armplanref6_between.p x = armplanref6_between.F0 x.1.1 x.1.2.1 x.1.2.2.1 := by kernel_rfl
  exact h.trans (by show _ = armplanref6_between.F x.1.1 x.1.2.1 x.1.2.2.1; rw [armplanref6_between.F_eq])
set_option maxRecDepth 100000 in
theorem armplanref6_between.sound : ProcSound Tryz.prog glob0 41 armplanref6_between.p :=
  fn_sound (E := armplanref6_between.E) (c := armplanref6_between.body0) (ann := armplanref6_between.ann) armplanref6_between.ok Tryz.func41 (of_decide_eq_true (by kernel_rfl)) rfl rfl rfl (by decide +kernel) ((SubsOk_z _ _) : SubsOk armplanref6_between.E armplanref6_between.body0 armplanref6_between.ann) (fun _ => rfl) rfl armplanref6_between.eq

/-! ### armplan/armplanref6.Near: function 42 -/
noncomputable def armplanref6_Near.p0.round (v0 : Int) (v1 : Int) (v2 : Int) (v3 : Int) (v4 : Int) : Option ((Int × Int × Int × Int × Int) ⊕ ((Bool) ⊕ (Unit))) :=
  (bif decide (v1 < (3 : Int)) then (bif (v1 == (0 : Int)) then (bif decide (v2 < (IntKind.wrap .i64 (0 - v0))) then some (.inr (.inl false)) else (bif (v1 == (0 : Int)) then (bif decide (v2 > v0) then some (.inr (.inl false)) else some (.inl (v0, (IntKind.wrap .i64 (v1 + (1 : Int))), v2, v3, v4))) else (bif (v1 == (1 : Int)) then (bif decide (v3 > v0) then some (.inr (.inl false)) else some (.inl (v0, (IntKind.wrap .i64 (v1 + (1 : Int))), v2, v3, v4))) else (bif (v1 == (2 : Int)) then (bif decide (v4 > v0) then some (.inr (.inl false)) else some (.inl (v0, (IntKind.wrap .i64 (v1 + (1 : Int))), v2, v3, v4))) else none)))) else (bif (v1 == (1 : Int)) then (bif decide (v3 < (IntKind.wrap .i64 (0 - v0))) then some (.inr (.inl false)) else (bif (v1 == (0 : Int)) then (bif decide (v2 > v0) then some (.inr (.inl false)) else some (.inl (v0, (IntKind.wrap .i64 (v1 + (1 : Int))), v2, v3, v4))) else (bif (v1 == (1 : Int)) then (bif decide (v3 > v0) then some (.inr (.inl false)) else some (.inl (v0, (IntKind.wrap .i64 (v1 + (1 : Int))), v2, v3, v4))) else (bif (v1 == (2 : Int)) then (bif decide (v4 > v0) then some (.inr (.inl false)) else some (.inl (v0, (IntKind.wrap .i64 (v1 + (1 : Int))), v2, v3, v4))) else none)))) else (bif (v1 == (2 : Int)) then (bif decide (v4 < (IntKind.wrap .i64 (0 - v0))) then some (.inr (.inl false)) else (bif (v1 == (0 : Int)) then (bif decide (v2 > v0) then some (.inr (.inl false)) else some (.inl (v0, (IntKind.wrap .i64 (v1 + (1 : Int))), v2, v3, v4))) else (bif (v1 == (1 : Int)) then (bif decide (v3 > v0) then some (.inr (.inl false)) else some (.inl (v0, (IntKind.wrap .i64 (v1 + (1 : Int))), v2, v3, v4))) else (bif (v1 == (2 : Int)) then (bif decide (v4 > v0) then some (.inr (.inl false)) else some (.inl (v0, (IntKind.wrap .i64 (v1 + (1 : Int))), v2, v3, v4))) else none)))) else none))) else some (.inr (.inr ())))
noncomputable def armplanref6_Near.p0.step (s : Int × Int × Int × Int × Int) : Option ((Int × Int × Int × Int × Int) ⊕ ((Bool) ⊕ (Unit))) := armplanref6_Near.p0.round s.1 s.2.1 s.2.2.1 s.2.2.2.1 s.2.2.2.2
noncomputable def armplanref6_Near.p0.inS : Shape := ⟨[(1, .lf (.sc (.int .i64))), (2, .lf (.bp 0 0)), (5, .lf (.sc (.int .i64)))], [.box [.sc (.int .i64), .sc (.int .i64), .sc (.int .i64)]]⟩
noncomputable def armplanref6_Near.p0.w0 : Way := { ex := .rt, S := ⟨[(4, .lf (.sc .bool))], []⟩, R := Bool, post := fun r => ((r, ()), ()), un := fun x => x.1.1 }
noncomputable def armplanref6_Near.p0.w1 : Way := { ex := (.ex 0), S := ⟨[], []⟩, R := Unit, post := fun r => ((), ()), un := fun x => () }
noncomputable def armplanref6_Near.p0.outs : List Way := [armplanref6_Near.p0.w0, armplanref6_Near.p0.w1]
noncomputable def armplanref6_Near.p0.un (x : Tup armplanref6_Near.p0.inS) : Int × Int × Int × Int × Int := (x.1.1, x.1.2.2.1, x.2.1.1, x.2.1.2.1, x.2.1.2.2.1)
noncomputable def armplanref6_Near.p0.lp : LProc := { inS := armplanref6_Near.p0.inS, outs := armplanref6_Near.p0.outs, F := fun x => loopF armplanref6_Near.p0.step (armplanref6_Near.p0.un x) }
noncomputable def armplanref6_Near.F0 (a0 : Int) (a1 : Int) (a2 : Int) (a3 : Int) : Option (Bool) :=
  ((loopF armplanref6_Near.p0.step (a3, (0 : Int), a0, a1, a2)).bind fun y1 => (Sum.elim (fun y2 => some y2) (fun z3 => some true) y1))
noncomputable def armplanref6_Near.F : Int → Int → Int → Int → Option (Bool) := lock armplanref6_Near.F0
theorem armplanref6_Near.F_eq : armplanref6_Near.F = armplanref6_Near.F0 := lock_eq _
noncomputable def armplanref6_Near.p : Proc := { nargs := 2, inS := ⟨[(0, .ag [.sc (.int .i64), .sc (.int .i64), .sc (.int .i64)]), (1, .lf (.sc (.int .i64)))], []⟩, outS := ⟨[(0, .lf (.sc .bool))], []⟩, n0 := 0, R := Bool, F := fun x => armplanref6_Near.F x.1.1.1 x.1.1.2.1 x.1.1.2.2.1 x.1.2.1, post := fun r => ((r, ()), ()), un := fun x => x.1.1 }
noncomputable def armplanref6_Near.E : Env := { P := Tryz.prog, ty := tyTab [], glob := glob0, proc := procTab [], lproc := lprocTab [(0, armplanref6_Near.p0.lp)], n0 := 0, ntmps := 23 }
theorem armplanref6_Near.ok : ProcsOk armplanref6_Near.E := AllSound.ok (l := []) (by kernel_rfl) rfl trivial
noncomputable def armplanref6_Near.body0 : Code := (match Tryz.f42.body with | some c => c | none => .skip)
noncomputable def armplanref6_Near.p0.c : Code := ((codeAt armplanref6_Near.body0 [.r, .l, .r, .b, .b]).getD .skip)
noncomputable def armplanref6_Near.p0.ann : Ann := .z
set_option maxRecDepth 100000 in
theorem armplanref6_Near.p0.eq (x : Tup armplanref6_Near.p0.inS) : peRound armplanref6_Near.E armplanref6_Near.p0.c armplanref6_Near.p0.ann _ armplanref6_Near.p0.inS armplanref6_Near.p0.un armplanref6_Near.p0.outs x = armplanref6_Near.p0.step (armplanref6_Near.p0.un x) := by
  kernel_rfl
set_option maxRecDepth 100000 in
theorem armplanref6_Near.p0.sound : LProcSound armplanref6_Near.E (.loop armplanref6_Near.p0.c) armplanref6_Near.p0.lp :=
  loop_sound (c := armplanref6_Near.p0.c) (ann := armplanref6_Near.p0.ann) armplanref6_Near.ok ((SubsOk_z _ _) : SubsOk armplanref6_Near.E armplanref6_Near.p0.c armplanref6_Near.p0.ann) (by intro a ha; simp only [armplanref6_Near.p0.outs, List.mem_cons, List.not_mem_nil, or_false] at ha; rcases ha with rfl | rfl <;> exact fun _ => rfl) armplanref6_Near.p0.eq
noncomputable def armplanref6_Near.ann : Ann := .s (.z) (.s (.s (.z) (.b (.sub 0))) (.z))
set_option maxRecDepth 100000 in
theorem armplanref6_Near.eq (x : Tup armplanref6_Near.p.inS) : peFn armplanref6_Near.E Tryz.f42 armplanref6_Near.ann armplanref6_Near.p x = armplanref6_Near.p.F x := by
  have h : peFn armplanref6_Near.E Tryz.f42 armplanref6_Near.ann armplanref6_Near.p x = armplanref6_Near.F0 x.1.1.1 x.1.1.2.1 x.1.1.2.2.1 x.1.2.1 := by kernel_rfl
  exact h.trans (by show _ = armplanref6_Near.F x.1.1.1 x.1.1.2.1 x.1.1.2.2.1 x.1.2.1; rw [armplanref6_Near.F_eq])
set_option maxRecDepth 100000 in
theorem armplanref6_Near.sound : ProcSound Tryz.prog glob0 42 armplanref6_Near.p :=
  fn_sound (E := armplanref6_Near.E) (c := armplanref6_Near.body0) (ann := armplanref6_Near.ann) armplanref6_Near.ok Tryz.func42 (of_decide_eq_true (by kernel_rfl)) rfl rfl rfl (by decide +kernel) (⟨(SubsOk_z _ _), ⟨⟨(SubsOk_z _ _), (sub_of rfl armplanref6_Near.p0.sound)⟩, (SubsOk_z _ _)⟩⟩ : SubsOk armplanref6_Near.E armplanref6_Near.body0 armplanref6_Near.ann) (fun _ => rfl) rfl armplanref6_Near.eq

/-! ### armplan/armplanmake.Same[armplan/api.Joint]: function 47 -/
noncomputable def armplanmake_Same_Joint.p0.round (v0 : List ((ByteArray × (Int × (Int × ((Int × (Int × Int)) × (Int × (Int × (Int × (Int × (Int × Int))))))))))) (v1 : List ((ByteArray × (Int × (Int × ((Int × (Int × Int)) × (Int × (Int × (Int × (Int × (Int × Int))))))))))) (v2 : Int) : Option ((List ((ByteArray × (Int × (Int × ((Int × (Int × Int)) × (Int × (Int × (Int × (Int × (Int × Int)))))))))) × List ((ByteArray × (Int × (Int × ((Int × (Int × Int)) × (Int × (Int × (Int × (Int × (Int × Int)))))))))) × Int) ⊕ ((Bool) ⊕ (Unit))) :=
  (bif decide (v2 < (v0.length : Int)) then (bif decide (0 ≤ v2) then (bif decide (v2 < (v0.length : Int)) then (bif decide (0 ≤ v2) then (bif decide (v2 < (v1.length : Int)) then (bif (!((eqS (v0.getD v2.toNat ((⟨#[]⟩ : ByteArray), ((0 : Int), ((0 : Int), (((0 : Int), ((0 : Int), (0 : Int))), ((0 : Int), ((0 : Int), ((0 : Int), ((0 : Int), ((0 : Int), (0 : Int))))))))))).1 (v1.getD v2.toNat ((⟨#[]⟩ : ByteArray), ((0 : Int), ((0 : Int), (((0 : Int), ((0 : Int), (0 : Int))), ((0 : Int), ((0 : Int), ((0 : Int), ((0 : Int), ((0 : Int), (0 : Int))))))))))).1) && ((((v0.getD v2.toNat ((⟨#[]⟩ : ByteArray), ((0 : Int), ((0 : Int), (((0 : Int), ((0 : Int), (0 : Int))), ((0 : Int), ((0 : Int), ((0 : Int), ((0 : Int), ((0 : Int), (0 : Int))))))))))).2).1 == ((v1.getD v2.toNat ((⟨#[]⟩ : ByteArray), ((0 : Int), ((0 : Int), (((0 : Int), ((0 : Int), (0 : Int))), ((0 : Int), ((0 : Int), ((0 : Int), ((0 : Int), ((0 : Int), (0 : Int))))))))))).2).1) && (((((v0.getD v2.toNat ((⟨#[]⟩ : ByteArray), ((0 : Int), ((0 : Int), (((0 : Int), ((0 : Int), (0 : Int))), ((0 : Int), ((0 : Int), ((0 : Int), ((0 : Int), ((0 : Int), (0 : Int))))))))))).2).2).1 == (((v1.getD v2.toNat ((⟨#[]⟩ : ByteArray), ((0 : Int), ((0 : Int), (((0 : Int), ((0 : Int), (0 : Int))), ((0 : Int), ((0 : Int), ((0 : Int), ((0 : Int), ((0 : Int), (0 : Int))))))))))).2).2).1) && ((((((((v0.getD v2.toNat ((⟨#[]⟩ : ByteArray), ((0 : Int), ((0 : Int), (((0 : Int), ((0 : Int), (0 : Int))), ((0 : Int), ((0 : Int), ((0 : Int), ((0 : Int), ((0 : Int), (0 : Int))))))))))).2).2).2).1).1 == (((((v1.getD v2.toNat ((⟨#[]⟩ : ByteArray), ((0 : Int), ((0 : Int), (((0 : Int), ((0 : Int), (0 : Int))), ((0 : Int), ((0 : Int), ((0 : Int), ((0 : Int), ((0 : Int), (0 : Int))))))))))).2).2).2).1).1) && ((((((((v0.getD v2.toNat ((⟨#[]⟩ : ByteArray), ((0 : Int), ((0 : Int), (((0 : Int), ((0 : Int), (0 : Int))), ((0 : Int), ((0 : Int), ((0 : Int), ((0 : Int), ((0 : Int), (0 : Int))))))))))).2).2).2).1).2).1 == ((((((v1.getD v2.toNat ((⟨#[]⟩ : ByteArray), ((0 : Int), ((0 : Int), (((0 : Int), ((0 : Int), (0 : Int))), ((0 : Int), ((0 : Int), ((0 : Int), ((0 : Int), ((0 : Int), (0 : Int))))))))))).2).2).2).1).2).1) && ((((((((v0.getD v2.toNat ((⟨#[]⟩ : ByteArray), ((0 : Int), ((0 : Int), (((0 : Int), ((0 : Int), (0 : Int))), ((0 : Int), ((0 : Int), ((0 : Int), ((0 : Int), ((0 : Int), (0 : Int))))))))))).2).2).2).1).2).2 == ((((((v1.getD v2.toNat ((⟨#[]⟩ : ByteArray), ((0 : Int), ((0 : Int), (((0 : Int), ((0 : Int), (0 : Int))), ((0 : Int), ((0 : Int), ((0 : Int), ((0 : Int), ((0 : Int), (0 : Int))))))))))).2).2).2).1).2).2) && true))) && (((((((v0.getD v2.toNat ((⟨#[]⟩ : ByteArray), ((0 : Int), ((0 : Int), (((0 : Int), ((0 : Int), (0 : Int))), ((0 : Int), ((0 : Int), ((0 : Int), ((0 : Int), ((0 : Int), (0 : Int))))))))))).2).2).2).2).1 == (((((v1.getD v2.toNat ((⟨#[]⟩ : ByteArray), ((0 : Int), ((0 : Int), (((0 : Int), ((0 : Int), (0 : Int))), ((0 : Int), ((0 : Int), ((0 : Int), ((0 : Int), ((0 : Int), (0 : Int))))))))))).2).2).2).2).1) && ((((((((v0.getD v2.toNat ((⟨#[]⟩ : ByteArray), ((0 : Int), ((0 : Int), (((0 : Int), ((0 : Int), (0 : Int))), ((0 : Int), ((0 : Int), ((0 : Int), ((0 : Int), ((0 : Int), (0 : Int))))))))))).2).2).2).2).2).1 == ((((((v1.getD v2.toNat ((⟨#[]⟩ : ByteArray), ((0 : Int), ((0 : Int), (((0 : Int), ((0 : Int), (0 : Int))), ((0 : Int), ((0 : Int), ((0 : Int), ((0 : Int), ((0 : Int), (0 : Int))))))))))).2).2).2).2).2).1) && (((((((((v0.getD v2.toNat ((⟨#[]⟩ : ByteArray), ((0 : Int), ((0 : Int), (((0 : Int), ((0 : Int), (0 : Int))), ((0 : Int), ((0 : Int), ((0 : Int), ((0 : Int), ((0 : Int), (0 : Int))))))))))).2).2).2).2).2).2).1 == (((((((v1.getD v2.toNat ((⟨#[]⟩ : ByteArray), ((0 : Int), ((0 : Int), (((0 : Int), ((0 : Int), (0 : Int))), ((0 : Int), ((0 : Int), ((0 : Int), ((0 : Int), ((0 : Int), (0 : Int))))))))))).2).2).2).2).2).2).1) && ((((((((((v0.getD v2.toNat ((⟨#[]⟩ : ByteArray), ((0 : Int), ((0 : Int), (((0 : Int), ((0 : Int), (0 : Int))), ((0 : Int), ((0 : Int), ((0 : Int), ((0 : Int), ((0 : Int), (0 : Int))))))))))).2).2).2).2).2).2).2).1 == ((((((((v1.getD v2.toNat ((⟨#[]⟩ : ByteArray), ((0 : Int), ((0 : Int), (((0 : Int), ((0 : Int), (0 : Int))), ((0 : Int), ((0 : Int), ((0 : Int), ((0 : Int), ((0 : Int), (0 : Int))))))))))).2).2).2).2).2).2).2).1) && (((((((((((v0.getD v2.toNat ((⟨#[]⟩ : ByteArray), ((0 : Int), ((0 : Int), (((0 : Int), ((0 : Int), (0 : Int))), ((0 : Int), ((0 : Int), ((0 : Int), ((0 : Int), ((0 : Int), (0 : Int))))))))))).2).2).2).2).2).2).2).2).1 == (((((((((v1.getD v2.toNat ((⟨#[]⟩ : ByteArray), ((0 : Int), ((0 : Int), (((0 : Int), ((0 : Int), (0 : Int))), ((0 : Int), ((0 : Int), ((0 : Int), ((0 : Int), ((0 : Int), (0 : Int))))))))))).2).2).2).2).2).2).2).2).1) && (((((((((((v0.getD v2.toNat ((⟨#[]⟩ : ByteArray), ((0 : Int), ((0 : Int), (((0 : Int), ((0 : Int), (0 : Int))), ((0 : Int), ((0 : Int), ((0 : Int), ((0 : Int), ((0 : Int), (0 : Int))))))))))).2).2).2).2).2).2).2).2).2 == (((((((((v1.getD v2.toNat ((⟨#[]⟩ : ByteArray), ((0 : Int), ((0 : Int), (((0 : Int), ((0 : Int), (0 : Int))), ((0 : Int), ((0 : Int), ((0 : Int), ((0 : Int), ((0 : Int), (0 : Int))))))))))).2).2).2).2).2).2).2).2).2) && true))))))))))) then some (.inr (.inl false)) else some (.inl (v0, v1, (IntKind.wrap .i64 (v2 + (1 : Int)))))) else none) else none) else none) else none) else some (.inr (.inr ())))
noncomputable def armplanmake_Same_Joint.p0.step (s : List ((ByteArray × (Int × (Int × ((Int × (Int × Int)) × (Int × (Int × (Int × (Int × (Int × Int)))))))))) × List ((ByteArray × (Int × (Int × ((Int × (Int × Int)) × (Int × (Int × (Int × (Int × (Int × Int)))))))))) × Int) : Option ((List ((ByteArray × (Int × (Int × ((Int × (Int × Int)) × (Int × (Int × (Int × (Int × (Int × Int)))))))))) × List ((ByteArray × (Int × (Int × ((Int × (Int × Int)) × (Int × (Int × (Int × (Int × (Int × Int)))))))))) × Int) ⊕ ((Bool) ⊕ (Unit))) := armplanmake_Same_Joint.p0.round s.1 s.2.1 s.2.2
noncomputable def armplanmake_Same_Joint.p0.inS : Shape := ⟨[(0, .lf (.dat (.pair .str (.pair (.int .i64) (.pair (.int .i64) (.pair (.pair (.int .i64) (.pair (.int .i64) (.int .i64))) (.pair (.int .i64) (.pair (.int .i64) (.pair (.int .i64) (.pair (.int .i64) (.pair (.int .i64) (.int .i64)))))))))))), (1, .lf (.dat (.pair .str (.pair (.int .i64) (.pair (.int .i64) (.pair (.pair (.int .i64) (.pair (.int .i64) (.int .i64))) (.pair (.int .i64) (.pair (.int .i64) (.pair (.int .i64) (.pair (.int .i64) (.pair (.int .i64) (.int .i64)))))))))))), (5, .lf (.sc (.int .i64)))], []⟩
noncomputable def armplanmake_Same_Joint.p0.w0 : Way := { ex := .rt, S := ⟨[(4, .lf (.sc .bool))], []⟩, R := Bool, post := fun r => ((r, ()), ()), un := fun x => x.1.1 }
noncomputable def armplanmake_Same_Joint.p0.w1 : Way := { ex := (.ex 0), S := ⟨[], []⟩, R := Unit, post := fun r => ((), ()), un := fun x => () }
noncomputable def armplanmake_Same_Joint.p0.outs : List Way := [armplanmake_Same_Joint.p0.w0, armplanmake_Same_Joint.p0.w1]
noncomputable def armplanmake_Same_Joint.p0.un (x : Tup armplanmake_Same_Joint.p0.inS) : List ((ByteArray × (Int × (Int × ((Int × (Int × Int)) × (Int × (Int × (Int × (Int × (Int × Int)))))))))) × List ((ByteArray × (Int × (Int × ((Int × (Int × Int)) × (Int × (Int × (Int × (Int × (Int × Int)))))))))) × Int := (x.1.1, x.1.2.1, x.1.2.2.1)
noncomputable def armplanmake_Same_Joint.p0.lp : LProc := { inS := armplanmake_Same_Joint.p0.inS, outs := armplanmake_Same_Joint.p0.outs, F := fun x => loopF armplanmake_Same_Joint.p0.step (armplanmake_Same_Joint.p0.un x) }
noncomputable def armplanmake_Same_Joint.F0 (a0 : List ((ByteArray × (Int × (Int × ((Int × (Int × Int)) × (Int × (Int × (Int × (Int × (Int × Int))))))))))) (a1 : List ((ByteArray × (Int × (Int × ((Int × (Int × Int)) × (Int × (Int × (Int × (Int × (Int × Int))))))))))) : Option (Bool) :=
  (bif ((a0.length : Int) != (a1.length : Int)) then some false else ((loopF armplanmake_Same_Joint.p0.step (a0, a1, (0 : Int))).bind fun y1 => (Sum.elim (fun y2 => some y2) (fun z3 => some true) y1)))
noncomputable def armplanmake_Same_Joint.F : (List ((ByteArray × (Int × (Int × ((Int × (Int × Int)) × (Int × (Int × (Int × (Int × (Int × Int))))))))))) → (List ((ByteArray × (Int × (Int × ((Int × (Int × Int)) × (Int × (Int × (Int × (Int × (Int × Int))))))))))) → Option (Bool) := lock armplanmake_Same_Joint.F0
theorem armplanmake_Same_Joint.F_eq : armplanmake_Same_Joint.F = armplanmake_Same_Joint.F0 := lock_eq _
noncomputable def armplanmake_Same_Joint.p : Proc := { nargs := 2, inS := ⟨[(0, .lf (.dat (.pair .str (.pair (.int .i64) (.pair (.int .i64) (.pair (.pair (.int .i64) (.pair (.int .i64) (.int .i64))) (.pair (.int .i64) (.pair (.int .i64) (.pair (.int .i64) (.pair (.int .i64) (.pair (.int .i64) (.int .i64)))))))))))), (1, .lf (.dat (.pair .str (.pair (.int .i64) (.pair (.int .i64) (.pair (.pair (.int .i64) (.pair (.int .i64) (.int .i64))) (.pair (.int .i64) (.pair (.int .i64) (.pair (.int .i64) (.pair (.int .i64) (.pair (.int .i64) (.int .i64))))))))))))], []⟩, outS := ⟨[(0, .lf (.sc .bool))], []⟩, n0 := 0, R := Bool, F := fun x => armplanmake_Same_Joint.F x.1.1 x.1.2.1, post := fun r => ((r, ()), ()), un := fun x => x.1.1 }
noncomputable def armplanmake_Same_Joint.E : Env := { P := Tryz.prog, ty := tyTab [], glob := glob0, proc := procTab [], lproc := lprocTab [(0, armplanmake_Same_Joint.p0.lp)], n0 := 0, ntmps := 26 }
theorem armplanmake_Same_Joint.ok : ProcsOk armplanmake_Same_Joint.E := AllSound.ok (l := []) (by kernel_rfl) rfl trivial
noncomputable def armplanmake_Same_Joint.body0 : Code := (match Tryz.f47.body with | some c => c | none => .skip)
noncomputable def armplanmake_Same_Joint.p0.c : Code := ((codeAt armplanmake_Same_Joint.body0 [.r, .r, .l, .r, .b, .b]).getD .skip)
noncomputable def armplanmake_Same_Joint.p0.ann : Ann := .z
set_option maxRecDepth 100000 in
theorem armplanmake_Same_Joint.p0.eq (x : Tup armplanmake_Same_Joint.p0.inS) : peRound armplanmake_Same_Joint.E armplanmake_Same_Joint.p0.c armplanmake_Same_Joint.p0.ann _ armplanmake_Same_Joint.p0.inS armplanmake_Same_Joint.p0.un armplanmake_Same_Joint.p0.outs x = armplanmake_Same_Joint.p0.step (armplanmake_Same_Joint.p0.un x) := by
  kernel_rfl
set_option maxRecDepth 100000 in
theorem armplanmake_Same_Joint.p0.sound : LProcSound armplanmake_Same_Joint.E (.loop armplanmake_Same_Joint.p0.c) armplanmake_Same_Joint.p0.lp :=
  loop_sound (c := armplanmake_Same_Joint.p0.c) (ann := armplanmake_Same_Joint.p0.ann) armplanmake_Same_Joint.ok ((SubsOk_z _ _) : SubsOk armplanmake_Same_Joint.E armplanmake_Same_Joint.p0.c armplanmake_Same_Joint.p0.ann) (by intro a ha; simp only [armplanmake_Same_Joint.p0.outs, List.mem_cons, List.not_mem_nil, or_false] at ha; rcases ha with rfl | rfl <;> exact fun _ => rfl) armplanmake_Same_Joint.p0.eq
noncomputable def armplanmake_Same_Joint.ann : Ann := .s (.z) (.s (.z) (.s (.s (.z) (.b (.sub 0))) (.z)))
set_option maxRecDepth 100000 in
theorem armplanmake_Same_Joint.eq (x : Tup armplanmake_Same_Joint.p.inS) : peFn armplanmake_Same_Joint.E Tryz.f47 armplanmake_Same_Joint.ann armplanmake_Same_Joint.p x = armplanmake_Same_Joint.p.F x := by
  have h : peFn armplanmake_Same_Joint.E Tryz.f47 armplanmake_Same_Joint.ann armplanmake_Same_Joint.p x = armplanmake_Same_Joint.F0 x.1.1 x.1.2.1 := by kernel_rfl
  exact h.trans (by show _ = armplanmake_Same_Joint.F x.1.1 x.1.2.1; rw [armplanmake_Same_Joint.F_eq])
set_option maxRecDepth 100000 in
theorem armplanmake_Same_Joint.sound : ProcSound Tryz.prog glob0 47 armplanmake_Same_Joint.p :=
  fn_sound (E := armplanmake_Same_Joint.E) (c := armplanmake_Same_Joint.body0) (ann := armplanmake_Same_Joint.ann) armplanmake_Same_Joint.ok Tryz.func47 (of_decide_eq_true (by kernel_rfl)) rfl rfl rfl (by decide +kernel) (⟨(SubsOk_z _ _), ⟨(SubsOk_z _ _), ⟨⟨(SubsOk_z _ _), (sub_of rfl armplanmake_Same_Joint.p0.sound)⟩, (SubsOk_z _ _)⟩⟩⟩ : SubsOk armplanmake_Same_Joint.E armplanmake_Same_Joint.body0 armplanmake_Same_Joint.ann) (fun _ => rfl) rfl armplanmake_Same_Joint.eq

/-! ### armplan/armplanmake.Same[armplan/api.Mass]: function 48 -/
noncomputable def armplanmake_Same_Mass.p0.round (v0 : List ((Int × (Int × (Int × (Int × Int)))))) (v1 : List ((Int × (Int × (Int × (Int × Int)))))) (v2 : Int) : Option ((List ((Int × (Int × (Int × (Int × Int))))) × List ((Int × (Int × (Int × (Int × Int))))) × Int) ⊕ ((Bool) ⊕ (Unit))) :=
  (bif decide (v2 < (v0.length : Int)) then (bif decide (0 ≤ v2) then (bif decide (v2 < (v0.length : Int)) then (bif decide (0 ≤ v2) then (bif decide (v2 < (v1.length : Int)) then (bif (!(((v0.getD v2.toNat ((0 : Int), ((0 : Int), ((0 : Int), ((0 : Int), (0 : Int)))))).1 == (v1.getD v2.toNat ((0 : Int), ((0 : Int), ((0 : Int), ((0 : Int), (0 : Int)))))).1) && ((((v0.getD v2.toNat ((0 : Int), ((0 : Int), ((0 : Int), ((0 : Int), (0 : Int)))))).2).1 == ((v1.getD v2.toNat ((0 : Int), ((0 : Int), ((0 : Int), ((0 : Int), (0 : Int)))))).2).1) && ((((((v0.getD v2.toNat ((0 : Int), ((0 : Int), ((0 : Int), ((0 : Int), (0 : Int)))))).2).2).1 == (((v1.getD v2.toNat ((0 : Int), ((0 : Int), ((0 : Int), ((0 : Int), (0 : Int)))))).2).2).1) && ((((((v0.getD v2.toNat ((0 : Int), ((0 : Int), ((0 : Int), ((0 : Int), (0 : Int)))))).2).2).2).1 == ((((v1.getD v2.toNat ((0 : Int), ((0 : Int), ((0 : Int), ((0 : Int), (0 : Int)))))).2).2).2).1) && ((((((v0.getD v2.toNat ((0 : Int), ((0 : Int), ((0 : Int), ((0 : Int), (0 : Int)))))).2).2).2).2 == ((((v1.getD v2.toNat ((0 : Int), ((0 : Int), ((0 : Int), ((0 : Int), (0 : Int)))))).2).2).2).2) && true))) && true)))) then some (.inr (.inl false)) else some (.inl (v0, v1, (IntKind.wrap .i64 (v2 + (1 : Int)))))) else none) else none) else none) else none) else some (.inr (.inr ())))
noncomputable def armplanmake_Same_Mass.p0.step (s : List ((Int × (Int × (Int × (Int × Int))))) × List ((Int × (Int × (Int × (Int × Int))))) × Int) : Option ((List ((Int × (Int × (Int × (Int × Int))))) × List ((Int × (Int × (Int × (Int × Int))))) × Int) ⊕ ((Bool) ⊕ (Unit))) := armplanmake_Same_Mass.p0.round s.1 s.2.1 s.2.2
noncomputable def armplanmake_Same_Mass.p0.inS : Shape := ⟨[(0, .lf (.dat (.pair (.int .i64) (.pair (.int .i64) (.pair (.int .i64) (.pair (.int .i64) (.int .i64))))))), (1, .lf (.dat (.pair (.int .i64) (.pair (.int .i64) (.pair (.int .i64) (.pair (.int .i64) (.int .i64))))))), (5, .lf (.sc (.int .i64)))], []⟩
noncomputable def armplanmake_Same_Mass.p0.w0 : Way := { ex := .rt, S := ⟨[(4, .lf (.sc .bool))], []⟩, R := Bool, post := fun r => ((r, ()), ()), un := fun x => x.1.1 }
noncomputable def armplanmake_Same_Mass.p0.w1 : Way := { ex := (.ex 0), S := ⟨[], []⟩, R := Unit, post := fun r => ((), ()), un := fun x => () }
noncomputable def armplanmake_Same_Mass.p0.outs : List Way := [armplanmake_Same_Mass.p0.w0, armplanmake_Same_Mass.p0.w1]
noncomputable def armplanmake_Same_Mass.p0.un (x : Tup armplanmake_Same_Mass.p0.inS) : List ((Int × (Int × (Int × (Int × Int))))) × List ((Int × (Int × (Int × (Int × Int))))) × Int := (x.1.1, x.1.2.1, x.1.2.2.1)
noncomputable def armplanmake_Same_Mass.p0.lp : LProc := { inS := armplanmake_Same_Mass.p0.inS, outs := armplanmake_Same_Mass.p0.outs, F := fun x => loopF armplanmake_Same_Mass.p0.step (armplanmake_Same_Mass.p0.un x) }
noncomputable def armplanmake_Same_Mass.F0 (a0 : List ((Int × (Int × (Int × (Int × Int)))))) (a1 : List ((Int × (Int × (Int × (Int × Int)))))) : Option (Bool) :=
  (bif ((a0.length : Int) != (a1.length : Int)) then some false else ((loopF armplanmake_Same_Mass.p0.step (a0, a1, (0 : Int))).bind fun y1 => (Sum.elim (fun y2 => some y2) (fun z3 => some true) y1)))
noncomputable def armplanmake_Same_Mass.F : (List ((Int × (Int × (Int × (Int × Int)))))) → (List ((Int × (Int × (Int × (Int × Int)))))) → Option (Bool) := lock armplanmake_Same_Mass.F0
theorem armplanmake_Same_Mass.F_eq : armplanmake_Same_Mass.F = armplanmake_Same_Mass.F0 := lock_eq _
noncomputable def armplanmake_Same_Mass.p : Proc := { nargs := 2, inS := ⟨[(0, .lf (.dat (.pair (.int .i64) (.pair (.int .i64) (.pair (.int .i64) (.pair (.int .i64) (.int .i64))))))), (1, .lf (.dat (.pair (.int .i64) (.pair (.int .i64) (.pair (.int .i64) (.pair (.int .i64) (.int .i64)))))))], []⟩, outS := ⟨[(0, .lf (.sc .bool))], []⟩, n0 := 0, R := Bool, F := fun x => armplanmake_Same_Mass.F x.1.1 x.1.2.1, post := fun r => ((r, ()), ()), un := fun x => x.1.1 }
noncomputable def armplanmake_Same_Mass.E : Env := { P := Tryz.prog, ty := tyTab [], glob := glob0, proc := procTab [], lproc := lprocTab [(0, armplanmake_Same_Mass.p0.lp)], n0 := 0, ntmps := 26 }
theorem armplanmake_Same_Mass.ok : ProcsOk armplanmake_Same_Mass.E := AllSound.ok (l := []) (by kernel_rfl) rfl trivial
noncomputable def armplanmake_Same_Mass.body0 : Code := (match Tryz.f48.body with | some c => c | none => .skip)
noncomputable def armplanmake_Same_Mass.p0.c : Code := ((codeAt armplanmake_Same_Mass.body0 [.r, .r, .l, .r, .b, .b]).getD .skip)
noncomputable def armplanmake_Same_Mass.p0.ann : Ann := .z
set_option maxRecDepth 100000 in
theorem armplanmake_Same_Mass.p0.eq (x : Tup armplanmake_Same_Mass.p0.inS) : peRound armplanmake_Same_Mass.E armplanmake_Same_Mass.p0.c armplanmake_Same_Mass.p0.ann _ armplanmake_Same_Mass.p0.inS armplanmake_Same_Mass.p0.un armplanmake_Same_Mass.p0.outs x = armplanmake_Same_Mass.p0.step (armplanmake_Same_Mass.p0.un x) := by
  kernel_rfl
set_option maxRecDepth 100000 in
theorem armplanmake_Same_Mass.p0.sound : LProcSound armplanmake_Same_Mass.E (.loop armplanmake_Same_Mass.p0.c) armplanmake_Same_Mass.p0.lp :=
  loop_sound (c := armplanmake_Same_Mass.p0.c) (ann := armplanmake_Same_Mass.p0.ann) armplanmake_Same_Mass.ok ((SubsOk_z _ _) : SubsOk armplanmake_Same_Mass.E armplanmake_Same_Mass.p0.c armplanmake_Same_Mass.p0.ann) (by intro a ha; simp only [armplanmake_Same_Mass.p0.outs, List.mem_cons, List.not_mem_nil, or_false] at ha; rcases ha with rfl | rfl <;> exact fun _ => rfl) armplanmake_Same_Mass.p0.eq
noncomputable def armplanmake_Same_Mass.ann : Ann := .s (.z) (.s (.z) (.s (.s (.z) (.b (.sub 0))) (.z)))
set_option maxRecDepth 100000 in
theorem armplanmake_Same_Mass.eq (x : Tup armplanmake_Same_Mass.p.inS) : peFn armplanmake_Same_Mass.E Tryz.f48 armplanmake_Same_Mass.ann armplanmake_Same_Mass.p x = armplanmake_Same_Mass.p.F x := by
  have h : peFn armplanmake_Same_Mass.E Tryz.f48 armplanmake_Same_Mass.ann armplanmake_Same_Mass.p x = armplanmake_Same_Mass.F0 x.1.1 x.1.2.1 := by kernel_rfl
  exact h.trans (by show _ = armplanmake_Same_Mass.F x.1.1 x.1.2.1; rw [armplanmake_Same_Mass.F_eq])
set_option maxRecDepth 100000 in
theorem armplanmake_Same_Mass.sound : ProcSound Tryz.prog glob0 48 armplanmake_Same_Mass.p :=
  fn_sound (E := armplanmake_Same_Mass.E) (c := armplanmake_Same_Mass.body0) (ann := armplanmake_Same_Mass.ann) armplanmake_Same_Mass.ok Tryz.func48 (of_decide_eq_true (by kernel_rfl)) rfl rfl rfl (by decide +kernel) (⟨(SubsOk_z _ _), ⟨(SubsOk_z _ _), ⟨⟨(SubsOk_z _ _), (sub_of rfl armplanmake_Same_Mass.p0.sound)⟩, (SubsOk_z _ _)⟩⟩⟩ : SubsOk armplanmake_Same_Mass.E armplanmake_Same_Mass.body0 armplanmake_Same_Mass.ann) (fun _ => rfl) rfl armplanmake_Same_Mass.eq

/-! ### armplan/armplanref6.isLink: function 49 -/
noncomputable def armplanref6_isLink.F0 (a0 : List ((ByteArray × (Int × (Int × ((Int × (Int × Int)) × (Int × (Int × (Int × (Int × (Int × Int))))))))))) (a1 : List ((Int × (Int × (Int × (Int × Int)))))) (a2 : Int) : Option (Bool) :=
  (bif decide (a2 ≥ (-1 : Int)) then some (decide (a2 < (a0.length : Int))) else some false)
noncomputable def armplanref6_isLink.F : (List ((ByteArray × (Int × (Int × ((Int × (Int × Int)) × (Int × (Int × (Int × (Int × (Int × Int))))))))))) → (List ((Int × (Int × (Int × (Int × Int)))))) → Int → Option (Bool) := lock armplanref6_isLink.F0
theorem armplanref6_isLink.F_eq : armplanref6_isLink.F = armplanref6_isLink.F0 := lock_eq _
noncomputable def armplanref6_isLink.p : Proc := { nargs := 2, inS := ⟨[(0, .ag [.dat (.pair .str (.pair (.int .i64) (.pair (.int .i64) (.pair (.pair (.int .i64) (.pair (.int .i64) (.int .i64))) (.pair (.int .i64) (.pair (.int .i64) (.pair (.int .i64) (.pair (.int .i64) (.pair (.int .i64) (.int .i64)))))))))), .dat (.pair (.int .i64) (.pair (.int .i64) (.pair (.int .i64) (.pair (.int .i64) (.int .i64)))))]), (1, .lf (.sc (.int .i64)))], []⟩, outS := ⟨[(0, .lf (.sc .bool))], []⟩, n0 := 0, R := Bool, F := fun x => armplanref6_isLink.F x.1.1.1 x.1.1.2.1 x.1.2.1, post := fun r => ((r, ()), ()), un := fun x => x.1.1 }
noncomputable def armplanref6_isLink.E : Env := { P := Tryz.prog, ty := tyTab [], glob := glob0, proc := procTab [], lproc := lprocTab [], n0 := 0, ntmps := 14 }
theorem armplanref6_isLink.ok : ProcsOk armplanref6_isLink.E := AllSound.ok (l := []) (by kernel_rfl) rfl trivial
noncomputable def armplanref6_isLink.body0 : Code := (match Tryz.f49.body with | some c => c | none => .skip)
noncomputable def armplanref6_isLink.ann : Ann := .z
set_option maxRecDepth 100000 in
theorem armplanref6_isLink.eq (x : Tup armplanref6_isLink.p.inS) : peFn armplanref6_isLink.E Tryz.f49 armplanref6_isLink.ann armplanref6_isLink.p x = armplanref6_isLink.p.F x := by
  have h : peFn armplanref6_isLink.E Tryz.f49 armplanref6_isLink.ann armplanref6_isLink.p x = armplanref6_isLink.F0 x.1.1.1 x.1.1.2.1 x.1.2.1 := by kernel_rfl
  exact h.trans (by show _ = armplanref6_isLink.F x.1.1.1 x.1.1.2.1 x.1.2.1; rw [armplanref6_isLink.F_eq])
set_option maxRecDepth 100000 in
theorem armplanref6_isLink.sound : ProcSound Tryz.prog glob0 49 armplanref6_isLink.p :=
  fn_sound (E := armplanref6_isLink.E) (c := armplanref6_isLink.body0) (ann := armplanref6_isLink.ann) armplanref6_isLink.ok Tryz.func49 (of_decide_eq_true (by kernel_rfl)) rfl rfl rfl (by decide +kernel) ((SubsOk_z _ _) : SubsOk armplanref6_isLink.E armplanref6_isLink.body0 armplanref6_isLink.ann) (fun _ => rfl) rfl armplanref6_isLink.eq

/-! ### armplan/robot.between: function 54 -/
noncomputable def robot_between.F0 (a0 : Int) (a1 : Int) (a2 : Int) : Option (Bool) :=
  (bif decide (a0 ≤ a1) then some (decide (a1 ≤ a2)) else some false)
noncomputable def robot_between.F : Int → Int → Int → Option (Bool) := lock robot_between.F0
theorem robot_between.F_eq : robot_between.F = robot_between.F0 := lock_eq _
noncomputable def robot_between.p : Proc := { nargs := 3, inS := ⟨[(0, .lf (.sc (.int .i64))), (1, .lf (.sc (.int .i64))), (2, .lf (.sc (.int .i64)))], []⟩, outS := ⟨[(0, .lf (.sc .bool))], []⟩, n0 := 0, R := Bool, F := fun x => robot_between.F x.1.1 x.1.2.1 x.1.2.2.1, post := fun r => ((r, ()), ()), un := fun x => x.1.1 }
noncomputable def robot_between.E : Env := { P := Tryz.prog, ty := tyTab [], glob := glob0, proc := procTab [], lproc := lprocTab [], n0 := 0, ntmps := 15 }
theorem robot_between.ok : ProcsOk robot_between.E := AllSound.ok (l := []) (by kernel_rfl) rfl trivial
noncomputable def robot_between.body0 : Code := (match Tryz.f54.body with | some c => c | none => .skip)
noncomputable def robot_between.ann : Ann := .z
set_option maxRecDepth 100000 in
theorem robot_between.eq (x : Tup robot_between.p.inS) : peFn robot_between.E Tryz.f54 robot_between.ann robot_between.p x = robot_between.p.F x := by
  have h : peFn robot_between.E Tryz.f54 robot_between.ann robot_between.p x = robot_between.F0 x.1.1 x.1.2.1 x.1.2.2.1 := by kernel_rfl
  exact h.trans (by show _ = robot_between.F x.1.1 x.1.2.1 x.1.2.2.1; rw [robot_between.F_eq])
set_option maxRecDepth 100000 in
theorem robot_between.sound : ProcSound Tryz.prog glob0 54 robot_between.p :=
  fn_sound (E := robot_between.E) (c := robot_between.body0) (ann := robot_between.ann) robot_between.ok Tryz.func54 (of_decide_eq_true (by kernel_rfl)) rfl rfl rfl (by decide +kernel) ((SubsOk_z _ _) : SubsOk robot_between.E robot_between.body0 robot_between.ann) (fun _ => rfl) rfl robot_between.eq

/-! ### armplan/robot.long: function 55 -/
noncomputable def robot_long.p0.round (v0 : Int) (v1 : Int) (v2 : Int) (v3 : Int) : Option ((Int × Int × Int × Int) ⊕ ((Bool) ⊕ (Unit))) :=
  (bif decide (v3 < (3 : Int)) then (bif decide (0 ≤ v3) then (bif decide (v3 < (3 : Int)) then (bif decide ((([v0, v1, v2] : List Int).getD v3.toNat 0) < (-4194304 : Int)) then some (.inr (.inl true)) else (bif decide ((([v0, v1, v2] : List Int).getD v3.toNat 0) > (4194304 : Int)) then some (.inr (.inl true)) else some (.inl (v0, v1, v2, (IntKind.wrap .i64 (v3 + (1 : Int))))))) else none) else none) else some (.inr (.inr ())))
noncomputable def robot_long.p0.step (s : Int × Int × Int × Int) : Option ((Int × Int × Int × Int) ⊕ ((Bool) ⊕ (Unit))) := robot_long.p0.round s.1 s.2.1 s.2.2.1 s.2.2.2
noncomputable def robot_long.p0.inS : Shape := ⟨[(5, .ag [.sc (.int .i64), .sc (.int .i64), .sc (.int .i64)]), (6, .lf (.sc (.int .i64)))], []⟩
noncomputable def robot_long.p0.w0 : Way := { ex := .rt, S := ⟨[(2, .lf (.sc .bool))], []⟩, R := Bool, post := fun r => ((r, ()), ()), un := fun x => x.1.1 }
noncomputable def robot_long.p0.w1 : Way := { ex := (.ex 0), S := ⟨[], []⟩, R := Unit, post := fun r => ((), ()), un := fun x => () }
noncomputable def robot_long.p0.outs : List Way := [robot_long.p0.w0, robot_long.p0.w1]
noncomputable def robot_long.p0.un (x : Tup robot_long.p0.inS) : Int × Int × Int × Int := (x.1.1.1, x.1.1.2.1, x.1.1.2.2.1, x.1.2.1)
noncomputable def robot_long.p0.lp : LProc := { inS := robot_long.p0.inS, outs := robot_long.p0.outs, F := fun x => loopF robot_long.p0.step (robot_long.p0.un x) }
noncomputable def robot_long.F0 (a0 : Int) (a1 : Int) (a2 : Int) : Option (Bool) :=
  ((loopF robot_long.p0.step (a0, a1, a2, (0 : Int))).bind fun y1 => (Sum.elim (fun y2 => some y2) (fun z3 => some false) y1))
noncomputable def robot_long.F : Int → Int → Int → Option (Bool) := lock robot_long.F0
theorem robot_long.F_eq : robot_long.F = robot_long.F0 := lock_eq _
noncomputable def robot_long.p : Proc := { nargs := 1, inS := ⟨[(0, .ag [.sc (.int .i64), .sc (.int .i64), .sc (.int .i64)])], []⟩, outS := ⟨[(0, .lf (.sc .bool))], []⟩, n0 := 0, R := Bool, F := fun x => robot_long.F x.1.1.1 x.1.1.2.1 x.1.1.2.2.1, post := fun r => ((r, ()), ()), un := fun x => x.1.1 }
noncomputable def robot_long.E : Env := { P := Tryz.prog, ty := tyTab [], glob := glob0, proc := procTab [], lproc := lprocTab [(0, robot_long.p0.lp)], n0 := 0, ntmps := 16 }
theorem robot_long.ok : ProcsOk robot_long.E := AllSound.ok (l := []) (by kernel_rfl) rfl trivial
noncomputable def robot_long.body0 : Code := (match Tryz.f55.body with | some c => c | none => .skip)
noncomputable def robot_long.p0.c : Code := ((codeAt robot_long.body0 [.r, .l, .r, .b, .b]).getD .skip)
noncomputable def robot_long.p0.ann : Ann := .z
set_option maxRecDepth 100000 in
theorem robot_long.p0.eq (x : Tup robot_long.p0.inS) : peRound robot_long.E robot_long.p0.c robot_long.p0.ann _ robot_long.p0.inS robot_long.p0.un robot_long.p0.outs x = robot_long.p0.step (robot_long.p0.un x) := by
  kernel_rfl
set_option maxRecDepth 100000 in
theorem robot_long.p0.sound : LProcSound robot_long.E (.loop robot_long.p0.c) robot_long.p0.lp :=
  loop_sound (c := robot_long.p0.c) (ann := robot_long.p0.ann) robot_long.ok ((SubsOk_z _ _) : SubsOk robot_long.E robot_long.p0.c robot_long.p0.ann) (by intro a ha; simp only [robot_long.p0.outs, List.mem_cons, List.not_mem_nil, or_false] at ha; rcases ha with rfl | rfl <;> exact fun _ => rfl) robot_long.p0.eq
noncomputable def robot_long.ann : Ann := .s (.z) (.s (.s (.z) (.b (.sub 0))) (.z))
set_option maxRecDepth 100000 in
theorem robot_long.eq (x : Tup robot_long.p.inS) : peFn robot_long.E Tryz.f55 robot_long.ann robot_long.p x = robot_long.p.F x := by
  have h : peFn robot_long.E Tryz.f55 robot_long.ann robot_long.p x = robot_long.F0 x.1.1.1 x.1.1.2.1 x.1.1.2.2.1 := by kernel_rfl
  exact h.trans (by show _ = robot_long.F x.1.1.1 x.1.1.2.1 x.1.1.2.2.1; rw [robot_long.F_eq])
set_option maxRecDepth 100000 in
theorem robot_long.sound : ProcSound Tryz.prog glob0 55 robot_long.p :=
  fn_sound (E := robot_long.E) (c := robot_long.body0) (ann := robot_long.ann) robot_long.ok Tryz.func55 (of_decide_eq_true (by kernel_rfl)) rfl rfl rfl (by decide +kernel) (⟨(SubsOk_z _ _), ⟨⟨(SubsOk_z _ _), (sub_of rfl robot_long.p0.sound)⟩, (SubsOk_z _ _)⟩⟩ : SubsOk robot_long.E robot_long.body0 robot_long.ann) (fun _ => rfl) rfl robot_long.eq

/-! ### armplan/robot.place$1: function 79 -/
noncomputable def robot_place_1.F0 (a0 : ByteArray) (a1 : Int) (a2 : Int) (a3 : Int) (a4 : Int) (a5 : Int) (a6 : Int) (a7 : Int) (a8 : Int) (a9 : Int) (a10 : Int) (a11 : Int) (a12 : ByteArray) : Option (Bool × ByteArray) :=
  some ((eqS a0 a12), a12)
noncomputable def robot_place_1.F : ByteArray → Int → Int → Int → Int → Int → Int → Int → Int → Int → Int → Int → ByteArray → Option (Bool × ByteArray) := lock robot_place_1.F0
theorem robot_place_1.F_eq : robot_place_1.F = robot_place_1.F0 := lock_eq _
noncomputable def robot_place_1.p : Proc := { nargs := 2, inS := ⟨[(0, .ag [.sc .str, .sc (.int .i64), .sc (.int .i64), .sc (.int .i64), .sc (.int .i64), .sc (.int .i64), .sc (.int .i64), .sc (.int .i64), .sc (.int .i64), .sc (.int .i64), .sc (.int .i64), .sc (.int .i64)]), (1, .lf (.bp 0 0))], [.box [.sc .str]]⟩, outS := ⟨[(0, .lf (.sc .bool))], [.box [.sc .str]]⟩, n0 := 1, R := Bool × ByteArray, F := fun x => robot_place_1.F x.1.1.1 x.1.1.2.1 x.1.1.2.2.1 x.1.1.2.2.2.1 x.1.1.2.2.2.2.1 x.1.1.2.2.2.2.2.1 x.1.1.2.2.2.2.2.2.1 x.1.1.2.2.2.2.2.2.2.1 x.1.1.2.2.2.2.2.2.2.2.1 x.1.1.2.2.2.2.2.2.2.2.2.1 x.1.1.2.2.2.2.2.2.2.2.2.2.1 x.1.1.2.2.2.2.2.2.2.2.2.2.2.1 x.2.1.1, post := fun r => ((r.1, ()), ((r.2, ()), ())), un := fun x => (x.1.1, x.2.1.1) }
noncomputable def robot_place_1.E : Env := { P := Tryz.prog, ty := tyTab [], glob := glob0, proc := procTab [], lproc := lprocTab [], n0 := 1, ntmps := 8 }
theorem robot_place_1.ok : ProcsOk robot_place_1.E := AllSound.ok (l := []) (by kernel_rfl) rfl trivial
noncomputable def robot_place_1.body0 : Code := (match Tryz.f79.body with | some c => c | none => .skip)
noncomputable def robot_place_1.ann : Ann := .z
set_option maxRecDepth 100000 in
theorem robot_place_1.eq (x : Tup robot_place_1.p.inS) : peFn robot_place_1.E Tryz.f79 robot_place_1.ann robot_place_1.p x = robot_place_1.p.F x := by
  have h : peFn robot_place_1.E Tryz.f79 robot_place_1.ann robot_place_1.p x = robot_place_1.F0 x.1.1.1 x.1.1.2.1 x.1.1.2.2.1 x.1.1.2.2.2.1 x.1.1.2.2.2.2.1 x.1.1.2.2.2.2.2.1 x.1.1.2.2.2.2.2.2.1 x.1.1.2.2.2.2.2.2.2.1 x.1.1.2.2.2.2.2.2.2.2.1 x.1.1.2.2.2.2.2.2.2.2.2.1 x.1.1.2.2.2.2.2.2.2.2.2.2.1 x.1.1.2.2.2.2.2.2.2.2.2.2.2.1 x.2.1.1 := by kernel_rfl
  exact h.trans (by show _ = robot_place_1.F x.1.1.1 x.1.1.2.1 x.1.1.2.2.1 x.1.1.2.2.2.1 x.1.1.2.2.2.2.1 x.1.1.2.2.2.2.2.1 x.1.1.2.2.2.2.2.2.1 x.1.1.2.2.2.2.2.2.2.1 x.1.1.2.2.2.2.2.2.2.2.1 x.1.1.2.2.2.2.2.2.2.2.2.1 x.1.1.2.2.2.2.2.2.2.2.2.2.1 x.1.1.2.2.2.2.2.2.2.2.2.2.2.1 x.2.1.1; rw [robot_place_1.F_eq])
set_option maxRecDepth 100000 in
theorem robot_place_1.sound : ProcSound Tryz.prog glob0 79 robot_place_1.p :=
  fn_sound (E := robot_place_1.E) (c := robot_place_1.body0) (ann := robot_place_1.ann) robot_place_1.ok Tryz.func79 (of_decide_eq_true (by kernel_rfl)) rfl rfl rfl (by decide +kernel) ((SubsOk_z _ _) : SubsOk robot_place_1.E robot_place_1.body0 robot_place_1.ann) (fun _ => rfl) rfl robot_place_1.eq

/-! ### slices.IndexFunc[[]armplan/api.Joint,armplan/api.Joint]: function 78 -/
noncomputable def slices_IndexFunc_Joint__robot_place_1.p0.round (v0 : List ((ByteArray × (Int × (Int × ((Int × (Int × Int)) × (Int × (Int × (Int × (Int × (Int × Int))))))))))) (v1 : Int) (v2 : Int) (v3 : ByteArray) : Option ((List ((ByteArray × (Int × (Int × ((Int × (Int × Int)) × (Int × (Int × (Int × (Int × (Int × Int)))))))))) × Int × Int × ByteArray) ⊕ ((Int × ByteArray) ⊕ (ByteArray))) :=
  (bif decide (v2 < v1) then (bif decide (0 ≤ v2) then (bif decide (v2 < (v0.length : Int)) then ((robot_place_1.F (v0.getD v2.toNat ((⟨#[]⟩ : ByteArray), ((0 : Int), ((0 : Int), (((0 : Int), ((0 : Int), (0 : Int))), ((0 : Int), ((0 : Int), ((0 : Int), ((0 : Int), ((0 : Int), (0 : Int))))))))))).1 ((v0.getD v2.toNat ((⟨#[]⟩ : ByteArray), ((0 : Int), ((0 : Int), (((0 : Int), ((0 : Int), (0 : Int))), ((0 : Int), ((0 : Int), ((0 : Int), ((0 : Int), ((0 : Int), (0 : Int))))))))))).2).1 (((v0.getD v2.toNat ((⟨#[]⟩ : ByteArray), ((0 : Int), ((0 : Int), (((0 : Int), ((0 : Int), (0 : Int))), ((0 : Int), ((0 : Int), ((0 : Int), ((0 : Int), ((0 : Int), (0 : Int))))))))))).2).2).1 (((((v0.getD v2.toNat ((⟨#[]⟩ : ByteArray), ((0 : Int), ((0 : Int), (((0 : Int), ((0 : Int), (0 : Int))), ((0 : Int), ((0 : Int), ((0 : Int), ((0 : Int), ((0 : Int), (0 : Int))))))))))).2).2).2).1).1 ((((((v0.getD v2.toNat ((⟨#[]⟩ : ByteArray), ((0 : Int), ((0 : Int), (((0 : Int), ((0 : Int), (0 : Int))), ((0 : Int), ((0 : Int), ((0 : Int), ((0 : Int), ((0 : Int), (0 : Int))))))))))).2).2).2).1).2).1 ((((((v0.getD v2.toNat ((⟨#[]⟩ : ByteArray), ((0 : Int), ((0 : Int), (((0 : Int), ((0 : Int), (0 : Int))), ((0 : Int), ((0 : Int), ((0 : Int), ((0 : Int), ((0 : Int), (0 : Int))))))))))).2).2).2).1).2).2 (((((v0.getD v2.toNat ((⟨#[]⟩ : ByteArray), ((0 : Int), ((0 : Int), (((0 : Int), ((0 : Int), (0 : Int))), ((0 : Int), ((0 : Int), ((0 : Int), ((0 : Int), ((0 : Int), (0 : Int))))))))))).2).2).2).2).1 ((((((v0.getD v2.toNat ((⟨#[]⟩ : ByteArray), ((0 : Int), ((0 : Int), (((0 : Int), ((0 : Int), (0 : Int))), ((0 : Int), ((0 : Int), ((0 : Int), ((0 : Int), ((0 : Int), (0 : Int))))))))))).2).2).2).2).2).1 (((((((v0.getD v2.toNat ((⟨#[]⟩ : ByteArray), ((0 : Int), ((0 : Int), (((0 : Int), ((0 : Int), (0 : Int))), ((0 : Int), ((0 : Int), ((0 : Int), ((0 : Int), ((0 : Int), (0 : Int))))))))))).2).2).2).2).2).2).1 ((((((((v0.getD v2.toNat ((⟨#[]⟩ : ByteArray), ((0 : Int), ((0 : Int), (((0 : Int), ((0 : Int), (0 : Int))), ((0 : Int), ((0 : Int), ((0 : Int), ((0 : Int), ((0 : Int), (0 : Int))))))))))).2).2).2).2).2).2).2).1 (((((((((v0.getD v2.toNat ((⟨#[]⟩ : ByteArray), ((0 : Int), ((0 : Int), (((0 : Int), ((0 : Int), (0 : Int))), ((0 : Int), ((0 : Int), ((0 : Int), ((0 : Int), ((0 : Int), (0 : Int))))))))))).2).2).2).2).2).2).2).2).1 (((((((((v0.getD v2.toNat ((⟨#[]⟩ : ByteArray), ((0 : Int), ((0 : Int), (((0 : Int), ((0 : Int), (0 : Int))), ((0 : Int), ((0 : Int), ((0 : Int), ((0 : Int), ((0 : Int), (0 : Int))))))))))).2).2).2).2).2).2).2).2).2 v3).bind fun r2 => (bif r2.1 then some (.inr (.inl (v2, r2.2))) else some (.inl (v0, v1, (IntKind.wrap .i64 (v2 + (1 : Int))), r2.2)))) else none) else none) else some (.inr (.inr v3)))
noncomputable def slices_IndexFunc_Joint__robot_place_1.p0.step (s : List ((ByteArray × (Int × (Int × ((Int × (Int × Int)) × (Int × (Int × (Int × (Int × (Int × Int)))))))))) × Int × Int × ByteArray) : Option ((List ((ByteArray × (Int × (Int × ((Int × (Int × Int)) × (Int × (Int × (Int × (Int × (Int × Int)))))))))) × Int × Int × ByteArray) ⊕ ((Int × ByteArray) ⊕ (ByteArray))) := slices_IndexFunc_Joint__robot_place_1.p0.round s.1 s.2.1 s.2.2.1 s.2.2.2
noncomputable def slices_IndexFunc_Joint__robot_place_1.p0.inS : Shape := ⟨[(0, .lf (.dat (.pair .str (.pair (.int .i64) (.pair (.int .i64) (.pair (.pair (.int .i64) (.pair (.int .i64) (.int .i64))) (.pair (.int .i64) (.pair (.int .i64) (.pair (.int .i64) (.pair (.int .i64) (.pair (.int .i64) (.int .i64)))))))))))), (1, .lf (.fn 79 [0])), (7, .lf (.sc (.int .i64))), (8, .lf (.sc (.int .i64)))], [.box [.sc .str]]⟩
noncomputable def slices_IndexFunc_Joint__robot_place_1.p0.w0 : Way := { ex := .rt, S := ⟨[(4, .lf (.sc (.int .i64)))], [.box [.sc .str]]⟩, R := Int × ByteArray, post := fun r => ((r.1, ()), ((r.2, ()), ())), un := fun x => (x.1.1, x.2.1.1) }
noncomputable def slices_IndexFunc_Joint__robot_place_1.p0.w1 : Way := { ex := (.ex 0), S := ⟨[], [.box [.sc .str]]⟩, R := ByteArray, post := fun r => ((), ((r, ()), ())), un := fun x => x.2.1.1 }
noncomputable def slices_IndexFunc_Joint__robot_place_1.p0.outs : List Way := [slices_IndexFunc_Joint__robot_place_1.p0.w0, slices_IndexFunc_Joint__robot_place_1.p0.w1]
noncomputable def slices_IndexFunc_Joint__robot_place_1.p0.un (x : Tup slices_IndexFunc_Joint__robot_place_1.p0.inS) : List ((ByteArray × (Int × (Int × ((Int × (Int × Int)) × (Int × (Int × (Int × (Int × (Int × Int)))))))))) × Int × Int × ByteArray := (x.1.1, x.1.2.2.1, x.1.2.2.2.1, x.2.1.1)
noncomputable def slices_IndexFunc_Joint__robot_place_1.p0.lp : LProc := { inS := slices_IndexFunc_Joint__robot_place_1.p0.inS, outs := slices_IndexFunc_Joint__robot_place_1.p0.outs, F := fun x => loopF slices_IndexFunc_Joint__robot_place_1.p0.step (slices_IndexFunc_Joint__robot_place_1.p0.un x) }
noncomputable def slices_IndexFunc_Joint__robot_place_1.F0 (a0 : List ((ByteArray × (Int × (Int × ((Int × (Int × Int)) × (Int × (Int × (Int × (Int × (Int × Int))))))))))) (a1 : ByteArray) : Option (Int × ByteArray) :=
  ((loopF slices_IndexFunc_Joint__robot_place_1.p0.step (a0, (a0.length : Int), (0 : Int), a1)).bind fun y3 => (Sum.elim (fun y4 => some (y4.1, y4.2)) (fun z5 => some ((-1 : Int), z5)) y3))
noncomputable def slices_IndexFunc_Joint__robot_place_1.F : (List ((ByteArray × (Int × (Int × ((Int × (Int × Int)) × (Int × (Int × (Int × (Int × (Int × Int))))))))))) → ByteArray → Option (Int × ByteArray) := lock slices_IndexFunc_Joint__robot_place_1.F0
theorem slices_IndexFunc_Joint__robot_place_1.F_eq : slices_IndexFunc_Joint__robot_place_1.F = slices_IndexFunc_Joint__robot_place_1.F0 := lock_eq _
noncomputable def slices_IndexFunc_Joint__robot_place_1.p : Proc := { nargs := 2, inS := ⟨[(0, .lf (.dat (.pair .str (.pair (.int .i64) (.pair (.int .i64) (.pair (.pair (.int .i64) (.pair (.int .i64) (.int .i64))) (.pair (.int .i64) (.pair (.int .i64) (.pair (.int .i64) (.pair (.int .i64) (.pair (.int .i64) (.int .i64)))))))))))), (1, .lf (.fn 79 [0]))], [.box [.sc .str]]⟩, outS := ⟨[(0, .lf (.sc (.int .i64)))], [.box [.sc .str]]⟩, n0 := 1, R := Int × ByteArray, F := fun x => slices_IndexFunc_Joint__robot_place_1.F x.1.1 x.2.1.1, post := fun r => ((r.1, ()), ((r.2, ()), ())), un := fun x => (x.1.1, x.2.1.1) }
noncomputable def slices_IndexFunc_Joint__robot_place_1.E : Env := { P := Tryz.prog, ty := tyTab [], glob := glob0, proc := procTab [(79, robot_place_1.p)], lproc := lprocTab [(0, slices_IndexFunc_Joint__robot_place_1.p0.lp)], n0 := 1, ntmps := 19 }
theorem slices_IndexFunc_Joint__robot_place_1.ok : ProcsOk slices_IndexFunc_Joint__robot_place_1.E := AllSound.ok (l := [(79, robot_place_1.p)]) (by kernel_rfl) rfl ⟨robot_place_1.sound, trivial⟩
noncomputable def slices_IndexFunc_Joint__robot_place_1.body0 : Code := (match Tryz.f78.body with | some c => c | none => .skip)
noncomputable def slices_IndexFunc_Joint__robot_place_1.p0.c : Code := ((codeAt slices_IndexFunc_Joint__robot_place_1.body0 [.r, .l, .r, .b, .b]).getD .skip)
noncomputable def slices_IndexFunc_Joint__robot_place_1.p0.ann : Ann := .z
set_option maxRecDepth 100000 in
theorem slices_IndexFunc_Joint__robot_place_1.p0.eq (x : Tup slices_IndexFunc_Joint__robot_place_1.p0.inS) : peRound slices_IndexFunc_Joint__robot_place_1.E slices_IndexFunc_Joint__robot_place_1.p0.c slices_IndexFunc_Joint__robot_place_1.p0.ann _ slices_IndexFunc_Joint__robot_place_1.p0.inS slices_IndexFunc_Joint__robot_place_1.p0.un slices_IndexFunc_Joint__robot_place_1.p0.outs x = slices_IndexFunc_Joint__robot_place_1.p0.step (slices_IndexFunc_Joint__robot_place_1.p0.un x) := by
  kernel_rfl
set_option maxRecDepth 100000 in
theorem slices_IndexFunc_Joint__robot_place_1.p0.sound : LProcSound slices_IndexFunc_Joint__robot_place_1.E (.loop slices_IndexFunc_Joint__robot_place_1.p0.c) slices_IndexFunc_Joint__robot_place_1.p0.lp :=
  loop_sound (c := slices_IndexFunc_Joint__robot_place_1.p0.c) (ann := slices_IndexFunc_Joint__robot_place_1.p0.ann) slices_IndexFunc_Joint__robot_place_1.ok ((SubsOk_z _ _) : SubsOk slices_IndexFunc_Joint__robot_place_1.E slices_IndexFunc_Joint__robot_place_1.p0.c slices_IndexFunc_Joint__robot_place_1.p0.ann) (by intro a ha; simp only [slices_IndexFunc_Joint__robot_place_1.p0.outs, List.mem_cons, List.not_mem_nil, or_false] at ha; rcases ha with rfl | rfl <;> exact fun _ => rfl) slices_IndexFunc_Joint__robot_place_1.p0.eq
noncomputable def slices_IndexFunc_Joint__robot_place_1.ann : Ann := .s (.z) (.s (.s (.z) (.b (.sub 0))) (.z))
set_option maxRecDepth 100000 in
theorem slices_IndexFunc_Joint__robot_place_1.eq (x : Tup slices_IndexFunc_Joint__robot_place_1.p.inS) : peFn slices_IndexFunc_Joint__robot_place_1.E Tryz.f78 slices_IndexFunc_Joint__robot_place_1.ann slices_IndexFunc_Joint__robot_place_1.p x = slices_IndexFunc_Joint__robot_place_1.p.F x := by
  have h : peFn slices_IndexFunc_Joint__robot_place_1.E Tryz.f78 slices_IndexFunc_Joint__robot_place_1.ann slices_IndexFunc_Joint__robot_place_1.p x = slices_IndexFunc_Joint__robot_place_1.F0 x.1.1 x.2.1.1 := by kernel_rfl
  exact h.trans (by show _ = slices_IndexFunc_Joint__robot_place_1.F x.1.1 x.2.1.1; rw [slices_IndexFunc_Joint__robot_place_1.F_eq])
set_option maxRecDepth 100000 in
theorem slices_IndexFunc_Joint__robot_place_1.sound : ProcSound Tryz.prog glob0 78 slices_IndexFunc_Joint__robot_place_1.p :=
  fn_sound (E := slices_IndexFunc_Joint__robot_place_1.E) (c := slices_IndexFunc_Joint__robot_place_1.body0) (ann := slices_IndexFunc_Joint__robot_place_1.ann) slices_IndexFunc_Joint__robot_place_1.ok Tryz.func78 (of_decide_eq_true (by kernel_rfl)) rfl rfl rfl (by decide +kernel) (⟨(SubsOk_z _ _), ⟨⟨(SubsOk_z _ _), (sub_of rfl slices_IndexFunc_Joint__robot_place_1.p0.sound)⟩, (SubsOk_z _ _)⟩⟩ : SubsOk slices_IndexFunc_Joint__robot_place_1.E slices_IndexFunc_Joint__robot_place_1.body0 slices_IndexFunc_Joint__robot_place_1.ann) (fun _ => rfl) rfl slices_IndexFunc_Joint__robot_place_1.eq

/-! ### armplan/robot.place: function 56 -/
noncomputable def robot_place.F0 (a0 : List ((ByteArray × (Int × (Int × ((Int × (Int × Int)) × (Int × (Int × (Int × (Int × (Int × Int))))))))))) (a1 : ByteArray) : Option (Int) :=
  ((slices_IndexFunc_Joint__robot_place_1.F a0 a1).bind fun r1 => some r1.1)
noncomputable def robot_place.F : (List ((ByteArray × (Int × (Int × ((Int × (Int × Int)) × (Int × (Int × (Int × (Int × (Int × Int))))))))))) → ByteArray → Option (Int) := lock robot_place.F0
theorem robot_place.F_eq : robot_place.F = robot_place.F0 := lock_eq _
noncomputable def robot_place.p : Proc := { nargs := 2, inS := ⟨[(0, .lf (.dat (.pair .str (.pair (.int .i64) (.pair (.int .i64) (.pair (.pair (.int .i64) (.pair (.int .i64) (.int .i64))) (.pair (.int .i64) (.pair (.int .i64) (.pair (.int .i64) (.pair (.int .i64) (.pair (.int .i64) (.int .i64)))))))))))), (1, .lf (.sc .str))], []⟩, outS := ⟨[(0, .lf (.sc (.int .i64)))], []⟩, n0 := 0, R := Int, F := fun x => robot_place.F x.1.1 x.1.2.1, post := fun r => ((r, ()), ()), un := fun x => x.1.1 }
noncomputable def robot_place.E : Env := { P := Tryz.prog, ty := tyTab [(79, (.pair .str (.pair (.int .i64) (.pair (.int .i64) (.pair (.pair (.int .i64) (.pair (.int .i64) (.int .i64))) (.pair (.int .i64) (.pair (.int .i64) (.pair (.int .i64) (.pair (.int .i64) (.pair (.int .i64) (.int .i64)))))))))))], glob := glob0, proc := procTab [(78, slices_IndexFunc_Joint__robot_place_1.p)], lproc := lprocTab [], n0 := 0, ntmps := 8 }
theorem robot_place.ok : ProcsOk robot_place.E := AllSound.ok (l := [(78, slices_IndexFunc_Joint__robot_place_1.p)]) (by kernel_rfl) rfl ⟨slices_IndexFunc_Joint__robot_place_1.sound, trivial⟩
noncomputable def robot_place.body0 : Code := (match Tryz.f56.body with | some c => c | none => .skip)
noncomputable def robot_place.ann : Ann := .z
set_option maxRecDepth 100000 in
theorem robot_place.eq (x : Tup robot_place.p.inS) : peFn robot_place.E Tryz.f56 robot_place.ann robot_place.p x = robot_place.p.F x := by
  have h : peFn robot_place.E Tryz.f56 robot_place.ann robot_place.p x = robot_place.F0 x.1.1 x.1.2.1 := by kernel_rfl
  exact h.trans (by show _ = robot_place.F x.1.1 x.1.2.1; rw [robot_place.F_eq])
set_option maxRecDepth 100000 in
theorem robot_place.sound : ProcSound Tryz.prog glob0 56 robot_place.p :=
  fn_sound (E := robot_place.E) (c := robot_place.body0) (ann := robot_place.ann) robot_place.ok Tryz.func56 (of_decide_eq_true (by kernel_rfl)) rfl rfl rfl (by decide +kernel) ((SubsOk_z _ _) : SubsOk robot_place.E robot_place.body0 robot_place.ann) (fun _ => rfl) rfl robot_place.eq

/-! ### armplan/armplanref6.member: function 63 -/
noncomputable def armplanref6_member.p0.round (v0 : List (Int)) (v1 : Int) (v2 : Int) : Option ((List (Int) × Int × Int) ⊕ ((Bool) ⊕ (Unit))) :=
  (bif decide (v2 < (v0.length : Int)) then (bif decide (0 ≤ v2) then (bif decide (v2 < (v0.length : Int)) then (bif ((v0.getD v2.toNat (0 : Int)) == v1) then some (.inr (.inl true)) else some (.inl (v0, v1, (IntKind.wrap .i64 (v2 + (1 : Int)))))) else none) else none) else some (.inr (.inr ())))
noncomputable def armplanref6_member.p0.step (s : List (Int) × Int × Int) : Option ((List (Int) × Int × Int) ⊕ ((Bool) ⊕ (Unit))) := armplanref6_member.p0.round s.1 s.2.1 s.2.2
noncomputable def armplanref6_member.p0.inS : Shape := ⟨[(0, .lf (.dat (.int .i64))), (1, .lf (.sc (.int .i64))), (5, .lf (.sc (.int .i64)))], []⟩
noncomputable def armplanref6_member.p0.w0 : Way := { ex := .rt, S := ⟨[(4, .lf (.sc .bool))], []⟩, R := Bool, post := fun r => ((r, ()), ()), un := fun x => x.1.1 }
noncomputable def armplanref6_member.p0.w1 : Way := { ex := (.ex 0), S := ⟨[], []⟩, R := Unit, post := fun r => ((), ()), un := fun x => () }
noncomputable def armplanref6_member.p0.outs : List Way := [armplanref6_member.p0.w0, armplanref6_member.p0.w1]
noncomputable def armplanref6_member.p0.un (x : Tup armplanref6_member.p0.inS) : List (Int) × Int × Int := (x.1.1, x.1.2.1, x.1.2.2.1)
noncomputable def armplanref6_member.p0.lp : LProc := { inS := armplanref6_member.p0.inS, outs := armplanref6_member.p0.outs, F := fun x => loopF armplanref6_member.p0.step (armplanref6_member.p0.un x) }
noncomputable def armplanref6_member.F0 (a0 : List (Int)) (a1 : Int) : Option (Bool) :=
  ((loopF armplanref6_member.p0.step (a0, a1, (0 : Int))).bind fun y1 => (Sum.elim (fun y2 => some y2) (fun z3 => some false) y1))
noncomputable def armplanref6_member.F : (List (Int)) → Int → Option (Bool) := lock armplanref6_member.F0
theorem armplanref6_member.F_eq : armplanref6_member.F = armplanref6_member.F0 := lock_eq _
noncomputable def armplanref6_member.p : Proc := { nargs := 2, inS := ⟨[(0, .lf (.dat (.int .i64))), (1, .lf (.sc (.int .i64)))], []⟩, outS := ⟨[(0, .lf (.sc .bool))], []⟩, n0 := 0, R := Bool, F := fun x => armplanref6_member.F x.1.1 x.1.2.1, post := fun r => ((r, ()), ()), un := fun x => x.1.1 }
noncomputable def armplanref6_member.E : Env := { P := Tryz.prog, ty := tyTab [], glob := glob0, proc := procTab [], lproc := lprocTab [(0, armplanref6_member.p0.lp)], n0 := 0, ntmps := 18 }
theorem armplanref6_member.ok : ProcsOk armplanref6_member.E := AllSound.ok (l := []) (by kernel_rfl) rfl trivial
noncomputable def armplanref6_member.body0 : Code := (match Tryz.f63.body with | some c => c | none => .skip)
noncomputable def armplanref6_member.p0.c : Code := ((codeAt armplanref6_member.body0 [.r, .l, .r, .b, .b]).getD .skip)
noncomputable def armplanref6_member.p0.ann : Ann := .z
set_option maxRecDepth 100000 in
theorem armplanref6_member.p0.eq (x : Tup armplanref6_member.p0.inS) : peRound armplanref6_member.E armplanref6_member.p0.c armplanref6_member.p0.ann _ armplanref6_member.p0.inS armplanref6_member.p0.un armplanref6_member.p0.outs x = armplanref6_member.p0.step (armplanref6_member.p0.un x) := by
  kernel_rfl
set_option maxRecDepth 100000 in
theorem armplanref6_member.p0.sound : LProcSound armplanref6_member.E (.loop armplanref6_member.p0.c) armplanref6_member.p0.lp :=
  loop_sound (c := armplanref6_member.p0.c) (ann := armplanref6_member.p0.ann) armplanref6_member.ok ((SubsOk_z _ _) : SubsOk armplanref6_member.E armplanref6_member.p0.c armplanref6_member.p0.ann) (by intro a ha; simp only [armplanref6_member.p0.outs, List.mem_cons, List.not_mem_nil, or_false] at ha; rcases ha with rfl | rfl <;> exact fun _ => rfl) armplanref6_member.p0.eq
noncomputable def armplanref6_member.ann : Ann := .s (.z) (.s (.s (.z) (.b (.sub 0))) (.z))
set_option maxRecDepth 100000 in
theorem armplanref6_member.eq (x : Tup armplanref6_member.p.inS) : peFn armplanref6_member.E Tryz.f63 armplanref6_member.ann armplanref6_member.p x = armplanref6_member.p.F x := by
  have h : peFn armplanref6_member.E Tryz.f63 armplanref6_member.ann armplanref6_member.p x = armplanref6_member.F0 x.1.1 x.1.2.1 := by kernel_rfl
  exact h.trans (by show _ = armplanref6_member.F x.1.1 x.1.2.1; rw [armplanref6_member.F_eq])
set_option maxRecDepth 100000 in
theorem armplanref6_member.sound : ProcSound Tryz.prog glob0 63 armplanref6_member.p :=
  fn_sound (E := armplanref6_member.E) (c := armplanref6_member.body0) (ann := armplanref6_member.ann) armplanref6_member.ok Tryz.func63 (of_decide_eq_true (by kernel_rfl)) rfl rfl rfl (by decide +kernel) (⟨(SubsOk_z _ _), ⟨⟨(SubsOk_z _ _), (sub_of rfl armplanref6_member.p0.sound)⟩, (SubsOk_z _ _)⟩⟩ : SubsOk armplanref6_member.E armplanref6_member.body0 armplanref6_member.ann) (fun _ => rfl) rfl armplanref6_member.eq

/-! ### armplan/armplanref6.Name: function 66 -/
noncomputable def armplanref6_Name.p0.round (v0 : ByteArray) (v1 : Int) : Option ((ByteArray × Int) ⊕ ((Bool) ⊕ (Unit))) :=
  (bif decide (v1 < (v0.size : Int)) then (bif decide (0 ≤ v1) then (bif decide (v1 < (v0.size : Int)) then (bif decide ((btI v0 v1) ≥ (97 : Int)) then (bif decide (0 ≤ v1) then (bif decide (v1 < (v0.size : Int)) then (bif (!decide ((btI v0 v1) ≤ (122 : Int))) then (bif (v1 == (0 : Int)) then some (.inr (.inl false)) else (bif decide (0 ≤ v1) then (bif decide (v1 < (v0.size : Int)) then (bif ((btI v0 v1) != (95 : Int)) then (bif decide (0 ≤ v1) then (bif decide (v1 < (v0.size : Int)) then (bif decide ((btI v0 v1) < (48 : Int)) then some (.inr (.inl false)) else (bif decide (0 ≤ v1) then (bif decide (v1 < (v0.size : Int)) then (bif decide ((btI v0 v1) > (57 : Int)) then some (.inr (.inl false)) else some (.inl (v0, (IntKind.wrap .i64 (v1 + (1 : Int)))))) else none) else none)) else none) else none) else some (.inl (v0, (IntKind.wrap .i64 (v1 + (1 : Int)))))) else none) else none)) else some (.inl (v0, (IntKind.wrap .i64 (v1 + (1 : Int)))))) else none) else none) else (bif (v1 == (0 : Int)) then some (.inr (.inl false)) else (bif decide (0 ≤ v1) then (bif decide (v1 < (v0.size : Int)) then (bif ((btI v0 v1) != (95 : Int)) then (bif decide (0 ≤ v1) then (bif decide (v1 < (v0.size : Int)) then (bif decide ((btI v0 v1) < (48 : Int)) then some (.inr (.inl false)) else (bif decide (0 ≤ v1) then (bif decide (v1 < (v0.size : Int)) then (bif decide ((btI v0 v1) > (57 : Int)) then some (.inr (.inl false)) else some (.inl (v0, (IntKind.wrap .i64 (v1 + (1 : Int)))))) else none) else none)) else none) else none) else some (.inl (v0, (IntKind.wrap .i64 (v1 + (1 : Int)))))) else none) else none))) else none) else none) else some (.inr (.inr ())))
noncomputable def armplanref6_Name.p0.step (s : ByteArray × Int) : Option ((ByteArray × Int) ⊕ ((Bool) ⊕ (Unit))) := armplanref6_Name.p0.round s.1 s.2
noncomputable def armplanref6_Name.p0.inS : Shape := ⟨[(0, .lf (.sc .str)), (3, .lf (.sc (.int .i64)))], []⟩
noncomputable def armplanref6_Name.p0.w0 : Way := { ex := .rt, S := ⟨[(2, .lf (.sc .bool))], []⟩, R := Bool, post := fun r => ((r, ()), ()), un := fun x => x.1.1 }
noncomputable def armplanref6_Name.p0.w1 : Way := { ex := (.ex 0), S := ⟨[], []⟩, R := Unit, post := fun r => ((), ()), un := fun x => () }
noncomputable def armplanref6_Name.p0.outs : List Way := [armplanref6_Name.p0.w0, armplanref6_Name.p0.w1]
noncomputable def armplanref6_Name.p0.un (x : Tup armplanref6_Name.p0.inS) : ByteArray × Int := (x.1.1, x.1.2.1)
noncomputable def armplanref6_Name.p0.lp : LProc := { inS := armplanref6_Name.p0.inS, outs := armplanref6_Name.p0.outs, F := fun x => loopF armplanref6_Name.p0.step (armplanref6_Name.p0.un x) }
noncomputable def armplanref6_Name.F0 (a0 : ByteArray) : Option (Bool) :=
  (bif decide ((a0.size : Int) < (1 : Int)) then some false else (bif decide ((a0.size : Int) > (16 : Int)) then some false else (bif (eqS a0 (⟨#[119, 111, 114, 108, 100]⟩ : ByteArray)) then some false else ((loopF armplanref6_Name.p0.step (a0, (0 : Int))).bind fun y1 => (Sum.elim (fun y2 => some y2) (fun z3 => some true) y1)))))
noncomputable def armplanref6_Name.F : ByteArray → Option (Bool) := lock armplanref6_Name.F0
theorem armplanref6_Name.F_eq : armplanref6_Name.F = armplanref6_Name.F0 := lock_eq _
noncomputable def armplanref6_Name.p : Proc := { nargs := 1, inS := ⟨[(0, .lf (.sc .str))], []⟩, outS := ⟨[(0, .lf (.sc .bool))], []⟩, n0 := 0, R := Bool, F := fun x => armplanref6_Name.F x.1.1, post := fun r => ((r, ()), ()), un := fun x => x.1.1 }
noncomputable def armplanref6_Name.E : Env := { P := Tryz.prog, ty := tyTab [], glob := glob0, proc := procTab [], lproc := lprocTab [(0, armplanref6_Name.p0.lp)], n0 := 0, ntmps := 57 }
theorem armplanref6_Name.ok : ProcsOk armplanref6_Name.E := AllSound.ok (l := []) (by kernel_rfl) rfl trivial
noncomputable def armplanref6_Name.body0 : Code := (match Tryz.f66.body with | some c => c | none => .skip)
noncomputable def armplanref6_Name.p0.c : Code := ((codeAt armplanref6_Name.body0 [.r, .r, .l, .r, .b, .b]).getD .skip)
noncomputable def armplanref6_Name.p0.ann : Ann := .z
set_option maxRecDepth 100000 in
theorem armplanref6_Name.p0.eq (x : Tup armplanref6_Name.p0.inS) : peRound armplanref6_Name.E armplanref6_Name.p0.c armplanref6_Name.p0.ann _ armplanref6_Name.p0.inS armplanref6_Name.p0.un armplanref6_Name.p0.outs x = armplanref6_Name.p0.step (armplanref6_Name.p0.un x) := by
  kernel_rfl
set_option maxRecDepth 100000 in
theorem armplanref6_Name.p0.sound : LProcSound armplanref6_Name.E (.loop armplanref6_Name.p0.c) armplanref6_Name.p0.lp :=
  loop_sound (c := armplanref6_Name.p0.c) (ann := armplanref6_Name.p0.ann) armplanref6_Name.ok ((SubsOk_z _ _) : SubsOk armplanref6_Name.E armplanref6_Name.p0.c armplanref6_Name.p0.ann) (by intro a ha; simp only [armplanref6_Name.p0.outs, List.mem_cons, List.not_mem_nil, or_false] at ha; rcases ha with rfl | rfl <;> exact fun _ => rfl) armplanref6_Name.p0.eq
noncomputable def armplanref6_Name.ann : Ann := .s (.z) (.s (.z) (.s (.s (.z) (.b (.sub 0))) (.z)))
set_option maxRecDepth 100000 in
theorem armplanref6_Name.eq (x : Tup armplanref6_Name.p.inS) : peFn armplanref6_Name.E Tryz.f66 armplanref6_Name.ann armplanref6_Name.p x = armplanref6_Name.p.F x := by
  have h : peFn armplanref6_Name.E Tryz.f66 armplanref6_Name.ann armplanref6_Name.p x = armplanref6_Name.F0 x.1.1 := by kernel_rfl
  exact h.trans (by show _ = armplanref6_Name.F x.1.1; rw [armplanref6_Name.F_eq])
set_option maxRecDepth 100000 in
theorem armplanref6_Name.sound : ProcSound Tryz.prog glob0 66 armplanref6_Name.p :=
  fn_sound (E := armplanref6_Name.E) (c := armplanref6_Name.body0) (ann := armplanref6_Name.ann) armplanref6_Name.ok Tryz.func66 (of_decide_eq_true (by kernel_rfl)) rfl rfl rfl (by decide +kernel) (⟨(SubsOk_z _ _), ⟨(SubsOk_z _ _), ⟨⟨(SubsOk_z _ _), (sub_of rfl armplanref6_Name.p0.sound)⟩, (SubsOk_z _ _)⟩⟩⟩ : SubsOk armplanref6_Name.E armplanref6_Name.body0 armplanref6_Name.ann) (fun _ => rfl) rfl armplanref6_Name.eq

/-! ### armplan/armplanref6.reach: function 67 -/
noncomputable def armplanref6_reach.F0 (a0 : Int) : Option (Int) :=
  (bif (a0 == (0 : Int)) then some (0 : Int) else (bif (a0 == (1 : Int)) then some (524288 : Int) else (bif (a0 == (2 : Int)) then some (524288 : Int) else (bif (a0 == (3 : Int)) then some (524288 : Int) else some (4194304 : Int)))))
noncomputable def armplanref6_reach.F : Int → Option (Int) := lock armplanref6_reach.F0
theorem armplanref6_reach.F_eq : armplanref6_reach.F = armplanref6_reach.F0 := lock_eq _
noncomputable def armplanref6_reach.p : Proc := { nargs := 1, inS := ⟨[(0, .lf (.sc (.int .i64)))], []⟩, outS := ⟨[(0, .lf (.sc (.int .i64)))], []⟩, n0 := 0, R := Int, F := fun x => armplanref6_reach.F x.1.1, post := fun r => ((r, ()), ()), un := fun x => x.1.1 }
noncomputable def armplanref6_reach.E : Env := { P := Tryz.prog, ty := tyTab [], glob := glob0, proc := procTab [], lproc := lprocTab [], n0 := 0, ntmps := 10 }
theorem armplanref6_reach.ok : ProcsOk armplanref6_reach.E := AllSound.ok (l := []) (by kernel_rfl) rfl trivial
noncomputable def armplanref6_reach.body0 : Code := (match Tryz.f67.body with | some c => c | none => .skip)
noncomputable def armplanref6_reach.ann : Ann := .z
set_option maxRecDepth 100000 in
theorem armplanref6_reach.eq (x : Tup armplanref6_reach.p.inS) : peFn armplanref6_reach.E Tryz.f67 armplanref6_reach.ann armplanref6_reach.p x = armplanref6_reach.p.F x := by
  have h : peFn armplanref6_reach.E Tryz.f67 armplanref6_reach.ann armplanref6_reach.p x = armplanref6_reach.F0 x.1.1 := by kernel_rfl
  exact h.trans (by show _ = armplanref6_reach.F x.1.1; rw [armplanref6_reach.F_eq])
set_option maxRecDepth 100000 in
theorem armplanref6_reach.sound : ProcSound Tryz.prog glob0 67 armplanref6_reach.p :=
  fn_sound (E := armplanref6_reach.E) (c := armplanref6_reach.body0) (ann := armplanref6_reach.ann) armplanref6_reach.ok Tryz.func67 (of_decide_eq_true (by kernel_rfl)) rfl rfl rfl (by decide +kernel) ((SubsOk_z _ _) : SubsOk armplanref6_reach.E armplanref6_reach.body0 armplanref6_reach.ann) (fun _ => rfl) rfl armplanref6_reach.eq

/-! ### armplan/armplanmake.letter: function 75 -/
noncomputable def armplanmake_letter.F0 (a0 : Int) : Option (ByteArray) :=
  (bif decide (0 ≤ a0) then (bif decide (a0 ≤ (IntKind.wrap .i64 (a0 + (1 : Int)))) then (bif decide ((IntKind.wrap .i64 (a0 + (1 : Int))) ≤ ((⟨#[97, 98, 99, 100, 101, 102, 103, 104, 105, 106]⟩ : ByteArray).size : Int)) then some ((⟨#[97, 98, 99, 100, 101, 102, 103, 104, 105, 106]⟩ : ByteArray).extract a0.toNat (IntKind.wrap .i64 (a0 + (1 : Int))).toNat) else none) else none) else none)
noncomputable def armplanmake_letter.F : Int → Option (ByteArray) := lock armplanmake_letter.F0
theorem armplanmake_letter.F_eq : armplanmake_letter.F = armplanmake_letter.F0 := lock_eq _
noncomputable def armplanmake_letter.p : Proc := { nargs := 1, inS := ⟨[(0, .lf (.sc (.int .i64)))], []⟩, outS := ⟨[(0, .lf (.sc .str))], []⟩, n0 := 0, R := ByteArray, F := fun x => armplanmake_letter.F x.1.1, post := fun r => ((r, ()), ()), un := fun x => x.1.1 }
noncomputable def armplanmake_letter.E : Env := { P := Tryz.prog, ty := tyTab [], glob := glob0, proc := procTab [], lproc := lprocTab [], n0 := 0, ntmps := 7 }
theorem armplanmake_letter.ok : ProcsOk armplanmake_letter.E := AllSound.ok (l := []) (by kernel_rfl) rfl trivial
noncomputable def armplanmake_letter.body0 : Code := (match Tryz.f75.body with | some c => c | none => .skip)
noncomputable def armplanmake_letter.ann : Ann := .z
set_option maxRecDepth 100000 in
theorem armplanmake_letter.eq (x : Tup armplanmake_letter.p.inS) : peFn armplanmake_letter.E Tryz.f75 armplanmake_letter.ann armplanmake_letter.p x = armplanmake_letter.p.F x := by
  have h : peFn armplanmake_letter.E Tryz.f75 armplanmake_letter.ann armplanmake_letter.p x = armplanmake_letter.F0 x.1.1 := by kernel_rfl
  exact h.trans (by show _ = armplanmake_letter.F x.1.1; rw [armplanmake_letter.F_eq])
set_option maxRecDepth 100000 in
theorem armplanmake_letter.sound : ProcSound Tryz.prog glob0 75 armplanmake_letter.p :=
  fn_sound (E := armplanmake_letter.E) (c := armplanmake_letter.body0) (ann := armplanmake_letter.ann) armplanmake_letter.ok Tryz.func75 (of_decide_eq_true (by kernel_rfl)) rfl rfl rfl (by decide +kernel) ((SubsOk_z _ _) : SubsOk armplanmake_letter.E armplanmake_letter.body0 armplanmake_letter.ann) (fun _ => rfl) rfl armplanmake_letter.eq

/-! ### armplan/robot.bound: function 76 -/
noncomputable def robot_bound.F0 (a0 : Int) : Option (Int) :=
  (bif (a0 == (0 : Int)) then some (0 : Int) else (bif (a0 == (1 : Int)) then some (524288 : Int) else (bif (a0 == (2 : Int)) then some (524288 : Int) else (bif (a0 == (3 : Int)) then some (524288 : Int) else some (4194304 : Int)))))
noncomputable def robot_bound.F : Int → Option (Int) := lock robot_bound.F0
theorem robot_bound.F_eq : robot_bound.F = robot_bound.F0 := lock_eq _
noncomputable def robot_bound.p : Proc := { nargs := 1, inS := ⟨[(0, .lf (.sc (.int .i64)))], []⟩, outS := ⟨[(0, .lf (.sc (.int .i64)))], []⟩, n0 := 0, R := Int, F := fun x => robot_bound.F x.1.1, post := fun r => ((r, ()), ()), un := fun x => x.1.1 }
noncomputable def robot_bound.E : Env := { P := Tryz.prog, ty := tyTab [], glob := glob0, proc := procTab [], lproc := lprocTab [], n0 := 0, ntmps := 10 }
theorem robot_bound.ok : ProcsOk robot_bound.E := AllSound.ok (l := []) (by kernel_rfl) rfl trivial
noncomputable def robot_bound.body0 : Code := (match Tryz.f76.body with | some c => c | none => .skip)
noncomputable def robot_bound.ann : Ann := .z
set_option maxRecDepth 100000 in
theorem robot_bound.eq (x : Tup robot_bound.p.inS) : peFn robot_bound.E Tryz.f76 robot_bound.ann robot_bound.p x = robot_bound.p.F x := by
  have h : peFn robot_bound.E Tryz.f76 robot_bound.ann robot_bound.p x = robot_bound.F0 x.1.1 := by kernel_rfl
  exact h.trans (by show _ = robot_bound.F x.1.1; rw [robot_bound.F_eq])
set_option maxRecDepth 100000 in
theorem robot_bound.sound : ProcSound Tryz.prog glob0 76 robot_bound.p :=
  fn_sound (E := robot_bound.E) (c := robot_bound.body0) (ann := robot_bound.ann) robot_bound.ok Tryz.func76 (of_decide_eq_true (by kernel_rfl)) rfl rfl rfl (by decide +kernel) ((SubsOk_z _ _) : SubsOk robot_bound.E robot_bound.body0 robot_bound.ann) (fun _ => rfl) rfl robot_bound.eq

/-! ### armplan/token.Name: function 77 -/
noncomputable def token_Name.p0.round (v0 : ByteArray) (v1 : ByteArray) (v2 : Int) : Option ((ByteArray × ByteArray × Int) ⊕ ((Bool) ⊕ (ByteArray))) :=
  (bif decide (v2 < (v1.size : Int)) then (bif decide ((rnC v1 v2) ≥ (97 : Int)) then (bif (!decide ((rnC v1 v2) ≤ (122 : Int))) then (bif (v2 == (0 : Int)) then some (.inr (.inl false)) else (bif ((rnC v1 v2) != (95 : Int)) then (bif decide ((rnC v1 v2) < (48 : Int)) then some (.inr (.inl false)) else (bif decide ((rnC v1 v2) > (57 : Int)) then some (.inr (.inl false)) else some (.inl (v0, v1, (v2 + rnW v1 v2))))) else some (.inl (v0, v1, (v2 + rnW v1 v2))))) else some (.inl (v0, v1, (v2 + rnW v1 v2)))) else (bif (v2 == (0 : Int)) then some (.inr (.inl false)) else (bif ((rnC v1 v2) != (95 : Int)) then (bif decide ((rnC v1 v2) < (48 : Int)) then some (.inr (.inl false)) else (bif decide ((rnC v1 v2) > (57 : Int)) then some (.inr (.inl false)) else some (.inl (v0, v1, (v2 + rnW v1 v2))))) else some (.inl (v0, v1, (v2 + rnW v1 v2)))))) else some (.inr (.inr v0)))
noncomputable def token_Name.p0.step (s : ByteArray × ByteArray × Int) : Option ((ByteArray × ByteArray × Int) ⊕ ((Bool) ⊕ (ByteArray))) := token_Name.p0.round s.1 s.2.1 s.2.2
noncomputable def token_Name.p0.inS : Shape := ⟨[(0, .lf (.sc .str)), (7, .lf (.bp 0 0))], [.iter]⟩
noncomputable def token_Name.p0.w0 : Way := { ex := .rt, S := ⟨[(2, .lf (.sc .bool))], []⟩, R := Bool, post := fun r => ((r, ()), ()), un := fun x => x.1.1 }
noncomputable def token_Name.p0.w1 : Way := { ex := (.ex 0), S := ⟨[(0, .lf (.sc .str))], []⟩, R := ByteArray, post := fun r => ((r, ()), ()), un := fun x => x.1.1 }
noncomputable def token_Name.p0.outs : List Way := [token_Name.p0.w0, token_Name.p0.w1]
noncomputable def token_Name.p0.un (x : Tup token_Name.p0.inS) : ByteArray × ByteArray × Int := (x.1.1, x.2.1.1, x.2.1.2)
noncomputable def token_Name.p0.lp : LProc := { inS := token_Name.p0.inS, outs := token_Name.p0.outs, F := fun x => loopF token_Name.p0.step (token_Name.p0.un x) }
noncomputable def token_Name.F0 (a0 : ByteArray) : Option (Bool) :=
  ((loopF token_Name.p0.step (a0, a0, (0 : Int))).bind fun y1 => (Sum.elim (fun y2 => some y2) (fun z3 => (bif decide ((z3.size : Int) ≥ (1 : Int)) then (bif decide ((z3.size : Int) ≤ (16 : Int)) then some (!(eqS z3 (⟨#[119, 111, 114, 108, 100]⟩ : ByteArray))) else some false) else some false)) y1))
noncomputable def token_Name.F : ByteArray → Option (Bool) := lock token_Name.F0
theorem token_Name.F_eq : token_Name.F = token_Name.F0 := lock_eq _
noncomputable def token_Name.p : Proc := { nargs := 1, inS := ⟨[(0, .lf (.sc .str))], []⟩, outS := ⟨[(0, .lf (.sc .bool))], []⟩, n0 := 0, R := Bool, F := fun x => token_Name.F x.1.1, post := fun r => ((r, ()), ()), un := fun x => x.1.1 }
noncomputable def token_Name.E : Env := { P := Tryz.prog, ty := tyTab [], glob := glob0, proc := procTab [], lproc := lprocTab [(0, token_Name.p0.lp)], n0 := 0, ntmps := 48 }
theorem token_Name.ok : ProcsOk token_Name.E := AllSound.ok (l := []) (by kernel_rfl) rfl trivial
noncomputable def token_Name.body0 : Code := (match Tryz.f77.body with | some c => c | none => .skip)
noncomputable def token_Name.p0.c : Code := ((codeAt token_Name.body0 [.r, .l, .r, .b, .b]).getD .skip)
noncomputable def token_Name.p0.ann : Ann := .z
set_option maxRecDepth 100000 in
theorem token_Name.p0.eq (x : Tup token_Name.p0.inS) : peRound token_Name.E token_Name.p0.c token_Name.p0.ann _ token_Name.p0.inS token_Name.p0.un token_Name.p0.outs x = token_Name.p0.step (token_Name.p0.un x) := by
  kernel_rfl
set_option maxRecDepth 100000 in
theorem token_Name.p0.sound : LProcSound token_Name.E (.loop token_Name.p0.c) token_Name.p0.lp :=
  loop_sound (c := token_Name.p0.c) (ann := token_Name.p0.ann) token_Name.ok ((SubsOk_z _ _) : SubsOk token_Name.E token_Name.p0.c token_Name.p0.ann) (by intro a ha; simp only [token_Name.p0.outs, List.mem_cons, List.not_mem_nil, or_false] at ha; rcases ha with rfl | rfl <;> exact fun _ => rfl) token_Name.p0.eq
noncomputable def token_Name.ann : Ann := .s (.z) (.s (.s (.z) (.b (.sub 0))) (.z))
set_option maxRecDepth 100000 in
theorem token_Name.eq (x : Tup token_Name.p.inS) : peFn token_Name.E Tryz.f77 token_Name.ann token_Name.p x = token_Name.p.F x := by
  have h : peFn token_Name.E Tryz.f77 token_Name.ann token_Name.p x = token_Name.F0 x.1.1 := by kernel_rfl
  exact h.trans (by show _ = token_Name.F x.1.1; rw [token_Name.F_eq])
set_option maxRecDepth 100000 in
theorem token_Name.sound : ProcSound Tryz.prog glob0 77 token_Name.p :=
  fn_sound (E := token_Name.E) (c := token_Name.body0) (ann := token_Name.ann) token_Name.ok Tryz.func77 (of_decide_eq_true (by kernel_rfl)) rfl rfl rfl (by decide +kernel) (⟨(SubsOk_z _ _), ⟨⟨(SubsOk_z _ _), (sub_of rfl token_Name.p0.sound)⟩, (SubsOk_z _ _)⟩⟩ : SubsOk token_Name.E token_Name.body0 token_Name.ann) (fun _ => rfl) rfl token_Name.eq

/-! ### slices.Index[[]int,int]: function 84 -/
noncomputable def slices_Index_int.p0.round (v0 : List (Int)) (v1 : Int) (v2 : Int) (v3 : Int) : Option ((List (Int) × Int × Int × Int) ⊕ ((Int) ⊕ (Unit))) :=
  (bif decide (v3 < v2) then (bif decide (0 ≤ v3) then (bif decide (v3 < (v0.length : Int)) then (bif (v1 == (v0.getD v3.toNat (0 : Int))) then some (.inr (.inl v3)) else some (.inl (v0, v1, v2, (IntKind.wrap .i64 (v3 + (1 : Int)))))) else none) else none) else some (.inr (.inr ())))
noncomputable def slices_Index_int.p0.step (s : List (Int) × Int × Int × Int) : Option ((List (Int) × Int × Int × Int) ⊕ ((Int) ⊕ (Unit))) := slices_Index_int.p0.round s.1 s.2.1 s.2.2.1 s.2.2.2
noncomputable def slices_Index_int.p0.inS : Shape := ⟨[(0, .lf (.dat (.int .i64))), (1, .lf (.sc (.int .i64))), (7, .lf (.sc (.int .i64))), (8, .lf (.sc (.int .i64)))], []⟩
noncomputable def slices_Index_int.p0.w0 : Way := { ex := .rt, S := ⟨[(4, .lf (.sc (.int .i64)))], []⟩, R := Int, post := fun r => ((r, ()), ()), un := fun x => x.1.1 }
noncomputable def slices_Index_int.p0.w1 : Way := { ex := (.ex 0), S := ⟨[], []⟩, R := Unit, post := fun r => ((), ()), un := fun x => () }
noncomputable def slices_Index_int.p0.outs : List Way := [slices_Index_int.p0.w0, slices_Index_int.p0.w1]
noncomputable def slices_Index_int.p0.un (x : Tup slices_Index_int.p0.inS) : List (Int) × Int × Int × Int := (x.1.1, x.1.2.1, x.1.2.2.1, x.1.2.2.2.1)
noncomputable def slices_Index_int.p0.lp : LProc := { inS := slices_Index_int.p0.inS, outs := slices_Index_int.p0.outs, F := fun x => loopF slices_Index_int.p0.step (slices_Index_int.p0.un x) }
noncomputable def slices_Index_int.F0 (a0 : List (Int)) (a1 : Int) : Option (Int) :=
  ((loopF slices_Index_int.p0.step (a0, a1, (a0.length : Int), (0 : Int))).bind fun y1 => (Sum.elim (fun y2 => some y2) (fun z3 => some (-1 : Int)) y1))
noncomputable def slices_Index_int.F : (List (Int)) → Int → Option (Int) := lock slices_Index_int.F0
theorem slices_Index_int.F_eq : slices_Index_int.F = slices_Index_int.F0 := lock_eq _
noncomputable def slices_Index_int.p : Proc := { nargs := 2, inS := ⟨[(0, .lf (.dat (.int .i64))), (1, .lf (.sc (.int .i64)))], []⟩, outS := ⟨[(0, .lf (.sc (.int .i64)))], []⟩, n0 := 0, R := Int, F := fun x => slices_Index_int.F x.1.1 x.1.2.1, post := fun r => ((r, ()), ()), un := fun x => x.1.1 }
noncomputable def slices_Index_int.E : Env := { P := Tryz.prog, ty := tyTab [], glob := glob0, proc := procTab [], lproc := lprocTab [(0, slices_Index_int.p0.lp)], n0 := 0, ntmps := 19 }
theorem slices_Index_int.ok : ProcsOk slices_Index_int.E := AllSound.ok (l := []) (by kernel_rfl) rfl trivial
noncomputable def slices_Index_int.body0 : Code := (match Tryz.f84.body with | some c => c | none => .skip)
noncomputable def slices_Index_int.p0.c : Code := ((codeAt slices_Index_int.body0 [.r, .l, .r, .b, .b]).getD .skip)
noncomputable def slices_Index_int.p0.ann : Ann := .z
set_option maxRecDepth 100000 in
theorem slices_Index_int.p0.eq (x : Tup slices_Index_int.p0.inS) : peRound slices_Index_int.E slices_Index_int.p0.c slices_Index_int.p0.ann _ slices_Index_int.p0.inS slices_Index_int.p0.un slices_Index_int.p0.outs x = slices_Index_int.p0.step (slices_Index_int.p0.un x) := by
  kernel_rfl
set_option maxRecDepth 100000 in
theorem slices_Index_int.p0.sound : LProcSound slices_Index_int.E (.loop slices_Index_int.p0.c) slices_Index_int.p0.lp :=
  loop_sound (c := slices_Index_int.p0.c) (ann := slices_Index_int.p0.ann) slices_Index_int.ok ((SubsOk_z _ _) : SubsOk slices_Index_int.E slices_Index_int.p0.c slices_Index_int.p0.ann) (by intro a ha; simp only [slices_Index_int.p0.outs, List.mem_cons, List.not_mem_nil, or_false] at ha; rcases ha with rfl | rfl <;> exact fun _ => rfl) slices_Index_int.p0.eq
noncomputable def slices_Index_int.ann : Ann := .s (.z) (.s (.s (.z) (.b (.sub 0))) (.z))
set_option maxRecDepth 100000 in
theorem slices_Index_int.eq (x : Tup slices_Index_int.p.inS) : peFn slices_Index_int.E Tryz.f84 slices_Index_int.ann slices_Index_int.p x = slices_Index_int.p.F x := by
  have h : peFn slices_Index_int.E Tryz.f84 slices_Index_int.ann slices_Index_int.p x = slices_Index_int.F0 x.1.1 x.1.2.1 := by kernel_rfl
  exact h.trans (by show _ = slices_Index_int.F x.1.1 x.1.2.1; rw [slices_Index_int.F_eq])
set_option maxRecDepth 100000 in
theorem slices_Index_int.sound : ProcSound Tryz.prog glob0 84 slices_Index_int.p :=
  fn_sound (E := slices_Index_int.E) (c := slices_Index_int.body0) (ann := slices_Index_int.ann) slices_Index_int.ok Tryz.func84 (of_decide_eq_true (by kernel_rfl)) rfl rfl rfl (by decide +kernel) (⟨(SubsOk_z _ _), ⟨⟨(SubsOk_z _ _), (sub_of rfl slices_Index_int.p0.sound)⟩, (SubsOk_z _ _)⟩⟩ : SubsOk slices_Index_int.E slices_Index_int.body0 slices_Index_int.ann) (fun _ => rfl) rfl slices_Index_int.eq

/-! ### slices.Index[[]string,string]: function 86 -/
noncomputable def slices_Index_string.p0.round (v0 : List (ByteArray)) (v1 : ByteArray) (v2 : Int) (v3 : Int) : Option ((List (ByteArray) × ByteArray × Int × Int) ⊕ ((Int) ⊕ (Unit))) :=
  (bif decide (v3 < v2) then (bif decide (0 ≤ v3) then (bif decide (v3 < (v0.length : Int)) then (bif (eqS v1 (v0.getD v3.toNat (⟨#[]⟩ : ByteArray))) then some (.inr (.inl v3)) else some (.inl (v0, v1, v2, (IntKind.wrap .i64 (v3 + (1 : Int)))))) else none) else none) else some (.inr (.inr ())))
noncomputable def slices_Index_string.p0.step (s : List (ByteArray) × ByteArray × Int × Int) : Option ((List (ByteArray) × ByteArray × Int × Int) ⊕ ((Int) ⊕ (Unit))) := slices_Index_string.p0.round s.1 s.2.1 s.2.2.1 s.2.2.2
noncomputable def slices_Index_string.p0.inS : Shape := ⟨[(0, .lf (.dat .str)), (1, .lf (.sc .str)), (7, .lf (.sc (.int .i64))), (8, .lf (.sc (.int .i64)))], []⟩
noncomputable def slices_Index_string.p0.w0 : Way := { ex := .rt, S := ⟨[(4, .lf (.sc (.int .i64)))], []⟩, R := Int, post := fun r => ((r, ()), ()), un := fun x => x.1.1 }
noncomputable def slices_Index_string.p0.w1 : Way := { ex := (.ex 0), S := ⟨[], []⟩, R := Unit, post := fun r => ((), ()), un := fun x => () }
noncomputable def slices_Index_string.p0.outs : List Way := [slices_Index_string.p0.w0, slices_Index_string.p0.w1]
noncomputable def slices_Index_string.p0.un (x : Tup slices_Index_string.p0.inS) : List (ByteArray) × ByteArray × Int × Int := (x.1.1, x.1.2.1, x.1.2.2.1, x.1.2.2.2.1)
noncomputable def slices_Index_string.p0.lp : LProc := { inS := slices_Index_string.p0.inS, outs := slices_Index_string.p0.outs, F := fun x => loopF slices_Index_string.p0.step (slices_Index_string.p0.un x) }
noncomputable def slices_Index_string.F0 (a0 : List (ByteArray)) (a1 : ByteArray) : Option (Int) :=
  ((loopF slices_Index_string.p0.step (a0, a1, (a0.length : Int), (0 : Int))).bind fun y1 => (Sum.elim (fun y2 => some y2) (fun z3 => some (-1 : Int)) y1))
noncomputable def slices_Index_string.F : (List (ByteArray)) → ByteArray → Option (Int) := lock slices_Index_string.F0
theorem slices_Index_string.F_eq : slices_Index_string.F = slices_Index_string.F0 := lock_eq _
noncomputable def slices_Index_string.p : Proc := { nargs := 2, inS := ⟨[(0, .lf (.dat .str)), (1, .lf (.sc .str))], []⟩, outS := ⟨[(0, .lf (.sc (.int .i64)))], []⟩, n0 := 0, R := Int, F := fun x => slices_Index_string.F x.1.1 x.1.2.1, post := fun r => ((r, ()), ()), un := fun x => x.1.1 }
noncomputable def slices_Index_string.E : Env := { P := Tryz.prog, ty := tyTab [], glob := glob0, proc := procTab [], lproc := lprocTab [(0, slices_Index_string.p0.lp)], n0 := 0, ntmps := 19 }
theorem slices_Index_string.ok : ProcsOk slices_Index_string.E := AllSound.ok (l := []) (by kernel_rfl) rfl trivial
noncomputable def slices_Index_string.body0 : Code := (match Tryz.f86.body with | some c => c | none => .skip)
noncomputable def slices_Index_string.p0.c : Code := ((codeAt slices_Index_string.body0 [.r, .l, .r, .b, .b]).getD .skip)
noncomputable def slices_Index_string.p0.ann : Ann := .z
set_option maxRecDepth 100000 in
theorem slices_Index_string.p0.eq (x : Tup slices_Index_string.p0.inS) : peRound slices_Index_string.E slices_Index_string.p0.c slices_Index_string.p0.ann _ slices_Index_string.p0.inS slices_Index_string.p0.un slices_Index_string.p0.outs x = slices_Index_string.p0.step (slices_Index_string.p0.un x) := by
  kernel_rfl
set_option maxRecDepth 100000 in
theorem slices_Index_string.p0.sound : LProcSound slices_Index_string.E (.loop slices_Index_string.p0.c) slices_Index_string.p0.lp :=
  loop_sound (c := slices_Index_string.p0.c) (ann := slices_Index_string.p0.ann) slices_Index_string.ok ((SubsOk_z _ _) : SubsOk slices_Index_string.E slices_Index_string.p0.c slices_Index_string.p0.ann) (by intro a ha; simp only [slices_Index_string.p0.outs, List.mem_cons, List.not_mem_nil, or_false] at ha; rcases ha with rfl | rfl <;> exact fun _ => rfl) slices_Index_string.p0.eq
noncomputable def slices_Index_string.ann : Ann := .s (.z) (.s (.s (.z) (.b (.sub 0))) (.z))
set_option maxRecDepth 100000 in
theorem slices_Index_string.eq (x : Tup slices_Index_string.p.inS) : peFn slices_Index_string.E Tryz.f86 slices_Index_string.ann slices_Index_string.p x = slices_Index_string.p.F x := by
  have h : peFn slices_Index_string.E Tryz.f86 slices_Index_string.ann slices_Index_string.p x = slices_Index_string.F0 x.1.1 x.1.2.1 := by kernel_rfl
  exact h.trans (by show _ = slices_Index_string.F x.1.1 x.1.2.1; rw [slices_Index_string.F_eq])
set_option maxRecDepth 100000 in
theorem slices_Index_string.sound : ProcSound Tryz.prog glob0 86 slices_Index_string.p :=
  fn_sound (E := slices_Index_string.E) (c := slices_Index_string.body0) (ann := slices_Index_string.ann) slices_Index_string.ok Tryz.func86 (of_decide_eq_true (by kernel_rfl)) rfl rfl rfl (by decide +kernel) (⟨(SubsOk_z _ _), ⟨⟨(SubsOk_z _ _), (sub_of rfl slices_Index_string.p0.sound)⟩, (SubsOk_z _ _)⟩⟩ : SubsOk slices_Index_string.E slices_Index_string.body0 slices_Index_string.ann) (fun _ => rfl) rfl slices_Index_string.eq

/-! ### armplan/syntax.counts: function 90 -/
noncomputable def syntax_counts.F0 (_ : Unit) : Option (List ((ByteArray × Int))) :=
  some (setM (⟨#[115, 107, 105, 112]⟩ : ByteArray) (2 : Int) (setM (⟨#[109, 97, 115, 115]⟩ : ByteArray) (5 : Int) (setM (⟨#[108, 105, 109, 105, 116]⟩ : ByteArray) (4 : Int) (setM (⟨#[106, 111, 105, 110, 116]⟩ : ByteArray) (9 : Int) ([] : List (ByteArray × Int))))))
noncomputable def syntax_counts.F : Unit → Option (List ((ByteArray × Int))) := lock syntax_counts.F0
theorem syntax_counts.F_eq : syntax_counts.F = syntax_counts.F0 := lock_eq _
noncomputable def syntax_counts.p : Proc := { nargs := 0, inS := ⟨[], []⟩, outS := ⟨[(0, .lf (.own 0))], [.smap (.int .i64)]⟩, n0 := 0, R := List ((ByteArray × Int)), F := fun x => syntax_counts.F (), post := fun r => (((), ()), (r, ())), un := fun x => x.2.1 }
noncomputable def syntax_counts.E : Env := { P := Tryz.prog, ty := tyTab [(3, (.int .i64))], glob := glob0, proc := procTab [], lproc := lprocTab [], n0 := 0, ntmps := 3 }
theorem syntax_counts.ok : ProcsOk syntax_counts.E := AllSound.ok (l := []) (by kernel_rfl) rfl trivial
noncomputable def syntax_counts.body0 : Code := (match Tryz.f90.body with | some c => c | none => .skip)
noncomputable def syntax_counts.ann : Ann := .z
set_option maxRecDepth 100000 in
theorem syntax_counts.eq (x : Tup syntax_counts.p.inS) : peFn syntax_counts.E Tryz.f90 syntax_counts.ann syntax_counts.p x = syntax_counts.p.F x := by
  have h : peFn syntax_counts.E Tryz.f90 syntax_counts.ann syntax_counts.p x = syntax_counts.F0 () := by kernel_rfl
  exact h.trans (by show _ = syntax_counts.F (); rw [syntax_counts.F_eq])
set_option maxRecDepth 100000 in
theorem syntax_counts.sound : ProcSound Tryz.prog glob0 90 syntax_counts.p :=
  fn_sound (E := syntax_counts.E) (c := syntax_counts.body0) (ann := syntax_counts.ann) syntax_counts.ok Tryz.func90 (of_decide_eq_true (by kernel_rfl)) rfl rfl rfl (by decide +kernel) ((SubsOk_z _ _) : SubsOk syntax_counts.E syntax_counts.body0 syntax_counts.ann) (fun _ => rfl) rfl syntax_counts.eq

/-! ### armplan/token.digits: function 104 -/
noncomputable def token_digits.p0.round (v0 : ByteArray) (v1 : Int) (v2 : ByteArray) (v3 : Int) : Option ((ByteArray × Int × ByteArray × Int) ⊕ ((Bool) ⊕ (ByteArray × Int))) :=
  (bif decide (v3 < (v2.size : Int)) then (bif decide ((rnC v2 v3) < (48 : Int)) then some (.inr (.inl false)) else (bif decide ((rnC v2 v3) > (57 : Int)) then some (.inr (.inl false)) else some (.inl (v0, v1, v2, (v3 + rnW v2 v3))))) else some (.inr (.inr (v0, v1))))
noncomputable def token_digits.p0.step (s : ByteArray × Int × ByteArray × Int) : Option ((ByteArray × Int × ByteArray × Int) ⊕ ((Bool) ⊕ (ByteArray × Int))) := token_digits.p0.round s.1 s.2.1 s.2.2.1 s.2.2.2
noncomputable def token_digits.p0.inS : Shape := ⟨[(0, .lf (.sc .str)), (1, .lf (.sc (.int .i64))), (8, .lf (.bp 0 0))], [.iter]⟩
noncomputable def token_digits.p0.w0 : Way := { ex := .rt, S := ⟨[(4, .lf (.sc .bool))], []⟩, R := Bool, post := fun r => ((r, ()), ()), un := fun x => x.1.1 }
noncomputable def token_digits.p0.w1 : Way := { ex := (.ex 0), S := ⟨[(0, .lf (.sc .str)), (1, .lf (.sc (.int .i64)))], []⟩, R := ByteArray × Int, post := fun r => ((r.1, (r.2, ())), ()), un := fun x => (x.1.1, x.1.2.1) }
noncomputable def token_digits.p0.outs : List Way := [token_digits.p0.w0, token_digits.p0.w1]
noncomputable def token_digits.p0.un (x : Tup token_digits.p0.inS) : ByteArray × Int × ByteArray × Int := (x.1.1, x.1.2.1, x.2.1.1, x.2.1.2)
noncomputable def token_digits.p0.lp : LProc := { inS := token_digits.p0.inS, outs := token_digits.p0.outs, F := fun x => loopF token_digits.p0.step (token_digits.p0.un x) }
noncomputable def token_digits.F0 (a0 : ByteArray) (a1 : Int) : Option (Bool) :=
  ((loopF token_digits.p0.step (a0, a1, a0, (0 : Int))).bind fun y1 => (Sum.elim (fun y2 => some y2) (fun z3 => (bif decide ((z3.1.size : Int) ≥ (1 : Int)) then some (decide ((z3.1.size : Int) ≤ z3.2)) else some false)) y1))
noncomputable def token_digits.F : ByteArray → Int → Option (Bool) := lock token_digits.F0
theorem token_digits.F_eq : token_digits.F = token_digits.F0 := lock_eq _
noncomputable def token_digits.p : Proc := { nargs := 2, inS := ⟨[(0, .lf (.sc .str)), (1, .lf (.sc (.int .i64)))], []⟩, outS := ⟨[(0, .lf (.sc .bool))], []⟩, n0 := 0, R := Bool, F := fun x => token_digits.F x.1.1 x.1.2.1, post := fun r => ((r, ()), ()), un := fun x => x.1.1 }
noncomputable def token_digits.E : Env := { P := Tryz.prog, ty := tyTab [], glob := glob0, proc := procTab [], lproc := lprocTab [(0, token_digits.p0.lp)], n0 := 0, ntmps := 27 }
theorem token_digits.ok : ProcsOk token_digits.E := AllSound.ok (l := []) (by kernel_rfl) rfl trivial
noncomputable def token_digits.body0 : Code := (match Tryz.f104.body with | some c => c | none => .skip)
noncomputable def token_digits.p0.c : Code := ((codeAt token_digits.body0 [.r, .l, .r, .b, .b]).getD .skip)
noncomputable def token_digits.p0.ann : Ann := .z
set_option maxRecDepth 100000 in
theorem token_digits.p0.eq (x : Tup token_digits.p0.inS) : peRound token_digits.E token_digits.p0.c token_digits.p0.ann _ token_digits.p0.inS token_digits.p0.un token_digits.p0.outs x = token_digits.p0.step (token_digits.p0.un x) := by
  kernel_rfl
set_option maxRecDepth 100000 in
theorem token_digits.p0.sound : LProcSound token_digits.E (.loop token_digits.p0.c) token_digits.p0.lp :=
  loop_sound (c := token_digits.p0.c) (ann := token_digits.p0.ann) token_digits.ok ((SubsOk_z _ _) : SubsOk token_digits.E token_digits.p0.c token_digits.p0.ann) (by intro a ha; simp only [token_digits.p0.outs, List.mem_cons, List.not_mem_nil, or_false] at ha; rcases ha with rfl | rfl <;> exact fun _ => rfl) token_digits.p0.eq
noncomputable def token_digits.ann : Ann := .s (.z) (.s (.s (.z) (.b (.sub 0))) (.z))
set_option maxRecDepth 100000 in
theorem token_digits.eq (x : Tup token_digits.p.inS) : peFn token_digits.E Tryz.f104 token_digits.ann token_digits.p x = token_digits.p.F x := by
  have h : peFn token_digits.E Tryz.f104 token_digits.ann token_digits.p x = token_digits.F0 x.1.1 x.1.2.1 := by kernel_rfl
  exact h.trans (by show _ = token_digits.F x.1.1 x.1.2.1; rw [token_digits.F_eq])
set_option maxRecDepth 100000 in
theorem token_digits.sound : ProcSound Tryz.prog glob0 104 token_digits.p :=
  fn_sound (E := token_digits.E) (c := token_digits.body0) (ann := token_digits.ann) token_digits.ok Tryz.func104 (of_decide_eq_true (by kernel_rfl)) rfl rfl rfl (by decide +kernel) (⟨(SubsOk_z _ _), ⟨⟨(SubsOk_z _ _), (sub_of rfl token_digits.p0.sound)⟩, (SubsOk_z _ _)⟩⟩ : SubsOk token_digits.E token_digits.body0 token_digits.ann) (fun _ => rfl) rfl token_digits.eq

/-! ### armplan/token.signed: function 106 -/
noncomputable def token_signed.F0 (a0 : Int) (a1 : Bool) : Option (Int) :=
  (bif a1 then some (IntKind.wrap .i64 (0 - a0)) else some a0)
noncomputable def token_signed.F : Int → Bool → Option (Int) := lock token_signed.F0
theorem token_signed.F_eq : token_signed.F = token_signed.F0 := lock_eq _
noncomputable def token_signed.p : Proc := { nargs := 2, inS := ⟨[(0, .lf (.sc (.int .i64))), (1, .lf (.sc .bool))], []⟩, outS := ⟨[(0, .lf (.sc (.int .i64)))], []⟩, n0 := 0, R := Int, F := fun x => token_signed.F x.1.1 x.1.2.1, post := fun r => ((r, ()), ()), un := fun x => x.1.1 }
noncomputable def token_signed.E : Env := { P := Tryz.prog, ty := tyTab [], glob := glob0, proc := procTab [], lproc := lprocTab [], n0 := 0, ntmps := 9 }
theorem token_signed.ok : ProcsOk token_signed.E := AllSound.ok (l := []) (by kernel_rfl) rfl trivial
noncomputable def token_signed.body0 : Code := (match Tryz.f106.body with | some c => c | none => .skip)
noncomputable def token_signed.ann : Ann := .z
set_option maxRecDepth 100000 in
theorem token_signed.eq (x : Tup token_signed.p.inS) : peFn token_signed.E Tryz.f106 token_signed.ann token_signed.p x = token_signed.p.F x := by
  have h : peFn token_signed.E Tryz.f106 token_signed.ann token_signed.p x = token_signed.F0 x.1.1 x.1.2.1 := by kernel_rfl
  exact h.trans (by show _ = token_signed.F x.1.1 x.1.2.1; rw [token_signed.F_eq])
set_option maxRecDepth 100000 in
theorem token_signed.sound : ProcSound Tryz.prog glob0 106 token_signed.p :=
  fn_sound (E := token_signed.E) (c := token_signed.body0) (ann := token_signed.ann) token_signed.ok Tryz.func106 (of_decide_eq_true (by kernel_rfl)) rfl rfl rfl (by decide +kernel) ((SubsOk_z _ _) : SubsOk token_signed.E token_signed.body0 token_signed.ann) (fun _ => rfl) rfl token_signed.eq

/-! ### internal/stringslite.Cut: function 120 -/
noncomputable def stringslite_Cut.F0 (a0 : ByteArray) (a1 : ByteArray) : Option (ByteArray × ByteArray × Bool) :=
  ((libIndex.F a0 a1).bind fun r1 => (bif decide (r1 ≥ (0 : Int)) then (bif decide (0 ≤ r1) then (bif decide (r1 ≤ (a0.size : Int)) then (bif decide (0 ≤ (IntKind.wrap .i64 (r1 + (a1.size : Int)))) then (bif decide ((IntKind.wrap .i64 (r1 + (a1.size : Int))) ≤ (a0.size : Int)) then some ((a0.extract 0 r1.toNat), (a0.extract (IntKind.wrap .i64 (r1 + (a1.size : Int))).toNat a0.size), true) else none) else none) else none) else none) else some (a0, (⟨#[]⟩ : ByteArray), false)))
noncomputable def stringslite_Cut.F : ByteArray → ByteArray → Option (ByteArray × ByteArray × Bool) := lock stringslite_Cut.F0
theorem stringslite_Cut.F_eq : stringslite_Cut.F = stringslite_Cut.F0 := lock_eq _
noncomputable def stringslite_Cut.p : Proc := { nargs := 2, inS := ⟨[(0, .lf (.sc .str)), (1, .lf (.sc .str))], []⟩, outS := ⟨[(0, .lf (.sc .str)), (1, .lf (.sc .str)), (2, .lf (.sc .bool))], []⟩, n0 := 0, R := ByteArray × ByteArray × Bool, F := fun x => stringslite_Cut.F x.1.1 x.1.2.1, post := fun r => ((r.1, (r.2.1, (r.2.2, ()))), ()), un := fun x => (x.1.1, x.1.2.1, x.1.2.2.1) }
noncomputable def stringslite_Cut.E : Env := { P := Tryz.prog, ty := tyTab [], glob := glob0, proc := procTab [(133, lib_Index.p)], lproc := lprocTab [], n0 := 0, ntmps := 23 }
theorem stringslite_Cut.ok : ProcsOk stringslite_Cut.E := AllSound.ok (l := [(133, lib_Index.p)]) (by kernel_rfl) rfl ⟨lib_Index.sound, trivial⟩
noncomputable def stringslite_Cut.body0 : Code := (match Tryz.f120.body with | some c => c | none => .skip)
noncomputable def stringslite_Cut.ann : Ann := .z
set_option maxRecDepth 100000 in
theorem stringslite_Cut.eq (x : Tup stringslite_Cut.p.inS) : peFn stringslite_Cut.E Tryz.f120 stringslite_Cut.ann stringslite_Cut.p x = stringslite_Cut.p.F x := by
  have h : peFn stringslite_Cut.E Tryz.f120 stringslite_Cut.ann stringslite_Cut.p x = stringslite_Cut.F0 x.1.1 x.1.2.1 := by kernel_rfl
  exact h.trans (by show _ = stringslite_Cut.F x.1.1 x.1.2.1; rw [stringslite_Cut.F_eq])
set_option maxRecDepth 100000 in
theorem stringslite_Cut.sound : ProcSound Tryz.prog glob0 120 stringslite_Cut.p :=
  fn_sound (E := stringslite_Cut.E) (c := stringslite_Cut.body0) (ann := stringslite_Cut.ann) stringslite_Cut.ok Tryz.func120 (of_decide_eq_true (by kernel_rfl)) rfl rfl rfl (by decide +kernel) ((SubsOk_z _ _) : SubsOk stringslite_Cut.E stringslite_Cut.body0 stringslite_Cut.ann) (fun _ => rfl) rfl stringslite_Cut.eq

/-! ### armplan/armplanmake.SameRobot: function 17 -/
noncomputable def armplanmake_SameRobot.F0 (a0 : List ((ByteArray × (Int × (Int × ((Int × (Int × Int)) × (Int × (Int × (Int × (Int × (Int × Int))))))))))) (a1 : List ((Int × (Int × (Int × (Int × Int)))))) (a2 : List ((ByteArray × (Int × (Int × ((Int × (Int × Int)) × (Int × (Int × (Int × (Int × (Int × Int))))))))))) (a3 : List ((Int × (Int × (Int × (Int × Int)))))) : Option (Bool) :=
  ((armplanmake_Same_Joint.F a0 a2).bind fun r1 => (bif r1 then ((armplanmake_Same_Mass.F a1 a3).bind fun r2 => some r2) else some false))
noncomputable def armplanmake_SameRobot.F : (List ((ByteArray × (Int × (Int × ((Int × (Int × Int)) × (Int × (Int × (Int × (Int × (Int × Int))))))))))) → (List ((Int × (Int × (Int × (Int × Int)))))) → (List ((ByteArray × (Int × (Int × ((Int × (Int × Int)) × (Int × (Int × (Int × (Int × (Int × Int))))))))))) → (List ((Int × (Int × (Int × (Int × Int)))))) → Option (Bool) := lock armplanmake_SameRobot.F0
theorem armplanmake_SameRobot.F_eq : armplanmake_SameRobot.F = armplanmake_SameRobot.F0 := lock_eq _
noncomputable def armplanmake_SameRobot.p : Proc := { nargs := 2, inS := ⟨[(0, .ag [.dat (.pair .str (.pair (.int .i64) (.pair (.int .i64) (.pair (.pair (.int .i64) (.pair (.int .i64) (.int .i64))) (.pair (.int .i64) (.pair (.int .i64) (.pair (.int .i64) (.pair (.int .i64) (.pair (.int .i64) (.int .i64)))))))))), .dat (.pair (.int .i64) (.pair (.int .i64) (.pair (.int .i64) (.pair (.int .i64) (.int .i64)))))]), (1, .ag [.dat (.pair .str (.pair (.int .i64) (.pair (.int .i64) (.pair (.pair (.int .i64) (.pair (.int .i64) (.int .i64))) (.pair (.int .i64) (.pair (.int .i64) (.pair (.int .i64) (.pair (.int .i64) (.pair (.int .i64) (.int .i64)))))))))), .dat (.pair (.int .i64) (.pair (.int .i64) (.pair (.int .i64) (.pair (.int .i64) (.int .i64)))))])], []⟩, outS := ⟨[(0, .lf (.sc .bool))], []⟩, n0 := 0, R := Bool, F := fun x => armplanmake_SameRobot.F x.1.1.1 x.1.1.2.1 x.1.2.1.1 x.1.2.1.2.1, post := fun r => ((r, ()), ()), un := fun x => x.1.1 }
noncomputable def armplanmake_SameRobot.E : Env := { P := Tryz.prog, ty := tyTab [], glob := glob0, proc := procTab [(47, armplanmake_Same_Joint.p), (48, armplanmake_Same_Mass.p)], lproc := lprocTab [], n0 := 0, ntmps := 17 }
theorem armplanmake_SameRobot.ok : ProcsOk armplanmake_SameRobot.E := AllSound.ok (l := [(47, armplanmake_Same_Joint.p), (48, armplanmake_Same_Mass.p)]) (by kernel_rfl) rfl ⟨armplanmake_Same_Joint.sound, armplanmake_Same_Mass.sound, trivial⟩
noncomputable def armplanmake_SameRobot.body0 : Code := (match Tryz.f17.body with | some c => c | none => .skip)
noncomputable def armplanmake_SameRobot.ann : Ann := .z
set_option maxRecDepth 100000 in
theorem armplanmake_SameRobot.eq (x : Tup armplanmake_SameRobot.p.inS) : peFn armplanmake_SameRobot.E Tryz.f17 armplanmake_SameRobot.ann armplanmake_SameRobot.p x = armplanmake_SameRobot.p.F x := by
  have h : peFn armplanmake_SameRobot.E Tryz.f17 armplanmake_SameRobot.ann armplanmake_SameRobot.p x = armplanmake_SameRobot.F0 x.1.1.1 x.1.1.2.1 x.1.2.1.1 x.1.2.1.2.1 := by kernel_rfl
  exact h.trans (by show _ = armplanmake_SameRobot.F x.1.1.1 x.1.1.2.1 x.1.2.1.1 x.1.2.1.2.1; rw [armplanmake_SameRobot.F_eq])
set_option maxRecDepth 100000 in
theorem armplanmake_SameRobot.sound : ProcSound Tryz.prog glob0 17 armplanmake_SameRobot.p :=
  fn_sound (E := armplanmake_SameRobot.E) (c := armplanmake_SameRobot.body0) (ann := armplanmake_SameRobot.ann) armplanmake_SameRobot.ok Tryz.func17 (of_decide_eq_true (by kernel_rfl)) rfl rfl rfl (by decide +kernel) ((SubsOk_z _ _) : SubsOk armplanmake_SameRobot.E armplanmake_SameRobot.body0 armplanmake_SameRobot.ann) (fun _ => rfl) rfl armplanmake_SameRobot.eq

/-! ### armplan/robot.Find: function 29 -/
noncomputable def robot_Find.F0 (a0 : List ((ByteArray × (Int × (Int × ((Int × (Int × Int)) × (Int × (Int × (Int × (Int × (Int × Int))))))))))) (a1 : List ((Int × (Int × (Int × (Int × Int)))))) (a2 : ByteArray) : Option (Int) :=
  ((robot_place.F a0 a2).bind fun r1 => some r1)
noncomputable def robot_Find.F : (List ((ByteArray × (Int × (Int × ((Int × (Int × Int)) × (Int × (Int × (Int × (Int × (Int × Int))))))))))) → (List ((Int × (Int × (Int × (Int × Int)))))) → ByteArray → Option (Int) := lock robot_Find.F0
theorem robot_Find.F_eq : robot_Find.F = robot_Find.F0 := lock_eq _
noncomputable def robot_Find.p : Proc := { nargs := 2, inS := ⟨[(0, .ag [.dat (.pair .str (.pair (.int .i64) (.pair (.int .i64) (.pair (.pair (.int .i64) (.pair (.int .i64) (.int .i64))) (.pair (.int .i64) (.pair (.int .i64) (.pair (.int .i64) (.pair (.int .i64) (.pair (.int .i64) (.int .i64)))))))))), .dat (.pair (.int .i64) (.pair (.int .i64) (.pair (.int .i64) (.pair (.int .i64) (.int .i64)))))]), (1, .lf (.sc .str))], []⟩, outS := ⟨[(0, .lf (.sc (.int .i64)))], []⟩, n0 := 0, R := Int, F := fun x => robot_Find.F x.1.1.1 x.1.1.2.1 x.1.2.1, post := fun r => ((r, ()), ()), un := fun x => x.1.1 }
noncomputable def robot_Find.E : Env := { P := Tryz.prog, ty := tyTab [], glob := glob0, proc := procTab [(56, robot_place.p)], lproc := lprocTab [], n0 := 0, ntmps := 9 }
theorem robot_Find.ok : ProcsOk robot_Find.E := AllSound.ok (l := [(56, robot_place.p)]) (by kernel_rfl) rfl ⟨robot_place.sound, trivial⟩
noncomputable def robot_Find.body0 : Code := (match Tryz.f29.body with | some c => c | none => .skip)
noncomputable def robot_Find.ann : Ann := .z
set_option maxRecDepth 100000 in
theorem robot_Find.eq (x : Tup robot_Find.p.inS) : peFn robot_Find.E Tryz.f29 robot_Find.ann robot_Find.p x = robot_Find.p.F x := by
  have h : peFn robot_Find.E Tryz.f29 robot_Find.ann robot_Find.p x = robot_Find.F0 x.1.1.1 x.1.1.2.1 x.1.2.1 := by kernel_rfl
  exact h.trans (by show _ = robot_Find.F x.1.1.1 x.1.1.2.1 x.1.2.1; rw [robot_Find.F_eq])
set_option maxRecDepth 100000 in
theorem robot_Find.sound : ProcSound Tryz.prog glob0 29 robot_Find.p :=
  fn_sound (E := robot_Find.E) (c := robot_Find.body0) (ann := robot_Find.ann) robot_Find.ok Tryz.func29 (of_decide_eq_true (by kernel_rfl)) rfl rfl rfl (by decide +kernel) ((SubsOk_z _ _) : SubsOk robot_Find.E robot_Find.body0 robot_Find.ann) (fun _ => rfl) rfl robot_Find.eq

/-! ### armplan/armplanref6.checkJoint: function 40 -/
noncomputable def armplanref6_checkJoint.p0.round (v0 : List ((ByteArray × (Int × (Int × ((Int × (Int × Int)) × (Int × (Int × (Int × (Int × (Int × Int))))))))))) (v1 : Int) (v2 : Int) (v3 : ByteArray) (v4 : Int) (v5 : Int) (v6 : Int) (v7 : Int) (v8 : Int) (v9 : Int) (v10 : Int) (v11 : Int) (v12 : Int) (v13 : Int) (v14 : Int) : Option ((List ((ByteArray × (Int × (Int × ((Int × (Int × Int)) × (Int × (Int × (Int × (Int × (Int × Int)))))))))) × Int × Int × ByteArray × Int × Int × Int × Int × Int × Int × Int × Int × Int × Int × Int) ⊕ ((Int) ⊕ (Int × ByteArray × Int × Int × Int × Int × Int × Int × Int × Int × Int × Int × Int))) :=
  (bif decide (v2 < v1) then (bif decide (0 ≤ v2) then (bif decide (v2 < (v0.length : Int)) then (bif (eqS (v0.getD v2.toNat ((⟨#[]⟩ : ByteArray), ((0 : Int), ((0 : Int), (((0 : Int), ((0 : Int), (0 : Int))), ((0 : Int), ((0 : Int), ((0 : Int), ((0 : Int), ((0 : Int), (0 : Int))))))))))).1 v3) then some (.inr (.inl (802 : Int))) else some (.inl (v0, v1, (IntKind.wrap .i64 (v2 + (1 : Int))), v3, v4, v5, v6, v7, v8, v9, v10, v11, v12, v13, v14))) else none) else none) else some (.inr (.inr (v1, v3, v4, v5, v6, v7, v8, v9, v10, v11, v12, v13, v14))))
noncomputable def armplanref6_checkJoint.p0.step (s : List ((ByteArray × (Int × (Int × ((Int × (Int × Int)) × (Int × (Int × (Int × (Int × (Int × Int)))))))))) × Int × Int × ByteArray × Int × Int × Int × Int × Int × Int × Int × Int × Int × Int × Int) : Option ((List ((ByteArray × (Int × (Int × ((Int × (Int × Int)) × (Int × (Int × (Int × (Int × (Int × Int)))))))))) × Int × Int × ByteArray × Int × Int × Int × Int × Int × Int × Int × Int × Int × Int × Int) ⊕ ((Int) ⊕ (Int × ByteArray × Int × Int × Int × Int × Int × Int × Int × Int × Int × Int × Int))) := armplanref6_checkJoint.p0.round s.1 s.2.1 s.2.2.1 s.2.2.2.1 s.2.2.2.2.1 s.2.2.2.2.2.1 s.2.2.2.2.2.2.1 s.2.2.2.2.2.2.2.1 s.2.2.2.2.2.2.2.2.1 s.2.2.2.2.2.2.2.2.2.1 s.2.2.2.2.2.2.2.2.2.2.1 s.2.2.2.2.2.2.2.2.2.2.2.1 s.2.2.2.2.2.2.2.2.2.2.2.2.1 s.2.2.2.2.2.2.2.2.2.2.2.2.2.1 s.2.2.2.2.2.2.2.2.2.2.2.2.2.2
noncomputable def armplanref6_checkJoint.p0.inS : Shape := ⟨[(0, .lf (.dat (.pair .str (.pair (.int .i64) (.pair (.int .i64) (.pair (.pair (.int .i64) (.pair (.int .i64) (.int .i64))) (.pair (.int .i64) (.pair (.int .i64) (.pair (.int .i64) (.pair (.int .i64) (.pair (.int .i64) (.int .i64)))))))))))), (1, .lf (.sc (.int .i64))), (5, .lf (.bp 0 0)), (6, .lf (.sc (.int .i64)))], [.box [.sc .str, .sc (.int .i64), .sc (.int .i64), .sc (.int .i64), .sc (.int .i64), .sc (.int .i64), .sc (.int .i64), .sc (.int .i64), .sc (.int .i64), .sc (.int .i64), .sc (.int .i64), .sc (.int .i64)]]⟩
noncomputable def armplanref6_checkJoint.p0.w0 : Way := { ex := .rt, S := ⟨[(4, .lf (.sc (.int .i64)))], []⟩, R := Int, post := fun r => ((r, ()), ()), un := fun x => x.1.1 }
noncomputable def armplanref6_checkJoint.p0.w1 : Way := { ex := (.ex 0), S := ⟨[(1, .lf (.sc (.int .i64))), (5, .lf (.bp 0 0))], [.box [.sc .str, .sc (.int .i64), .sc (.int .i64), .sc (.int .i64), .sc (.int .i64), .sc (.int .i64), .sc (.int .i64), .sc (.int .i64), .sc (.int .i64), .sc (.int .i64), .sc (.int .i64), .sc (.int .i64)]]⟩, R := Int × ByteArray × Int × Int × Int × Int × Int × Int × Int × Int × Int × Int × Int, post := fun r => ((r.1, ((), ())), ((r.2.1, (r.2.2.1, (r.2.2.2.1, (r.2.2.2.2.1, (r.2.2.2.2.2.1, (r.2.2.2.2.2.2.1, (r.2.2.2.2.2.2.2.1, (r.2.2.2.2.2.2.2.2.1, (r.2.2.2.2.2.2.2.2.2.1, (r.2.2.2.2.2.2.2.2.2.2.1, (r.2.2.2.2.2.2.2.2.2.2.2.1, (r.2.2.2.2.2.2.2.2.2.2.2.2, ())))))))))))), ())), un := fun x => (x.1.1, x.2.1.1, x.2.1.2.1, x.2.1.2.2.1, x.2.1.2.2.2.1, x.2.1.2.2.2.2.1, x.2.1.2.2.2.2.2.1, x.2.1.2.2.2.2.2.2.1, x.2.1.2.2.2.2.2.2.2.1, x.2.1.2.2.2.2.2.2.2.2.1, x.2.1.2.2.2.2.2.2.2.2.2.1, x.2.1.2.2.2.2.2.2.2.2.2.2.1, x.2.1.2.2.2.2.2.2.2.2.2.2.2.1) }
noncomputable def armplanref6_checkJoint.p0.outs : List Way := [armplanref6_checkJoint.p0.w0, armplanref6_checkJoint.p0.w1]
noncomputable def armplanref6_checkJoint.p0.un (x : Tup armplanref6_checkJoint.p0.inS) : List ((ByteArray × (Int × (Int × ((Int × (Int × Int)) × (Int × (Int × (Int × (Int × (Int × Int)))))))))) × Int × Int × ByteArray × Int × Int × Int × Int × Int × Int × Int × Int × Int × Int × Int := (x.1.1, x.1.2.1, x.1.2.2.2.1, x.2.1.1, x.2.1.2.1, x.2.1.2.2.1, x.2.1.2.2.2.1, x.2.1.2.2.2.2.1, x.2.1.2.2.2.2.2.1, x.2.1.2.2.2.2.2.2.1, x.2.1.2.2.2.2.2.2.2.1, x.2.1.2.2.2.2.2.2.2.2.1, x.2.1.2.2.2.2.2.2.2.2.2.1, x.2.1.2.2.2.2.2.2.2.2.2.2.1, x.2.1.2.2.2.2.2.2.2.2.2.2.2.1)
noncomputable def armplanref6_checkJoint.p0.lp : LProc := { inS := armplanref6_checkJoint.p0.inS, outs := armplanref6_checkJoint.p0.outs, F := fun x => loopF armplanref6_checkJoint.p0.step (armplanref6_checkJoint.p0.un x) }
noncomputable def armplanref6_checkJoint.F0 (a0 : List ((ByteArray × (Int × (Int × ((Int × (Int × Int)) × (Int × (Int × (Int × (Int × (Int × Int))))))))))) (a1 : Int) : Option (Int) :=
  (bif decide (0 ≤ a1) then (bif decide (a1 < (a0.length : Int)) then ((armplanref6_Name.F (a0.getD a1.toNat ((⟨#[]⟩ : ByteArray), ((0 : Int), ((0 : Int), (((0 : Int), ((0 : Int), (0 : Int))), ((0 : Int), ((0 : Int), ((0 : Int), ((0 : Int), ((0 : Int), (0 : Int))))))))))).1).bind fun r1 => (bif (!r1) then some (802 : Int) else ((loopF armplanref6_checkJoint.p0.step (a0, a1, (0 : Int), (a0.getD a1.toNat ((⟨#[]⟩ : ByteArray), ((0 : Int), ((0 : Int), (((0 : Int), ((0 : Int), (0 : Int))), ((0 : Int), ((0 : Int), ((0 : Int), ((0 : Int), ((0 : Int), (0 : Int))))))))))).1, ((a0.getD a1.toNat ((⟨#[]⟩ : ByteArray), ((0 : Int), ((0 : Int), (((0 : Int), ((0 : Int), (0 : Int))), ((0 : Int), ((0 : Int), ((0 : Int), ((0 : Int), ((0 : Int), (0 : Int))))))))))).2).1, (((a0.getD a1.toNat ((⟨#[]⟩ : ByteArray), ((0 : Int), ((0 : Int), (((0 : Int), ((0 : Int), (0 : Int))), ((0 : Int), ((0 : Int), ((0 : Int), ((0 : Int), ((0 : Int), (0 : Int))))))))))).2).2).1, (((((a0.getD a1.toNat ((⟨#[]⟩ : ByteArray), ((0 : Int), ((0 : Int), (((0 : Int), ((0 : Int), (0 : Int))), ((0 : Int), ((0 : Int), ((0 : Int), ((0 : Int), ((0 : Int), (0 : Int))))))))))).2).2).2).1).1, ((((((a0.getD a1.toNat ((⟨#[]⟩ : ByteArray), ((0 : Int), ((0 : Int), (((0 : Int), ((0 : Int), (0 : Int))), ((0 : Int), ((0 : Int), ((0 : Int), ((0 : Int), ((0 : Int), (0 : Int))))))))))).2).2).2).1).2).1, ((((((a0.getD a1.toNat ((⟨#[]⟩ : ByteArray), ((0 : Int), ((0 : Int), (((0 : Int), ((0 : Int), (0 : Int))), ((0 : Int), ((0 : Int), ((0 : Int), ((0 : Int), ((0 : Int), (0 : Int))))))))))).2).2).2).1).2).2, (((((a0.getD a1.toNat ((⟨#[]⟩ : ByteArray), ((0 : Int), ((0 : Int), (((0 : Int), ((0 : Int), (0 : Int))), ((0 : Int), ((0 : Int), ((0 : Int), ((0 : Int), ((0 : Int), (0 : Int))))))))))).2).2).2).2).1, ((((((a0.getD a1.toNat ((⟨#[]⟩ : ByteArray), ((0 : Int), ((0 : Int), (((0 : Int), ((0 : Int), (0 : Int))), ((0 : Int), ((0 : Int), ((0 : Int), ((0 : Int), ((0 : Int), (0 : Int))))))))))).2).2).2).2).2).1, (((((((a0.getD a1.toNat ((⟨#[]⟩ : ByteArray), ((0 : Int), ((0 : Int), (((0 : Int), ((0 : Int), (0 : Int))), ((0 : Int), ((0 : Int), ((0 : Int), ((0 : Int), ((0 : Int), (0 : Int))))))))))).2).2).2).2).2).2).1, ((((((((a0.getD a1.toNat ((⟨#[]⟩ : ByteArray), ((0 : Int), ((0 : Int), (((0 : Int), ((0 : Int), (0 : Int))), ((0 : Int), ((0 : Int), ((0 : Int), ((0 : Int), ((0 : Int), (0 : Int))))))))))).2).2).2).2).2).2).2).1, (((((((((a0.getD a1.toNat ((⟨#[]⟩ : ByteArray), ((0 : Int), ((0 : Int), (((0 : Int), ((0 : Int), (0 : Int))), ((0 : Int), ((0 : Int), ((0 : Int), ((0 : Int), ((0 : Int), (0 : Int))))))))))).2).2).2).2).2).2).2).2).1, (((((((((a0.getD a1.toNat ((⟨#[]⟩ : ByteArray), ((0 : Int), ((0 : Int), (((0 : Int), ((0 : Int), (0 : Int))), ((0 : Int), ((0 : Int), ((0 : Int), ((0 : Int), ((0 : Int), (0 : Int))))))))))).2).2).2).2).2).2).2).2).2)).bind fun y2 => (Sum.elim (fun y3 => some y3) (fun z4 => (bif decide (z4.2.2.1 < (0 : Int)) then some (803 : Int) else (bif decide (z4.2.2.1 > (6 : Int)) then some (803 : Int) else (bif decide (z4.2.2.2.1 < (-1 : Int)) then some (804 : Int) else (bif decide (z4.2.2.2.1 ≥ z4.1) then some (804 : Int) else ((armplanref6_Near.F z4.2.2.2.2.1 z4.2.2.2.2.2.1 z4.2.2.2.2.2.2.1 (4194304 : Int)).bind fun r5 => (bif (!r5) then some (805 : Int) else ((armplanref6_reach.F z4.2.2.1).bind fun r6 => (bif decide (z4.2.2.2.2.2.2.2.1 > z4.2.2.2.2.2.2.2.2.1) then some (806 : Int) else (bif decide (z4.2.2.2.2.2.2.2.1 < (IntKind.wrap .i64 (0 - r6))) then some (806 : Int) else (bif decide (z4.2.2.2.2.2.2.2.2.1 > r6) then some (806 : Int) else ((armplanref6_between.F z4.2.2.2.2.2.2.2.2.2.1 (1 : Int) (1024 : Int)).bind fun r7 => (bif (!r7) then some (807 : Int) else ((armplanref6_between.F z4.2.2.2.2.2.2.2.2.2.2.1 (1 : Int) (1048576 : Int)).bind fun r8 => (bif (!r8) then some (807 : Int) else ((armplanref6_between.F z4.2.2.2.2.2.2.2.2.2.2.2.1 (1 : Int) (1048576 : Int)).bind fun r9 => (bif (!r9) then some (807 : Int) else ((armplanref6_between.F z4.2.2.2.2.2.2.2.2.2.2.2.2 (1 : Int) (1099511627776 : Int)).bind fun r10 => (bif (!r10) then some (807 : Int) else some (0 : Int)))))))))))))))))))) y2)))) else none) else none)
noncomputable def armplanref6_checkJoint.F : (List ((ByteArray × (Int × (Int × ((Int × (Int × Int)) × (Int × (Int × (Int × (Int × (Int × Int))))))))))) → Int → Option (Int) := lock armplanref6_checkJoint.F0
theorem armplanref6_checkJoint.F_eq : armplanref6_checkJoint.F = armplanref6_checkJoint.F0 := lock_eq _
noncomputable def armplanref6_checkJoint.p : Proc := { nargs := 2, inS := ⟨[(0, .lf (.dat (.pair .str (.pair (.int .i64) (.pair (.int .i64) (.pair (.pair (.int .i64) (.pair (.int .i64) (.int .i64))) (.pair (.int .i64) (.pair (.int .i64) (.pair (.int .i64) (.pair (.int .i64) (.pair (.int .i64) (.int .i64)))))))))))), (1, .lf (.sc (.int .i64)))], []⟩, outS := ⟨[(0, .lf (.sc (.int .i64)))], []⟩, n0 := 0, R := Int, F := fun x => armplanref6_checkJoint.F x.1.1 x.1.2.1, post := fun r => ((r, ()), ()), un := fun x => x.1.1 }
noncomputable def armplanref6_checkJoint.E : Env := { P := Tryz.prog, ty := tyTab [], glob := glob0, proc := procTab [(66, armplanref6_Name.p), (42, armplanref6_Near.p), (67, armplanref6_reach.p), (41, armplanref6_between.p)], lproc := lprocTab [(0, armplanref6_checkJoint.p0.lp)], n0 := 0, ntmps := 93 }
theorem armplanref6_checkJoint.ok : ProcsOk armplanref6_checkJoint.E := AllSound.ok (l := [(66, armplanref6_Name.p), (42, armplanref6_Near.p), (67, armplanref6_reach.p), (41, armplanref6_between.p)]) (by kernel_rfl) rfl ⟨armplanref6_Name.sound, armplanref6_Near.sound, armplanref6_reach.sound, armplanref6_between.sound, trivial⟩
noncomputable def armplanref6_checkJoint.body0 : Code := (match Tryz.f40.body with | some c => c | none => .skip)
noncomputable def armplanref6_checkJoint.p0.c : Code := ((codeAt armplanref6_checkJoint.body0 [.r, .r, .r, .l, .r, .b, .b]).getD .skip)
noncomputable def armplanref6_checkJoint.p0.ann : Ann := .z
set_option maxRecDepth 100000 in
theorem armplanref6_checkJoint.p0.eq (x : Tup armplanref6_checkJoint.p0.inS) : peRound armplanref6_checkJoint.E armplanref6_checkJoint.p0.c armplanref6_checkJoint.p0.ann _ armplanref6_checkJoint.p0.inS armplanref6_checkJoint.p0.un armplanref6_checkJoint.p0.outs x = armplanref6_checkJoint.p0.step (armplanref6_checkJoint.p0.un x) := by
  kernel_rfl
set_option maxRecDepth 100000 in
theorem armplanref6_checkJoint.p0.sound : LProcSound armplanref6_checkJoint.E (.loop armplanref6_checkJoint.p0.c) armplanref6_checkJoint.p0.lp :=
  loop_sound (c := armplanref6_checkJoint.p0.c) (ann := armplanref6_checkJoint.p0.ann) armplanref6_checkJoint.ok ((SubsOk_z _ _) : SubsOk armplanref6_checkJoint.E armplanref6_checkJoint.p0.c armplanref6_checkJoint.p0.ann) (by intro a ha; simp only [armplanref6_checkJoint.p0.outs, List.mem_cons, List.not_mem_nil, or_false] at ha; rcases ha with rfl | rfl <;> exact fun _ => rfl) armplanref6_checkJoint.p0.eq
noncomputable def armplanref6_checkJoint.ann : Ann := .s (.z) (.s (.z) (.s (.z) (.s (.s (.z) (.b (.sub 0))) (.z))))
set_option maxRecDepth 100000 in
theorem armplanref6_checkJoint.eq (x : Tup armplanref6_checkJoint.p.inS) : peFn armplanref6_checkJoint.E Tryz.f40 armplanref6_checkJoint.ann armplanref6_checkJoint.p x = armplanref6_checkJoint.p.F x := by
  have h : peFn armplanref6_checkJoint.E Tryz.f40 armplanref6_checkJoint.ann armplanref6_checkJoint.p x = armplanref6_checkJoint.F0 x.1.1 x.1.2.1 := by kernel_rfl
  exact h.trans (by show _ = armplanref6_checkJoint.F x.1.1 x.1.2.1; rw [armplanref6_checkJoint.F_eq])
set_option maxRecDepth 100000 in
theorem armplanref6_checkJoint.sound : ProcSound Tryz.prog glob0 40 armplanref6_checkJoint.p :=
  fn_sound (E := armplanref6_checkJoint.E) (c := armplanref6_checkJoint.body0) (ann := armplanref6_checkJoint.ann) armplanref6_checkJoint.ok Tryz.func40 (of_decide_eq_true (by kernel_rfl)) rfl rfl rfl (by decide +kernel) (⟨(SubsOk_z _ _), ⟨(SubsOk_z _ _), ⟨(SubsOk_z _ _), ⟨⟨(SubsOk_z _ _), (sub_of rfl armplanref6_checkJoint.p0.sound)⟩, (SubsOk_z _ _)⟩⟩⟩⟩ : SubsOk armplanref6_checkJoint.E armplanref6_checkJoint.body0 armplanref6_checkJoint.ann) (fun _ => rfl) rfl armplanref6_checkJoint.eq

/-! ### armplan/armplanmake.joint: function 52 -/
noncomputable def armplanmake_joint.F0 (a0 : Int) (a1 : List (Int)) (a2 : Int) : Option (ByteArray × Int × Int × Int × Int × Int × Int × Int × Int × Int × Int × Int × List (Int) × Int) :=
  ((armplanmake_letter.F a0).bind fun r1 => ((armplanmake_Source_Next.F (4 : Int) a1 a2).bind fun r2 => ((armplanmake_Source_Next.F (3 : Int) r2.2.1 r2.2.2).bind fun r3 => ((armplanmake_Source_Next.F (8 : Int) r3.2.1 r3.2.2).bind fun r4 => (bif decide (0 ≤ r4.1) then (bif decide (r4.1 < (8 : Int)) then ((armplanmake_Source_Next.F (4 : Int) r4.2.1 r4.2.2).bind fun r5 => (bif (r5.1 == (1 : Int)) then (bif decide (a0 > (0 : Int)) then ((armplanmake_Source_Signed.F (2 : Int) r5.2.1 r5.2.2).bind fun r6 => ((armplanmake_Source_Signed.F (1 : Int) r6.2.1 r6.2.2).bind fun r7 => (bif ((([(3 : Int), (3 : Int), (1 : Int), (2 : Int), (4 : Int), (5 : Int), (3 : Int), (0 : Int)] : List Int).getD r4.1.toNat 0) == (0 : Int)) then some (r1, (([(3 : Int), (3 : Int), (1 : Int), (2 : Int), (4 : Int), (5 : Int), (3 : Int), (0 : Int)] : List Int).getD r4.1.toNat 0), (-1 : Int), (131072 : Int), (IntKind.wrap .i64 (r6.1 * (32768 : Int))), (IntKind.wrap .i64 (r7.1 * (32768 : Int))), (0 : Int), (0 : Int), (IntKind.wrap .i64 ((1 : Int) + r2.1)), (65536 : Int), (IntKind.wrap .i64 ((65536 : Int) + r3.1)), (327680 : Int), r7.2.1, r7.2.2) else (bif ((([(3 : Int), (3 : Int), (1 : Int), (2 : Int), (4 : Int), (5 : Int), (3 : Int), (0 : Int)] : List Int).getD r4.1.toNat 0) == (4 : Int)) then ((armplanmake_Source_Next.F (3 : Int) r7.2.1 r7.2.2).bind fun r8 => ((armplanmake_Source_Next.F (4 : Int) r8.2.1 r8.2.2).bind fun r9 => some (r1, (([(3 : Int), (3 : Int), (1 : Int), (2 : Int), (4 : Int), (5 : Int), (3 : Int), (0 : Int)] : List Int).getD r4.1.toNat 0), (-1 : Int), (131072 : Int), (IntKind.wrap .i64 (r6.1 * (32768 : Int))), (IntKind.wrap .i64 (r7.1 * (32768 : Int))), (IntKind.wrap .i64 ((IntKind.wrap .i64 (0 - r8.1)) * (65536 : Int))), (IntKind.wrap .i64 (r9.1 * (32768 : Int))), (IntKind.wrap .i64 ((1 : Int) + r2.1)), (65536 : Int), (IntKind.wrap .i64 ((65536 : Int) + r3.1)), (327680 : Int), r9.2.1, r9.2.2))) else (bif ((([(3 : Int), (3 : Int), (1 : Int), (2 : Int), (4 : Int), (5 : Int), (3 : Int), (0 : Int)] : List Int).getD r4.1.toNat 0) == (5 : Int)) then ((armplanmake_Source_Next.F (3 : Int) r7.2.1 r7.2.2).bind fun r10 => ((armplanmake_Source_Next.F (4 : Int) r10.2.1 r10.2.2).bind fun r11 => some (r1, (([(3 : Int), (3 : Int), (1 : Int), (2 : Int), (4 : Int), (5 : Int), (3 : Int), (0 : Int)] : List Int).getD r4.1.toNat 0), (-1 : Int), (131072 : Int), (IntKind.wrap .i64 (r6.1 * (32768 : Int))), (IntKind.wrap .i64 (r7.1 * (32768 : Int))), (IntKind.wrap .i64 ((IntKind.wrap .i64 (0 - r10.1)) * (65536 : Int))), (IntKind.wrap .i64 (r11.1 * (32768 : Int))), (IntKind.wrap .i64 ((1 : Int) + r2.1)), (65536 : Int), (IntKind.wrap .i64 ((65536 : Int) + r3.1)), (327680 : Int), r11.2.1, r11.2.2))) else ((armplanmake_Source_Next.F (5 : Int) r7.2.1 r7.2.2).bind fun r12 => ((armplanmake_Source_Next.F (4 : Int) r12.2.1 r12.2.2).bind fun r13 => ((armplanmake_Source_Next.F (3 : Int) r13.2.1 r13.2.2).bind fun r14 => some (r1, (([(3 : Int), (3 : Int), (1 : Int), (2 : Int), (4 : Int), (5 : Int), (3 : Int), (0 : Int)] : List Int).getD r4.1.toNat 0), (-1 : Int), (131072 : Int), (IntKind.wrap .i64 (r6.1 * (32768 : Int))), (IntKind.wrap .i64 (r7.1 * (32768 : Int))), (IntKind.wrap .i64 ((IntKind.wrap .i64 ((IntKind.wrap .i64 (0 - r12.1)) * (65536 : Int))).tdiv (8 : Int))), (IntKind.wrap .i64 ((IntKind.wrap .i64 ((IntKind.wrap .i64 ((IntKind.wrap .i64 ((1 : Int) + r13.1)) * (65536 : Int))).tdiv (8 : Int))) + r14.1)), (IntKind.wrap .i64 ((1 : Int) + r2.1)), (65536 : Int), (IntKind.wrap .i64 ((65536 : Int) + r3.1)), (327680 : Int), r14.2.1, r14.2.2))))))))) else (bif ((([(3 : Int), (3 : Int), (1 : Int), (2 : Int), (4 : Int), (5 : Int), (3 : Int), (0 : Int)] : List Int).getD r4.1.toNat 0) == (0 : Int)) then some (r1, (([(3 : Int), (3 : Int), (1 : Int), (2 : Int), (4 : Int), (5 : Int), (3 : Int), (0 : Int)] : List Int).getD r4.1.toNat 0), (-1 : Int), (0 : Int), (0 : Int), (0 : Int), (0 : Int), (0 : Int), (IntKind.wrap .i64 ((1 : Int) + r2.1)), (65536 : Int), (IntKind.wrap .i64 ((65536 : Int) + r3.1)), (327680 : Int), r5.2.1, r5.2.2) else (bif ((([(3 : Int), (3 : Int), (1 : Int), (2 : Int), (4 : Int), (5 : Int), (3 : Int), (0 : Int)] : List Int).getD r4.1.toNat 0) == (4 : Int)) then ((armplanmake_Source_Next.F (3 : Int) r5.2.1 r5.2.2).bind fun r15 => ((armplanmake_Source_Next.F (4 : Int) r15.2.1 r15.2.2).bind fun r16 => some (r1, (([(3 : Int), (3 : Int), (1 : Int), (2 : Int), (4 : Int), (5 : Int), (3 : Int), (0 : Int)] : List Int).getD r4.1.toNat 0), (-1 : Int), (0 : Int), (0 : Int), (0 : Int), (IntKind.wrap .i64 ((IntKind.wrap .i64 (0 - r15.1)) * (65536 : Int))), (IntKind.wrap .i64 (r16.1 * (32768 : Int))), (IntKind.wrap .i64 ((1 : Int) + r2.1)), (65536 : Int), (IntKind.wrap .i64 ((65536 : Int) + r3.1)), (327680 : Int), r16.2.1, r16.2.2))) else (bif ((([(3 : Int), (3 : Int), (1 : Int), (2 : Int), (4 : Int), (5 : Int), (3 : Int), (0 : Int)] : List Int).getD r4.1.toNat 0) == (5 : Int)) then ((armplanmake_Source_Next.F (3 : Int) r5.2.1 r5.2.2).bind fun r17 => ((armplanmake_Source_Next.F (4 : Int) r17.2.1 r17.2.2).bind fun r18 => some (r1, (([(3 : Int), (3 : Int), (1 : Int), (2 : Int), (4 : Int), (5 : Int), (3 : Int), (0 : Int)] : List Int).getD r4.1.toNat 0), (-1 : Int), (0 : Int), (0 : Int), (0 : Int), (IntKind.wrap .i64 ((IntKind.wrap .i64 (0 - r17.1)) * (65536 : Int))), (IntKind.wrap .i64 (r18.1 * (32768 : Int))), (IntKind.wrap .i64 ((1 : Int) + r2.1)), (65536 : Int), (IntKind.wrap .i64 ((65536 : Int) + r3.1)), (327680 : Int), r18.2.1, r18.2.2))) else ((armplanmake_Source_Next.F (5 : Int) r5.2.1 r5.2.2).bind fun r19 => ((armplanmake_Source_Next.F (4 : Int) r19.2.1 r19.2.2).bind fun r20 => ((armplanmake_Source_Next.F (3 : Int) r20.2.1 r20.2.2).bind fun r21 => some (r1, (([(3 : Int), (3 : Int), (1 : Int), (2 : Int), (4 : Int), (5 : Int), (3 : Int), (0 : Int)] : List Int).getD r4.1.toNat 0), (-1 : Int), (0 : Int), (0 : Int), (0 : Int), (IntKind.wrap .i64 ((IntKind.wrap .i64 ((IntKind.wrap .i64 (0 - r19.1)) * (65536 : Int))).tdiv (8 : Int))), (IntKind.wrap .i64 ((IntKind.wrap .i64 ((IntKind.wrap .i64 ((IntKind.wrap .i64 ((1 : Int) + r20.1)) * (65536 : Int))).tdiv (8 : Int))) + r21.1)), (IntKind.wrap .i64 ((1 : Int) + r2.1)), (65536 : Int), (IntKind.wrap .i64 ((65536 : Int) + r3.1)), (327680 : Int), r21.2.1, r21.2.2)))))))) else (bif decide (a0 > (0 : Int)) then ((armplanmake_Source_Signed.F (2 : Int) r5.2.1 r5.2.2).bind fun r22 => ((armplanmake_Source_Signed.F (1 : Int) r22.2.1 r22.2.2).bind fun r23 => (bif ((([(3 : Int), (3 : Int), (1 : Int), (2 : Int), (4 : Int), (5 : Int), (3 : Int), (0 : Int)] : List Int).getD r4.1.toNat 0) == (0 : Int)) then some (r1, (([(3 : Int), (3 : Int), (1 : Int), (2 : Int), (4 : Int), (5 : Int), (3 : Int), (0 : Int)] : List Int).getD r4.1.toNat 0), (IntKind.wrap .i64 (a0 - (1 : Int))), (131072 : Int), (IntKind.wrap .i64 (r22.1 * (32768 : Int))), (IntKind.wrap .i64 (r23.1 * (32768 : Int))), (0 : Int), (0 : Int), (IntKind.wrap .i64 ((1 : Int) + r2.1)), (65536 : Int), (IntKind.wrap .i64 ((65536 : Int) + r3.1)), (327680 : Int), r23.2.1, r23.2.2) else (bif ((([(3 : Int), (3 : Int), (1 : Int), (2 : Int), (4 : Int), (5 : Int), (3 : Int), (0 : Int)] : List Int).getD r4.1.toNat 0) == (4 : Int)) then ((armplanmake_Source_Next.F (3 : Int) r23.2.1 r23.2.2).bind fun r24 => ((armplanmake_Source_Next.F (4 : Int) r24.2.1 r24.2.2).bind fun r25 => some (r1, (([(3 : Int), (3 : Int), (1 : Int), (2 : Int), (4 : Int), (5 : Int), (3 : Int), (0 : Int)] : List Int).getD r4.1.toNat 0), (IntKind.wrap .i64 (a0 - (1 : Int))), (131072 : Int), (IntKind.wrap .i64 (r22.1 * (32768 : Int))), (IntKind.wrap .i64 (r23.1 * (32768 : Int))), (IntKind.wrap .i64 ((IntKind.wrap .i64 (0 - r24.1)) * (65536 : Int))), (IntKind.wrap .i64 (r25.1 * (32768 : Int))), (IntKind.wrap .i64 ((1 : Int) + r2.1)), (65536 : Int), (IntKind.wrap .i64 ((65536 : Int) + r3.1)), (327680 : Int), r25.2.1, r25.2.2))) else (bif ((([(3 : Int), (3 : Int), (1 : Int), (2 : Int), (4 : Int), (5 : Int), (3 : Int), (0 : Int)] : List Int).getD r4.1.toNat 0) == (5 : Int)) then ((armplanmake_Source_Next.F (3 : Int) r23.2.1 r23.2.2).bind fun r26 => ((armplanmake_Source_Next.F (4 : Int) r26.2.1 r26.2.2).bind fun r27 => some (r1, (([(3 : Int), (3 : Int), (1 : Int), (2 : Int), (4 : Int), (5 : Int), (3 : Int), (0 : Int)] : List Int).getD r4.1.toNat 0), (IntKind.wrap .i64 (a0 - (1 : Int))), (131072 : Int), (IntKind.wrap .i64 (r22.1 * (32768 : Int))), (IntKind.wrap .i64 (r23.1 * (32768 : Int))), (IntKind.wrap .i64 ((IntKind.wrap .i64 (0 - r26.1)) * (65536 : Int))), (IntKind.wrap .i64 (r27.1 * (32768 : Int))), (IntKind.wrap .i64 ((1 : Int) + r2.1)), (65536 : Int), (IntKind.wrap .i64 ((65536 : Int) + r3.1)), (327680 : Int), r27.2.1, r27.2.2))) else ((armplanmake_Source_Next.F (5 : Int) r23.2.1 r23.2.2).bind fun r28 => ((armplanmake_Source_Next.F (4 : Int) r28.2.1 r28.2.2).bind fun r29 => ((armplanmake_Source_Next.F (3 : Int) r29.2.1 r29.2.2).bind fun r30 => some (r1, (([(3 : Int), (3 : Int), (1 : Int), (2 : Int), (4 : Int), (5 : Int), (3 : Int), (0 : Int)] : List Int).getD r4.1.toNat 0), (IntKind.wrap .i64 (a0 - (1 : Int))), (131072 : Int), (IntKind.wrap .i64 (r22.1 * (32768 : Int))), (IntKind.wrap .i64 (r23.1 * (32768 : Int))), (IntKind.wrap .i64 ((IntKind.wrap .i64 ((IntKind.wrap .i64 (0 - r28.1)) * (65536 : Int))).tdiv (8 : Int))), (IntKind.wrap .i64 ((IntKind.wrap .i64 ((IntKind.wrap .i64 ((IntKind.wrap .i64 ((1 : Int) + r29.1)) * (65536 : Int))).tdiv (8 : Int))) + r30.1)), (IntKind.wrap .i64 ((1 : Int) + r2.1)), (65536 : Int), (IntKind.wrap .i64 ((65536 : Int) + r3.1)), (327680 : Int), r30.2.1, r30.2.2))))))))) else (bif ((([(3 : Int), (3 : Int), (1 : Int), (2 : Int), (4 : Int), (5 : Int), (3 : Int), (0 : Int)] : List Int).getD r4.1.toNat 0) == (0 : Int)) then some (r1, (([(3 : Int), (3 : Int), (1 : Int), (2 : Int), (4 : Int), (5 : Int), (3 : Int), (0 : Int)] : List Int).getD r4.1.toNat 0), (IntKind.wrap .i64 (a0 - (1 : Int))), (0 : Int), (0 : Int), (0 : Int), (0 : Int), (0 : Int), (IntKind.wrap .i64 ((1 : Int) + r2.1)), (65536 : Int), (IntKind.wrap .i64 ((65536 : Int) + r3.1)), (327680 : Int), r5.2.1, r5.2.2) else (bif ((([(3 : Int), (3 : Int), (1 : Int), (2 : Int), (4 : Int), (5 : Int), (3 : Int), (0 : Int)] : List Int).getD r4.1.toNat 0) == (4 : Int)) then ((armplanmake_Source_Next.F (3 : Int) r5.2.1 r5.2.2).bind fun r31 => ((armplanmake_Source_Next.F (4 : Int) r31.2.1 r31.2.2).bind fun r32 => some (r1, (([(3 : Int), (3 : Int), (1 : Int), (2 : Int), (4 : Int), (5 : Int), (3 : Int), (0 : Int)] : List Int).getD r4.1.toNat 0), (IntKind.wrap .i64 (a0 - (1 : Int))), (0 : Int), (0 : Int), (0 : Int), (IntKind.wrap .i64 ((IntKind.wrap .i64 (0 - r31.1)) * (65536 : Int))), (IntKind.wrap .i64 (r32.1 * (32768 : Int))), (IntKind.wrap .i64 ((1 : Int) + r2.1)), (65536 : Int), (IntKind.wrap .i64 ((65536 : Int) + r3.1)), (327680 : Int), r32.2.1, r32.2.2))) else (bif ((([(3 : Int), (3 : Int), (1 : Int), (2 : Int), (4 : Int), (5 : Int), (3 : Int), (0 : Int)] : List Int).getD r4.1.toNat 0) == (5 : Int)) then ((armplanmake_Source_Next.F (3 : Int) r5.2.1 r5.2.2).bind fun r33 => ((armplanmake_Source_Next.F (4 : Int) r33.2.1 r33.2.2).bind fun r34 => some (r1, (([(3 : Int), (3 : Int), (1 : Int), (2 : Int), (4 : Int), (5 : Int), (3 : Int), (0 : Int)] : List Int).getD r4.1.toNat 0), (IntKind.wrap .i64 (a0 - (1 : Int))), (0 : Int), (0 : Int), (0 : Int), (IntKind.wrap .i64 ((IntKind.wrap .i64 (0 - r33.1)) * (65536 : Int))), (IntKind.wrap .i64 (r34.1 * (32768 : Int))), (IntKind.wrap .i64 ((1 : Int) + r2.1)), (65536 : Int), (IntKind.wrap .i64 ((65536 : Int) + r3.1)), (327680 : Int), r34.2.1, r34.2.2))) else ((armplanmake_Source_Next.F (5 : Int) r5.2.1 r5.2.2).bind fun r35 => ((armplanmake_Source_Next.F (4 : Int) r35.2.1 r35.2.2).bind fun r36 => ((armplanmake_Source_Next.F (3 : Int) r36.2.1 r36.2.2).bind fun r37 => some (r1, (([(3 : Int), (3 : Int), (1 : Int), (2 : Int), (4 : Int), (5 : Int), (3 : Int), (0 : Int)] : List Int).getD r4.1.toNat 0), (IntKind.wrap .i64 (a0 - (1 : Int))), (0 : Int), (0 : Int), (0 : Int), (IntKind.wrap .i64 ((IntKind.wrap .i64 ((IntKind.wrap .i64 (0 - r35.1)) * (65536 : Int))).tdiv (8 : Int))), (IntKind.wrap .i64 ((IntKind.wrap .i64 ((IntKind.wrap .i64 ((IntKind.wrap .i64 ((1 : Int) + r36.1)) * (65536 : Int))).tdiv (8 : Int))) + r37.1)), (IntKind.wrap .i64 ((1 : Int) + r2.1)), (65536 : Int), (IntKind.wrap .i64 ((65536 : Int) + r3.1)), (327680 : Int), r37.2.1, r37.2.2)))))))))) else none) else none)))))
noncomputable def armplanmake_joint.F : Int → (List (Int)) → Int → Option (ByteArray × Int × Int × Int × Int × Int × Int × Int × Int × Int × Int × Int × List (Int) × Int) := lock armplanmake_joint.F0
theorem armplanmake_joint.F_eq : armplanmake_joint.F = armplanmake_joint.F0 := lock_eq _
noncomputable def armplanmake_joint.p : Proc := { nargs := 2, inS := ⟨[(0, .lf (.bp 0 0)), (1, .lf (.sc (.int .i64)))], [.box [.dat (.int .i64), .sc (.int .i64)]]⟩, outS := ⟨[(0, .ag [.sc .str, .sc (.int .i64), .sc (.int .i64), .sc (.int .i64), .sc (.int .i64), .sc (.int .i64), .sc (.int .i64), .sc (.int .i64), .sc (.int .i64), .sc (.int .i64), .sc (.int .i64), .sc (.int .i64)])], [.box [.dat (.int .i64), .sc (.int .i64)]]⟩, n0 := 1, R := ByteArray × Int × Int × Int × Int × Int × Int × Int × Int × Int × Int × Int × List (Int) × Int, F := fun x => armplanmake_joint.F x.1.2.1 x.2.1.1 x.2.1.2.1, post := fun r => (((r.1, (r.2.1, (r.2.2.1, (r.2.2.2.1, (r.2.2.2.2.1, (r.2.2.2.2.2.1, (r.2.2.2.2.2.2.1, (r.2.2.2.2.2.2.2.1, (r.2.2.2.2.2.2.2.2.1, (r.2.2.2.2.2.2.2.2.2.1, (r.2.2.2.2.2.2.2.2.2.2.1, (r.2.2.2.2.2.2.2.2.2.2.2.1, ())))))))))))), ()), ((r.2.2.2.2.2.2.2.2.2.2.2.2.1, (r.2.2.2.2.2.2.2.2.2.2.2.2.2, ())), ())), un := fun x => (x.1.1.1, x.1.1.2.1, x.1.1.2.2.1, x.1.1.2.2.2.1, x.1.1.2.2.2.2.1, x.1.1.2.2.2.2.2.1, x.1.1.2.2.2.2.2.2.1, x.1.1.2.2.2.2.2.2.2.1, x.1.1.2.2.2.2.2.2.2.2.1, x.1.1.2.2.2.2.2.2.2.2.2.1, x.1.1.2.2.2.2.2.2.2.2.2.2.1, x.1.1.2.2.2.2.2.2.2.2.2.2.2.1, x.2.1.1, x.2.1.2.1) }
noncomputable def armplanmake_joint.E : Env := { P := Tryz.prog, ty := tyTab [], glob := glob0, proc := procTab [(75, armplanmake_letter.p), (24, armplanmake_Source_Next.p), (26, armplanmake_Source_Signed.p)], lproc := lprocTab [], n0 := 1, ntmps := 68 }
theorem armplanmake_joint.ok : ProcsOk armplanmake_joint.E := AllSound.ok (l := [(75, armplanmake_letter.p), (24, armplanmake_Source_Next.p), (26, armplanmake_Source_Signed.p)]) (by kernel_rfl) rfl ⟨armplanmake_letter.sound, armplanmake_Source_Next.sound, armplanmake_Source_Signed.sound, trivial⟩
noncomputable def armplanmake_joint.body0 : Code := (match Tryz.f52.body with | some c => c | none => .skip)
noncomputable def armplanmake_joint.ann : Ann := .z
set_option maxRecDepth 100000 in
theorem armplanmake_joint.eq (x : Tup armplanmake_joint.p.inS) : peFn armplanmake_joint.E Tryz.f52 armplanmake_joint.ann armplanmake_joint.p x = armplanmake_joint.p.F x := by
  have h : peFn armplanmake_joint.E Tryz.f52 armplanmake_joint.ann armplanmake_joint.p x = armplanmake_joint.F0 x.1.2.1 x.2.1.1 x.2.1.2.1 := by kernel_rfl
  exact h.trans (by show _ = armplanmake_joint.F x.1.2.1 x.2.1.1 x.2.1.2.1; rw [armplanmake_joint.F_eq])
set_option maxRecDepth 100000 in
theorem armplanmake_joint.sound : ProcSound Tryz.prog glob0 52 armplanmake_joint.p :=
  fn_sound (E := armplanmake_joint.E) (c := armplanmake_joint.body0) (ann := armplanmake_joint.ann) armplanmake_joint.ok Tryz.func52 (of_decide_eq_true (by kernel_rfl)) rfl rfl rfl (by decide +kernel) ((SubsOk_z _ _) : SubsOk armplanmake_joint.E armplanmake_joint.body0 armplanmake_joint.ann) (fun _ => rfl) rfl armplanmake_joint.eq

/-! ### armplan/robot.checkJoint: function 53 -/
noncomputable def robot_checkJoint.F0 (a0 : List ((ByteArray × (Int × (Int × ((Int × (Int × Int)) × (Int × (Int × (Int × (Int × (Int × Int))))))))))) (a1 : ByteArray) (a2 : Int) (a3 : Int) (a4 : Int) (a5 : Int) (a6 : Int) (a7 : Int) (a8 : Int) (a9 : Int) (a10 : Int) (a11 : Int) (a12 : Int) : Option (Int) :=
  ((robot_bound.F a2).bind fun r1 => ((token_Name.F a1).bind fun r2 => (bif (!r2) then some (802 : Int) else ((robot_place.F a0 a1).bind fun r3 => (bif decide (r3 ≥ (0 : Int)) then some (802 : Int) else (bif decide (a2 < (0 : Int)) then some (803 : Int) else (bif decide (a2 > (6 : Int)) then some (803 : Int) else (bif decide (a3 < (-1 : Int)) then some (804 : Int) else (bif decide (a3 ≥ (a0.length : Int)) then some (804 : Int) else ((robot_long.F a4 a5 a6).bind fun r4 => (bif r4 then some (805 : Int) else (bif decide (a7 > a8) then some (806 : Int) else (bif decide (a7 < (IntKind.wrap .i64 (0 - r1))) then some (806 : Int) else (bif decide (a8 > r1) then some (806 : Int) else ((robot_between.F (1 : Int) a9 (1024 : Int)).bind fun r5 => (bif (!r5) then some (807 : Int) else ((robot_between.F (1 : Int) a10 (1048576 : Int)).bind fun r6 => (bif (!r6) then some (807 : Int) else ((robot_between.F (1 : Int) a11 (1048576 : Int)).bind fun r7 => (bif (!r7) then some (807 : Int) else ((robot_between.F (1 : Int) a12 (1099511627776 : Int)).bind fun r8 => (bif (!r8) then some (807 : Int) else some (0 : Int)))))))))))))))))))))))
noncomputable def robot_checkJoint.F : (List ((ByteArray × (Int × (Int × ((Int × (Int × Int)) × (Int × (Int × (Int × (Int × (Int × Int))))))))))) → ByteArray → Int → Int → Int → Int → Int → Int → Int → Int → Int → Int → Int → Option (Int) := lock robot_checkJoint.F0
theorem robot_checkJoint.F_eq : robot_checkJoint.F = robot_checkJoint.F0 := lock_eq _
noncomputable def robot_checkJoint.p : Proc := { nargs := 2, inS := ⟨[(0, .lf (.dat (.pair .str (.pair (.int .i64) (.pair (.int .i64) (.pair (.pair (.int .i64) (.pair (.int .i64) (.int .i64))) (.pair (.int .i64) (.pair (.int .i64) (.pair (.int .i64) (.pair (.int .i64) (.pair (.int .i64) (.int .i64)))))))))))), (1, .ag [.sc .str, .sc (.int .i64), .sc (.int .i64), .sc (.int .i64), .sc (.int .i64), .sc (.int .i64), .sc (.int .i64), .sc (.int .i64), .sc (.int .i64), .sc (.int .i64), .sc (.int .i64), .sc (.int .i64)])], []⟩, outS := ⟨[(0, .lf (.sc (.int .i64)))], []⟩, n0 := 0, R := Int, F := fun x => robot_checkJoint.F x.1.1 x.1.2.1.1 x.1.2.1.2.1 x.1.2.1.2.2.1 x.1.2.1.2.2.2.1 x.1.2.1.2.2.2.2.1 x.1.2.1.2.2.2.2.2.1 x.1.2.1.2.2.2.2.2.2.1 x.1.2.1.2.2.2.2.2.2.2.1 x.1.2.1.2.2.2.2.2.2.2.2.1 x.1.2.1.2.2.2.2.2.2.2.2.2.1 x.1.2.1.2.2.2.2.2.2.2.2.2.2.1 x.1.2.1.2.2.2.2.2.2.2.2.2.2.2.1, post := fun r => ((r, ()), ()), un := fun x => x.1.1 }
noncomputable def robot_checkJoint.E : Env := { P := Tryz.prog, ty := tyTab [], glob := glob0, proc := procTab [(76, robot_bound.p), (77, token_Name.p), (56, robot_place.p), (55, robot_long.p), (54, robot_between.p)], lproc := lprocTab [], n0 := 0, ntmps := 87 }
theorem robot_checkJoint.ok : ProcsOk robot_checkJoint.E := AllSound.ok (l := [(76, robot_bound.p), (77, token_Name.p), (56, robot_place.p), (55, robot_long.p), (54, robot_between.p)]) (by kernel_rfl) rfl ⟨robot_bound.sound, token_Name.sound, robot_place.sound, robot_long.sound, robot_between.sound, trivial⟩
noncomputable def robot_checkJoint.body0 : Code := (match Tryz.f53.body with | some c => c | none => .skip)
noncomputable def robot_checkJoint.ann : Ann := .z
set_option maxRecDepth 100000 in
theorem robot_checkJoint.eq (x : Tup robot_checkJoint.p.inS) : peFn robot_checkJoint.E Tryz.f53 robot_checkJoint.ann robot_checkJoint.p x = robot_checkJoint.p.F x := by
  have h : peFn robot_checkJoint.E Tryz.f53 robot_checkJoint.ann robot_checkJoint.p x = robot_checkJoint.F0 x.1.1 x.1.2.1.1 x.1.2.1.2.1 x.1.2.1.2.2.1 x.1.2.1.2.2.2.1 x.1.2.1.2.2.2.2.1 x.1.2.1.2.2.2.2.2.1 x.1.2.1.2.2.2.2.2.2.1 x.1.2.1.2.2.2.2.2.2.2.1 x.1.2.1.2.2.2.2.2.2.2.2.1 x.1.2.1.2.2.2.2.2.2.2.2.2.1 x.1.2.1.2.2.2.2.2.2.2.2.2.2.1 x.1.2.1.2.2.2.2.2.2.2.2.2.2.2.1 := by kernel_rfl
  exact h.trans (by show _ = robot_checkJoint.F x.1.1 x.1.2.1.1 x.1.2.1.2.1 x.1.2.1.2.2.1 x.1.2.1.2.2.2.1 x.1.2.1.2.2.2.2.1 x.1.2.1.2.2.2.2.2.1 x.1.2.1.2.2.2.2.2.2.1 x.1.2.1.2.2.2.2.2.2.2.1 x.1.2.1.2.2.2.2.2.2.2.2.1 x.1.2.1.2.2.2.2.2.2.2.2.2.1 x.1.2.1.2.2.2.2.2.2.2.2.2.2.1 x.1.2.1.2.2.2.2.2.2.2.2.2.2.2.1; rw [robot_checkJoint.F_eq])
set_option maxRecDepth 100000 in
theorem robot_checkJoint.sound : ProcSound Tryz.prog glob0 53 robot_checkJoint.p :=
  fn_sound (E := robot_checkJoint.E) (c := robot_checkJoint.body0) (ann := robot_checkJoint.ann) robot_checkJoint.ok Tryz.func53 (of_decide_eq_true (by kernel_rfl)) rfl rfl rfl (by decide +kernel) ((SubsOk_z _ _) : SubsOk robot_checkJoint.E robot_checkJoint.body0 robot_checkJoint.ann) (fun _ => rfl) rfl robot_checkJoint.eq

/-! ### slices.Contains[[]int,int]: function 62 -/
noncomputable def slices_Contains_int.F0 (a0 : List (Int)) (a1 : Int) : Option (Bool) :=
  ((slices_Index_int.F a0 a1).bind fun r1 => some (decide (r1 ≥ (0 : Int))))
noncomputable def slices_Contains_int.F : (List (Int)) → Int → Option (Bool) := lock slices_Contains_int.F0
theorem slices_Contains_int.F_eq : slices_Contains_int.F = slices_Contains_int.F0 := lock_eq _
noncomputable def slices_Contains_int.p : Proc := { nargs := 2, inS := ⟨[(0, .lf (.dat (.int .i64))), (1, .lf (.sc (.int .i64)))], []⟩, outS := ⟨[(0, .lf (.sc .bool))], []⟩, n0 := 0, R := Bool, F := fun x => slices_Contains_int.F x.1.1 x.1.2.1, post := fun r => ((r, ()), ()), un := fun x => x.1.1 }
noncomputable def slices_Contains_int.E : Env := { P := Tryz.prog, ty := tyTab [], glob := glob0, proc := procTab [(84, slices_Index_int.p)], lproc := lprocTab [], n0 := 0, ntmps := 9 }
theorem slices_Contains_int.ok : ProcsOk slices_Contains_int.E := AllSound.ok (l := [(84, slices_Index_int.p)]) (by kernel_rfl) rfl ⟨slices_Index_int.sound, trivial⟩
noncomputable def slices_Contains_int.body0 : Code := (match Tryz.f62.body with | some c => c | none => .skip)
noncomputable def slices_Contains_int.ann : Ann := .z
set_option maxRecDepth 100000 in
theorem slices_Contains_int.eq (x : Tup slices_Contains_int.p.inS) : peFn slices_Contains_int.E Tryz.f62 slices_Contains_int.ann slices_Contains_int.p x = slices_Contains_int.p.F x := by
  have h : peFn slices_Contains_int.E Tryz.f62 slices_Contains_int.ann slices_Contains_int.p x = slices_Contains_int.F0 x.1.1 x.1.2.1 := by kernel_rfl
  exact h.trans (by show _ = slices_Contains_int.F x.1.1 x.1.2.1; rw [slices_Contains_int.F_eq])
set_option maxRecDepth 100000 in
theorem slices_Contains_int.sound : ProcSound Tryz.prog glob0 62 slices_Contains_int.p :=
  fn_sound (E := slices_Contains_int.E) (c := slices_Contains_int.body0) (ann := slices_Contains_int.ann) slices_Contains_int.ok Tryz.func62 (of_decide_eq_true (by kernel_rfl)) rfl rfl rfl (by decide +kernel) ((SubsOk_z _ _) : SubsOk slices_Contains_int.E slices_Contains_int.body0 slices_Contains_int.ann) (fun _ => rfl) rfl slices_Contains_int.eq

/-! ### armplan/syntax.Arguments: function 71 -/
noncomputable def syntax_Arguments.F0 (a0 : ByteArray) (a1 : Int) : Option (Bool) :=
  (bif (eqS a0 (⟨#[115, 104, 97, 112, 101]⟩ : ByteArray)) then (bif decide (a1 ≥ (5 : Int)) then (bif decide (a1 ≤ (26 : Int)) then some (((IntKind.wrap .i64 (a1 - (2 : Int))).tmod (3 : Int)) == (0 : Int)) else some false) else some false) else ((syntax_counts.F ()).bind fun r1 => (bif (hasM a0 r1) then some (a1 == ((getM a0 r1).getD (0 : Int))) else some false)))
noncomputable def syntax_Arguments.F : ByteArray → Int → Option (Bool) := lock syntax_Arguments.F0
theorem syntax_Arguments.F_eq : syntax_Arguments.F = syntax_Arguments.F0 := lock_eq _
noncomputable def syntax_Arguments.p : Proc := { nargs := 2, inS := ⟨[(0, .lf (.sc .str)), (1, .lf (.sc (.int .i64)))], []⟩, outS := ⟨[(0, .lf (.sc .bool))], []⟩, n0 := 0, R := Bool, F := fun x => syntax_Arguments.F x.1.1 x.1.2.1, post := fun r => ((r, ()), ()), un := fun x => x.1.1 }
noncomputable def syntax_Arguments.E : Env := { P := Tryz.prog, ty := tyTab [(3, (.int .i64))], glob := glob0, proc := procTab [(90, syntax_counts.p)], lproc := lprocTab [], n0 := 0, ntmps := 33 }
theorem syntax_Arguments.ok : ProcsOk syntax_Arguments.E := AllSound.ok (l := [(90, syntax_counts.p)]) (by kernel_rfl) rfl ⟨syntax_counts.sound, trivial⟩
noncomputable def syntax_Arguments.body0 : Code := (match Tryz.f71.body with | some c => c | none => .skip)
noncomputable def syntax_Arguments.ann : Ann := .z
set_option maxRecDepth 100000 in
theorem syntax_Arguments.eq (x : Tup syntax_Arguments.p.inS) : peFn syntax_Arguments.E Tryz.f71 syntax_Arguments.ann syntax_Arguments.p x = syntax_Arguments.p.F x := by
  have h : peFn syntax_Arguments.E Tryz.f71 syntax_Arguments.ann syntax_Arguments.p x = syntax_Arguments.F0 x.1.1 x.1.2.1 := by kernel_rfl
  exact h.trans (by show _ = syntax_Arguments.F x.1.1 x.1.2.1; rw [syntax_Arguments.F_eq])
set_option maxRecDepth 100000 in
theorem syntax_Arguments.sound : ProcSound Tryz.prog glob0 71 syntax_Arguments.p :=
  fn_sound (E := syntax_Arguments.E) (c := syntax_Arguments.body0) (ann := syntax_Arguments.ann) syntax_Arguments.ok Tryz.func71 (of_decide_eq_true (by kernel_rfl)) rfl rfl rfl (by decide +kernel) ((SubsOk_z _ _) : SubsOk syntax_Arguments.E syntax_Arguments.body0 syntax_Arguments.ann) (fun _ => rfl) rfl syntax_Arguments.eq

/-! ### armplan/token.Integer: function 89 -/
noncomputable def token_Integer.F0 (a0 : ByteArray) : Option (Int × Bool) :=
  ((libCutPrefix.F a0 (⟨#[45]⟩ : ByteArray)).bind fun r1 => ((token_digits.F r1.1 (15 : Int)).bind fun r2 => (bif (!r2) then some ((0 : Int), false) else ((libParseInt.F r1.1 (10 : Int) (64 : Int)).bind fun r3 => ((token_signed.F r3 r1.2).bind fun r4 => some (r4, true))))))
noncomputable def token_Integer.F : ByteArray → Option (Int × Bool) := lock token_Integer.F0
theorem token_Integer.F_eq : token_Integer.F = token_Integer.F0 := lock_eq _
noncomputable def token_Integer.p : Proc := { nargs := 1, inS := ⟨[(0, .lf (.sc .str))], []⟩, outS := ⟨[(0, .lf (.sc (.int .i64))), (1, .lf (.sc .bool))], []⟩, n0 := 0, R := Int × Bool, F := fun x => token_Integer.F x.1.1, post := fun r => ((r.1, (r.2, ())), ()), un := fun x => (x.1.1, x.1.2.1) }
noncomputable def token_Integer.E : Env := { P := Tryz.prog, ty := tyTab [], glob := glob0, proc := procTab [(102, lib_CutPrefix.p), (104, token_digits.p), (105, lib_ParseInt.p), (106, token_signed.p)], lproc := lprocTab [], n0 := 0, ntmps := 23 }
theorem token_Integer.ok : ProcsOk token_Integer.E := AllSound.ok (l := [(102, lib_CutPrefix.p), (104, token_digits.p), (105, lib_ParseInt.p), (106, token_signed.p)]) (by kernel_rfl) rfl ⟨lib_CutPrefix.sound, token_digits.sound, lib_ParseInt.sound, token_signed.sound, trivial⟩
noncomputable def token_Integer.body0 : Code := (match Tryz.f89.body with | some c => c | none => .skip)
noncomputable def token_Integer.ann : Ann := .z
set_option maxRecDepth 100000 in
theorem token_Integer.eq (x : Tup token_Integer.p.inS) : peFn token_Integer.E Tryz.f89 token_Integer.ann token_Integer.p x = token_Integer.p.F x := by
  have h : peFn token_Integer.E Tryz.f89 token_Integer.ann token_Integer.p x = token_Integer.F0 x.1.1 := by kernel_rfl
  exact h.trans (by show _ = token_Integer.F x.1.1; rw [token_Integer.F_eq])
set_option maxRecDepth 100000 in
theorem token_Integer.sound : ProcSound Tryz.prog glob0 89 token_Integer.p :=
  fn_sound (E := token_Integer.E) (c := token_Integer.body0) (ann := token_Integer.ann) token_Integer.ok Tryz.func89 (of_decide_eq_true (by kernel_rfl)) rfl rfl rfl (by decide +kernel) ((SubsOk_z _ _) : SubsOk token_Integer.E token_Integer.body0 token_Integer.ann) (fun _ => rfl) rfl token_Integer.eq

/-! ### strings.Cut: function 103 -/
noncomputable def strings_Cut.F0 (a0 : ByteArray) (a1 : ByteArray) : Option (ByteArray × ByteArray × Bool) :=
  ((stringslite_Cut.F a0 a1).bind fun r1 => some (r1.1, r1.2.1, r1.2.2))
noncomputable def strings_Cut.F : ByteArray → ByteArray → Option (ByteArray × ByteArray × Bool) := lock strings_Cut.F0
theorem strings_Cut.F_eq : strings_Cut.F = strings_Cut.F0 := lock_eq _
noncomputable def strings_Cut.p : Proc := { nargs := 2, inS := ⟨[(0, .lf (.sc .str)), (1, .lf (.sc .str))], []⟩, outS := ⟨[(0, .lf (.sc .str)), (1, .lf (.sc .str)), (2, .lf (.sc .bool))], []⟩, n0 := 0, R := ByteArray × ByteArray × Bool, F := fun x => strings_Cut.F x.1.1 x.1.2.1, post := fun r => ((r.1, (r.2.1, (r.2.2, ()))), ()), un := fun x => (x.1.1, x.1.2.1, x.1.2.2.1) }
noncomputable def strings_Cut.E : Env := { P := Tryz.prog, ty := tyTab [], glob := glob0, proc := procTab [(120, stringslite_Cut.p)], lproc := lprocTab [], n0 := 0, ntmps := 13 }
theorem strings_Cut.ok : ProcsOk strings_Cut.E := AllSound.ok (l := [(120, stringslite_Cut.p)]) (by kernel_rfl) rfl ⟨stringslite_Cut.sound, trivial⟩
noncomputable def strings_Cut.body0 : Code := (match Tryz.f103.body with | some c => c | none => .skip)
noncomputable def strings_Cut.ann : Ann := .z
set_option maxRecDepth 100000 in
theorem strings_Cut.eq (x : Tup strings_Cut.p.inS) : peFn strings_Cut.E Tryz.f103 strings_Cut.ann strings_Cut.p x = strings_Cut.p.F x := by
  have h : peFn strings_Cut.E Tryz.f103 strings_Cut.ann strings_Cut.p x = strings_Cut.F0 x.1.1 x.1.2.1 := by kernel_rfl
  exact h.trans (by show _ = strings_Cut.F x.1.1 x.1.2.1; rw [strings_Cut.F_eq])
set_option maxRecDepth 100000 in
theorem strings_Cut.sound : ProcSound Tryz.prog glob0 103 strings_Cut.p :=
  fn_sound (E := strings_Cut.E) (c := strings_Cut.body0) (ann := strings_Cut.ann) strings_Cut.ok Tryz.func103 (of_decide_eq_true (by kernel_rfl)) rfl rfl rfl (by decide +kernel) ((SubsOk_z _ _) : SubsOk strings_Cut.E strings_Cut.body0 strings_Cut.ann) (fun _ => rfl) rfl strings_Cut.eq

/-! ### armplan/armplanref6.CheckRobot: function 14 -/
noncomputable def armplanref6_CheckRobot.p0.round (v0 : Int) (v1 : List ((ByteArray × (Int × (Int × ((Int × (Int × Int)) × (Int × (Int × (Int × (Int × (Int × Int))))))))))) (v2 : List ((Int × (Int × (Int × (Int × Int)))))) : Option ((Int × List ((ByteArray × (Int × (Int × ((Int × (Int × Int)) × (Int × (Int × (Int × (Int × (Int × Int)))))))))) × List ((Int × (Int × (Int × (Int × Int)))))) ⊕ ((Int) ⊕ (List ((ByteArray × (Int × (Int × ((Int × (Int × Int)) × (Int × (Int × (Int × (Int × (Int × Int)))))))))) × List ((Int × (Int × (Int × (Int × Int)))))))) :=
  (bif decide (v0 < (v1.length : Int)) then ((armplanref6_checkJoint.F v1 v0).bind fun r2 => (bif (r2 != (0 : Int)) then some (.inr (.inl r2)) else some (.inl ((IntKind.wrap .i64 (v0 + (1 : Int))), v1, v2)))) else some (.inr (.inr (v1, v2))))
noncomputable def armplanref6_CheckRobot.p0.step (s : Int × List ((ByteArray × (Int × (Int × ((Int × (Int × Int)) × (Int × (Int × (Int × (Int × (Int × Int)))))))))) × List ((Int × (Int × (Int × (Int × Int)))))) : Option ((Int × List ((ByteArray × (Int × (Int × ((Int × (Int × Int)) × (Int × (Int × (Int × (Int × (Int × Int)))))))))) × List ((Int × (Int × (Int × (Int × Int)))))) ⊕ ((Int) ⊕ (List ((ByteArray × (Int × (Int × ((Int × (Int × Int)) × (Int × (Int × (Int × (Int × (Int × Int)))))))))) × List ((Int × (Int × (Int × (Int × Int)))))))) := armplanref6_CheckRobot.p0.round s.1 s.2.1 s.2.2
noncomputable def armplanref6_CheckRobot.p0.inS : Shape := ⟨[(1, .lf (.bp 0 0)), (3, .lf (.sc (.int .i64)))], [.box [.dat (.pair .str (.pair (.int .i64) (.pair (.int .i64) (.pair (.pair (.int .i64) (.pair (.int .i64) (.int .i64))) (.pair (.int .i64) (.pair (.int .i64) (.pair (.int .i64) (.pair (.int .i64) (.pair (.int .i64) (.int .i64)))))))))), .dat (.pair (.int .i64) (.pair (.int .i64) (.pair (.int .i64) (.pair (.int .i64) (.int .i64)))))]]⟩
noncomputable def armplanref6_CheckRobot.p0.w0 : Way := { ex := .rt, S := ⟨[(2, .lf (.sc (.int .i64)))], []⟩, R := Int, post := fun r => ((r, ()), ()), un := fun x => x.1.1 }
noncomputable def armplanref6_CheckRobot.p0.w1 : Way := { ex := (.ex 0), S := ⟨[(1, .lf (.bp 0 0))], [.box [.dat (.pair .str (.pair (.int .i64) (.pair (.int .i64) (.pair (.pair (.int .i64) (.pair (.int .i64) (.int .i64))) (.pair (.int .i64) (.pair (.int .i64) (.pair (.int .i64) (.pair (.int .i64) (.pair (.int .i64) (.int .i64)))))))))), .dat (.pair (.int .i64) (.pair (.int .i64) (.pair (.int .i64) (.pair (.int .i64) (.int .i64)))))]]⟩, R := List ((ByteArray × (Int × (Int × ((Int × (Int × Int)) × (Int × (Int × (Int × (Int × (Int × Int)))))))))) × List ((Int × (Int × (Int × (Int × Int))))), post := fun r => (((), ()), ((r.1, (r.2, ())), ())), un := fun x => (x.2.1.1, x.2.1.2.1) }
noncomputable def armplanref6_CheckRobot.p0.outs : List Way := [armplanref6_CheckRobot.p0.w0, armplanref6_CheckRobot.p0.w1]
noncomputable def armplanref6_CheckRobot.p0.un (x : Tup armplanref6_CheckRobot.p0.inS) : Int × List ((ByteArray × (Int × (Int × ((Int × (Int × Int)) × (Int × (Int × (Int × (Int × (Int × Int)))))))))) × List ((Int × (Int × (Int × (Int × Int))))) := (x.1.2.1, x.2.1.1, x.2.1.2.1)
noncomputable def armplanref6_CheckRobot.p0.lp : LProc := { inS := armplanref6_CheckRobot.p0.inS, outs := armplanref6_CheckRobot.p0.outs, F := fun x => loopF armplanref6_CheckRobot.p0.step (armplanref6_CheckRobot.p0.un x) }
noncomputable def armplanref6_CheckRobot.p1.round (v0 : Int) (v1 : List ((ByteArray × (Int × (Int × ((Int × (Int × Int)) × (Int × (Int × (Int × (Int × (Int × Int))))))))))) (v2 : List ((Int × (Int × (Int × (Int × Int)))))) : Option ((Int × List ((ByteArray × (Int × (Int × ((Int × (Int × Int)) × (Int × (Int × (Int × (Int × (Int × Int)))))))))) × List ((Int × (Int × (Int × (Int × Int)))))) ⊕ ((Int) ⊕ (Unit))) :=
  (bif decide (v0 < (v2.length : Int)) then (bif decide (0 ≤ v0) then (bif decide (v0 < (v2.length : Int)) then (bif decide ((v2.getD v0.toNat ((0 : Int), ((0 : Int), ((0 : Int), ((0 : Int), (0 : Int)))))).1 < (0 : Int)) then some (.inr (.inl (808 : Int))) else (bif decide ((v2.getD v0.toNat ((0 : Int), ((0 : Int), ((0 : Int), ((0 : Int), (0 : Int)))))).1 ≥ (v1.length : Int)) then some (.inr (.inl (808 : Int))) else ((armplanref6_between.F ((v2.getD v0.toNat ((0 : Int), ((0 : Int), ((0 : Int), ((0 : Int), (0 : Int)))))).2).1 (1 : Int) (65536 : Int)).bind fun r8 => (bif (!r8) then some (.inr (.inl (808 : Int))) else ((armplanref6_Near.F (((v2.getD v0.toNat ((0 : Int), ((0 : Int), ((0 : Int), ((0 : Int), (0 : Int)))))).2).2).1 ((((v2.getD v0.toNat ((0 : Int), ((0 : Int), ((0 : Int), ((0 : Int), (0 : Int)))))).2).2).2).1 ((((v2.getD v0.toNat ((0 : Int), ((0 : Int), ((0 : Int), ((0 : Int), (0 : Int)))))).2).2).2).2 (4194304 : Int)).bind fun r9 => (bif (!r9) then some (.inr (.inl (808 : Int))) else some (.inl ((IntKind.wrap .i64 (v0 + (1 : Int))), v1, v2)))))))) else none) else none) else some (.inr (.inr ())))
noncomputable def armplanref6_CheckRobot.p1.step (s : Int × List ((ByteArray × (Int × (Int × ((Int × (Int × Int)) × (Int × (Int × (Int × (Int × (Int × Int)))))))))) × List ((Int × (Int × (Int × (Int × Int)))))) : Option ((Int × List ((ByteArray × (Int × (Int × ((Int × (Int × Int)) × (Int × (Int × (Int × (Int × (Int × Int)))))))))) × List ((Int × (Int × (Int × (Int × Int)))))) ⊕ ((Int) ⊕ (Unit))) := armplanref6_CheckRobot.p1.round s.1 s.2.1 s.2.2
noncomputable def armplanref6_CheckRobot.p1.inS : Shape := ⟨[(1, .lf (.bp 0 0)), (5, .lf (.sc (.int .i64)))], [.box [.dat (.pair .str (.pair (.int .i64) (.pair (.int .i64) (.pair (.pair (.int .i64) (.pair (.int .i64) (.int .i64))) (.pair (.int .i64) (.pair (.int .i64) (.pair (.int .i64) (.pair (.int .i64) (.pair (.int .i64) (.int .i64)))))))))), .dat (.pair (.int .i64) (.pair (.int .i64) (.pair (.int .i64) (.pair (.int .i64) (.int .i64)))))]]⟩
noncomputable def armplanref6_CheckRobot.p1.w0 : Way := { ex := .rt, S := ⟨[(2, .lf (.sc (.int .i64)))], []⟩, R := Int, post := fun r => ((r, ()), ()), un := fun x => x.1.1 }
noncomputable def armplanref6_CheckRobot.p1.w1 : Way := { ex := (.ex 2), S := ⟨[], []⟩, R := Unit, post := fun r => ((), ()), un := fun x => () }
noncomputable def armplanref6_CheckRobot.p1.outs : List Way := [armplanref6_CheckRobot.p1.w0, armplanref6_CheckRobot.p1.w1]
noncomputable def armplanref6_CheckRobot.p1.un (x : Tup armplanref6_CheckRobot.p1.inS) : Int × List ((ByteArray × (Int × (Int × ((Int × (Int × Int)) × (Int × (Int × (Int × (Int × (Int × Int)))))))))) × List ((Int × (Int × (Int × (Int × Int))))) := (x.1.2.1, x.2.1.1, x.2.1.2.1)
noncomputable def armplanref6_CheckRobot.p1.lp : LProc := { inS := armplanref6_CheckRobot.p1.inS, outs := armplanref6_CheckRobot.p1.outs, F := fun x => loopF armplanref6_CheckRobot.p1.step (armplanref6_CheckRobot.p1.un x) }
noncomputable def armplanref6_CheckRobot.F0 (a0 : List ((ByteArray × (Int × (Int × ((Int × (Int × Int)) × (Int × (Int × (Int × (Int × (Int × Int))))))))))) (a1 : List ((Int × (Int × (Int × (Int × Int)))))) : Option (Int) :=
  (bif decide ((a0.length : Int) < (1 : Int)) then some (801 : Int) else (bif decide ((a0.length : Int) > (10 : Int)) then some (801 : Int) else ((loopF armplanref6_CheckRobot.p0.step ((0 : Int), a0, a1)).bind fun y3 => (Sum.elim (fun y4 => some y4) (fun z5 => (bif decide ((z5.2.length : Int) > (32 : Int)) then some (808 : Int) else ((loopF armplanref6_CheckRobot.p1.step ((0 : Int), z5.1, z5.2)).bind fun y10 => (Sum.elim (fun y11 => some y11) (fun z12 => some (0 : Int)) y10)))) y3))))
noncomputable def armplanref6_CheckRobot.F : (List ((ByteArray × (Int × (Int × ((Int × (Int × Int)) × (Int × (Int × (Int × (Int × (Int × Int))))))))))) → (List ((Int × (Int × (Int × (Int × Int)))))) → Option (Int) := lock armplanref6_CheckRobot.F0
theorem armplanref6_CheckRobot.F_eq : armplanref6_CheckRobot.F = armplanref6_CheckRobot.F0 := lock_eq _
noncomputable def armplanref6_CheckRobot.p : Proc := { nargs := 1, inS := ⟨[(0, .ag [.dat (.pair .str (.pair (.int .i64) (.pair (.int .i64) (.pair (.pair (.int .i64) (.pair (.int .i64) (.int .i64))) (.pair (.int .i64) (.pair (.int .i64) (.pair (.int .i64) (.pair (.int .i64) (.pair (.int .i64) (.int .i64)))))))))), .dat (.pair (.int .i64) (.pair (.int .i64) (.pair (.int .i64) (.pair (.int .i64) (.int .i64)))))])], []⟩, outS := ⟨[(0, .lf (.sc (.int .i64)))], []⟩, n0 := 0, R := Int, F := fun x => armplanref6_CheckRobot.F x.1.1.1 x.1.1.2.1, post := fun r => ((r, ()), ()), un := fun x => x.1.1 }
noncomputable def armplanref6_CheckRobot.E : Env := { P := Tryz.prog, ty := tyTab [], glob := glob0, proc := procTab [(40, armplanref6_checkJoint.p), (41, armplanref6_between.p), (42, armplanref6_Near.p)], lproc := lprocTab [(0, armplanref6_CheckRobot.p0.lp), (1, armplanref6_CheckRobot.p1.lp)], n0 := 0, ntmps := 70 }
theorem armplanref6_CheckRobot.ok : ProcsOk armplanref6_CheckRobot.E := AllSound.ok (l := [(40, armplanref6_checkJoint.p), (41, armplanref6_between.p), (42, armplanref6_Near.p)]) (by kernel_rfl) rfl ⟨armplanref6_checkJoint.sound, armplanref6_between.sound, armplanref6_Near.sound, trivial⟩
noncomputable def armplanref6_CheckRobot.body0 : Code := (match Tryz.f14.body with | some c => c | none => .skip)
noncomputable def armplanref6_CheckRobot.p1.c : Code := ((codeAt armplanref6_CheckRobot.body0 [.r, .r, .r, .r, .l, .r, .b, .b]).getD .skip)
noncomputable def armplanref6_CheckRobot.p1.ann : Ann := .z
set_option maxRecDepth 100000 in
theorem armplanref6_CheckRobot.p1.eq (x : Tup armplanref6_CheckRobot.p1.inS) : peRound armplanref6_CheckRobot.E armplanref6_CheckRobot.p1.c armplanref6_CheckRobot.p1.ann _ armplanref6_CheckRobot.p1.inS armplanref6_CheckRobot.p1.un armplanref6_CheckRobot.p1.outs x = armplanref6_CheckRobot.p1.step (armplanref6_CheckRobot.p1.un x) := by
  kernel_rfl
set_option maxRecDepth 100000 in
theorem armplanref6_CheckRobot.p1.sound : LProcSound armplanref6_CheckRobot.E (.loop armplanref6_CheckRobot.p1.c) armplanref6_CheckRobot.p1.lp :=
  loop_sound (c := armplanref6_CheckRobot.p1.c) (ann := armplanref6_CheckRobot.p1.ann) armplanref6_CheckRobot.ok ((SubsOk_z _ _) : SubsOk armplanref6_CheckRobot.E armplanref6_CheckRobot.p1.c armplanref6_CheckRobot.p1.ann) (by intro a ha; simp only [armplanref6_CheckRobot.p1.outs, List.mem_cons, List.not_mem_nil, or_false] at ha; rcases ha with rfl | rfl <;> exact fun _ => rfl) armplanref6_CheckRobot.p1.eq
noncomputable def armplanref6_CheckRobot.p0.c : Code := ((codeAt armplanref6_CheckRobot.body0 [.r, .r, .l, .r, .b, .b]).getD .skip)
noncomputable def armplanref6_CheckRobot.p0.ann : Ann := .z
set_option maxRecDepth 100000 in
theorem armplanref6_CheckRobot.p0.eq (x : Tup armplanref6_CheckRobot.p0.inS) : peRound armplanref6_CheckRobot.E armplanref6_CheckRobot.p0.c armplanref6_CheckRobot.p0.ann _ armplanref6_CheckRobot.p0.inS armplanref6_CheckRobot.p0.un armplanref6_CheckRobot.p0.outs x = armplanref6_CheckRobot.p0.step (armplanref6_CheckRobot.p0.un x) := by
  kernel_rfl
set_option maxRecDepth 100000 in
theorem armplanref6_CheckRobot.p0.sound : LProcSound armplanref6_CheckRobot.E (.loop armplanref6_CheckRobot.p0.c) armplanref6_CheckRobot.p0.lp :=
  loop_sound (c := armplanref6_CheckRobot.p0.c) (ann := armplanref6_CheckRobot.p0.ann) armplanref6_CheckRobot.ok ((SubsOk_z _ _) : SubsOk armplanref6_CheckRobot.E armplanref6_CheckRobot.p0.c armplanref6_CheckRobot.p0.ann) (by intro a ha; simp only [armplanref6_CheckRobot.p0.outs, List.mem_cons, List.not_mem_nil, or_false] at ha; rcases ha with rfl | rfl <;> exact fun _ => rfl) armplanref6_CheckRobot.p0.eq
noncomputable def armplanref6_CheckRobot.ann : Ann := .s (.z) (.s (.z) (.s (.s (.z) (.b (.sub 0))) (.s (.z) (.s (.s (.z) (.b (.sub 1))) (.z)))))
set_option maxRecDepth 100000 in
theorem armplanref6_CheckRobot.eq (x : Tup armplanref6_CheckRobot.p.inS) : peFn armplanref6_CheckRobot.E Tryz.f14 armplanref6_CheckRobot.ann armplanref6_CheckRobot.p x = armplanref6_CheckRobot.p.F x := by
  have h : peFn armplanref6_CheckRobot.E Tryz.f14 armplanref6_CheckRobot.ann armplanref6_CheckRobot.p x = armplanref6_CheckRobot.F0 x.1.1.1 x.1.1.2.1 := by kernel_rfl
  exact h.trans (by show _ = armplanref6_CheckRobot.F x.1.1.1 x.1.1.2.1; rw [armplanref6_CheckRobot.F_eq])
set_option maxRecDepth 100000 in
theorem armplanref6_CheckRobot.sound : ProcSound Tryz.prog glob0 14 armplanref6_CheckRobot.p :=
  fn_sound (E := armplanref6_CheckRobot.E) (c := armplanref6_CheckRobot.body0) (ann := armplanref6_CheckRobot.ann) armplanref6_CheckRobot.ok Tryz.func14 (of_decide_eq_true (by kernel_rfl)) rfl rfl rfl (by decide +kernel) (⟨(SubsOk_z _ _), ⟨(SubsOk_z _ _), ⟨⟨(SubsOk_z _ _), (sub_of rfl armplanref6_CheckRobot.p0.sound)⟩, ⟨(SubsOk_z _ _), ⟨⟨(SubsOk_z _ _), (sub_of rfl armplanref6_CheckRobot.p1.sound)⟩, (SubsOk_z _ _)⟩⟩⟩⟩⟩ : SubsOk armplanref6_CheckRobot.E armplanref6_CheckRobot.body0 armplanref6_CheckRobot.ann) (fun _ => rfl) rfl armplanref6_CheckRobot.eq

/-! ### armplan/armplanmake.robot: function 23 -/
noncomputable def armplanmake_robot.p0.round (v0 : Int) (v1 : Int) (v2 : List (Int)) (v3 : Int) (v4 : List ((ByteArray × (Int × (Int × ((Int × (Int × Int)) × (Int × (Int × (Int × (Int × (Int × Int))))))))))) : Option ((Int × Int × List (Int) × Int × List ((ByteArray × (Int × (Int × ((Int × (Int × Int)) × (Int × (Int × (Int × (Int × (Int × Int))))))))))) ⊕ ((Int × List (Int) × Int × List ((ByteArray × (Int × (Int × ((Int × (Int × Int)) × (Int × (Int × (Int × (Int × (Int × Int))))))))))))) :=
  (bif decide (v1 < v0) then ((armplanmake_joint.F v1 v2 v3).bind fun r4 => (bif decide (v4.length + ([(r4.1, (r4.2.1, (r4.2.2.1, ((r4.2.2.2.1, (r4.2.2.2.2.1, r4.2.2.2.2.2.1)), (r4.2.2.2.2.2.2.1, (r4.2.2.2.2.2.2.2.1, (r4.2.2.2.2.2.2.2.2.1, (r4.2.2.2.2.2.2.2.2.2.1, (r4.2.2.2.2.2.2.2.2.2.2.1, r4.2.2.2.2.2.2.2.2.2.2.2.1)))))))))] : List ((ByteArray × (Int × (Int × ((Int × (Int × Int)) × (Int × (Int × (Int × (Int × (Int × Int))))))))))).length < 1353245080339) then some (.inl (v0, (IntKind.wrap .i64 (v1 + (1 : Int))), r4.2.2.2.2.2.2.2.2.2.2.2.2.1, r4.2.2.2.2.2.2.2.2.2.2.2.2.2, (v4 ++ ([(r4.1, (r4.2.1, (r4.2.2.1, ((r4.2.2.2.1, (r4.2.2.2.2.1, r4.2.2.2.2.2.1)), (r4.2.2.2.2.2.2.1, (r4.2.2.2.2.2.2.2.1, (r4.2.2.2.2.2.2.2.2.1, (r4.2.2.2.2.2.2.2.2.2.1, (r4.2.2.2.2.2.2.2.2.2.2.1, r4.2.2.2.2.2.2.2.2.2.2.2.1)))))))))] : List ((ByteArray × (Int × (Int × ((Int × (Int × Int)) × (Int × (Int × (Int × (Int × (Int × Int)))))))))))))) else none)) else some (.inr (v0, v2, v3, v4)))
noncomputable def armplanmake_robot.p0.step (s : Int × Int × List (Int) × Int × List ((ByteArray × (Int × (Int × ((Int × (Int × Int)) × (Int × (Int × (Int × (Int × (Int × Int))))))))))) : Option ((Int × Int × List (Int) × Int × List ((ByteArray × (Int × (Int × ((Int × (Int × Int)) × (Int × (Int × (Int × (Int × (Int × Int))))))))))) ⊕ ((Int × List (Int) × Int × List ((ByteArray × (Int × (Int × ((Int × (Int × Int)) × (Int × (Int × (Int × (Int × (Int × Int))))))))))))) := armplanmake_robot.p0.round s.1 s.2.1 s.2.2.1 s.2.2.2.1 s.2.2.2.2
noncomputable def armplanmake_robot.p0.inS : Shape := ⟨[(0, .lf (.bp 0 0)), (2, .lf (.bp 1 0)), (3, .lf (.bp 2 0)), (4, .lf (.sc (.int .i64))), (5, .lf (.sc (.int .i64)))], [.box [.dat (.int .i64), .sc (.int .i64)], .box [.cst (.slice none 0 0), .cst (.slice none 0 0)], .box [.own 3, .cst (.slice none 0 0)], .row 79 (.pair .str (.pair (.int .i64) (.pair (.int .i64) (.pair (.pair (.int .i64) (.pair (.int .i64) (.int .i64))) (.pair (.int .i64) (.pair (.int .i64) (.pair (.int .i64) (.pair (.int .i64) (.pair (.int .i64) (.int .i64))))))))))]⟩
noncomputable def armplanmake_robot.p0.w0 : Way := { ex := (.ex 0), S := ⟨[(0, .lf (.bp 0 0)), (2, .lf (.bp 1 0)), (3, .lf (.bp 2 0)), (4, .lf (.sc (.int .i64)))], [.box [.dat (.int .i64), .sc (.int .i64)], .box [.cst (.slice none 0 0), .cst (.slice none 0 0)], .box [.own 3, .cst (.slice none 0 0)], .row 79 (.pair .str (.pair (.int .i64) (.pair (.int .i64) (.pair (.pair (.int .i64) (.pair (.int .i64) (.int .i64))) (.pair (.int .i64) (.pair (.int .i64) (.pair (.int .i64) (.pair (.int .i64) (.pair (.int .i64) (.int .i64))))))))))]⟩, R := Int × List (Int) × Int × List ((ByteArray × (Int × (Int × ((Int × (Int × Int)) × (Int × (Int × (Int × (Int × (Int × Int)))))))))), post := fun r => (((), ((), ((), (r.1, ())))), ((r.2.1, (r.2.2.1, ())), (((), ((), ())), (((), ((), ())), (r.2.2.2, ()))))), un := fun x => (x.1.2.2.2.1, x.2.1.1, x.2.1.2.1, x.2.2.2.2.1) }
noncomputable def armplanmake_robot.p0.outs : List Way := [armplanmake_robot.p0.w0]
noncomputable def armplanmake_robot.p0.un (x : Tup armplanmake_robot.p0.inS) : Int × Int × List (Int) × Int × List ((ByteArray × (Int × (Int × ((Int × (Int × Int)) × (Int × (Int × (Int × (Int × (Int × Int)))))))))) := (x.1.2.2.2.1, x.1.2.2.2.2.1, x.2.1.1, x.2.1.2.1, x.2.2.2.2.1)
noncomputable def armplanmake_robot.p0.lp : LProc := { inS := armplanmake_robot.p0.inS, outs := armplanmake_robot.p0.outs, F := fun x => loopF armplanmake_robot.p0.step (armplanmake_robot.p0.un x) }
noncomputable def armplanmake_robot.p1.round (v0 : Int) (v1 : Int) (v2 : List (Int)) (v3 : Int) (v4 : List ((ByteArray × (Int × (Int × ((Int × (Int × Int)) × (Int × (Int × (Int × (Int × (Int × Int))))))))))) (v5 : List ((Int × (Int × (Int × (Int × Int)))))) : Option ((Int × Int × List (Int) × Int × List ((ByteArray × (Int × (Int × ((Int × (Int × Int)) × (Int × (Int × (Int × (Int × (Int × Int)))))))))) × List ((Int × (Int × (Int × (Int × Int)))))) ⊕ ((List (Int) × Int × List ((ByteArray × (Int × (Int × ((Int × (Int × Int)) × (Int × (Int × (Int × (Int × (Int × Int)))))))))) × List ((Int × (Int × (Int × (Int × Int)))))))) :=
  (bif decide (v1 > (0 : Int)) then ((armplanmake_Source_Next.F v0 v2 v3).bind fun r15 => ((armplanmake_Source_Next.F (9000 : Int) r15.2.1 r15.2.2).bind fun r16 => ((armplanmake_Source_Signed.F (3 : Int) r16.2.1 r16.2.2).bind fun r17 => ((armplanmake_Source_Signed.F (2 : Int) r17.2.1 r17.2.2).bind fun r18 => (bif decide (v5.length + ([(r15.1, ((IntKind.wrap .i64 ((1 : Int) + r16.1)), ((IntKind.wrap .i64 (r17.1 * (32768 : Int))), ((0 : Int), (IntKind.wrap .i64 (r18.1 * (32768 : Int)))))))] : List ((Int × (Int × (Int × (Int × Int)))))).length < 3518437208883) then some (.inl (v0, (IntKind.wrap .i64 (v1 - (1 : Int))), r18.2.1, r18.2.2, v4, (v5 ++ ([(r15.1, ((IntKind.wrap .i64 ((1 : Int) + r16.1)), ((IntKind.wrap .i64 (r17.1 * (32768 : Int))), ((0 : Int), (IntKind.wrap .i64 (r18.1 * (32768 : Int)))))))] : List ((Int × (Int × (Int × (Int × Int))))))))) else none))))) else some (.inr (v2, v3, v4, v5)))
noncomputable def armplanmake_robot.p1.step (s : Int × Int × List (Int) × Int × List ((ByteArray × (Int × (Int × ((Int × (Int × Int)) × (Int × (Int × (Int × (Int × (Int × Int)))))))))) × List ((Int × (Int × (Int × (Int × Int)))))) : Option ((Int × Int × List (Int) × Int × List ((ByteArray × (Int × (Int × ((Int × (Int × Int)) × (Int × (Int × (Int × (Int × (Int × Int)))))))))) × List ((Int × (Int × (Int × (Int × Int)))))) ⊕ ((List (Int) × Int × List ((ByteArray × (Int × (Int × ((Int × (Int × Int)) × (Int × (Int × (Int × (Int × (Int × Int)))))))))) × List ((Int × (Int × (Int × (Int × Int)))))))) := armplanmake_robot.p1.round s.1 s.2.1 s.2.2.1 s.2.2.2.1 s.2.2.2.2.1 s.2.2.2.2.2
noncomputable def armplanmake_robot.p1.inS : Shape := ⟨[(0, .lf (.bp 0 0)), (2, .lf (.bp 1 0)), (3, .lf (.bp 2 0)), (4, .lf (.sc (.int .i64))), (6, .lf (.sc (.int .i64)))], [.box [.dat (.int .i64), .sc (.int .i64)], .box [.cst (.slice none 0 0), .cst (.slice none 0 0)], .box [.own 3, .own 4], .row 79 (.pair .str (.pair (.int .i64) (.pair (.int .i64) (.pair (.pair (.int .i64) (.pair (.int .i64) (.int .i64))) (.pair (.int .i64) (.pair (.int .i64) (.pair (.int .i64) (.pair (.int .i64) (.pair (.int .i64) (.int .i64)))))))))), .row 85 (.pair (.int .i64) (.pair (.int .i64) (.pair (.int .i64) (.pair (.int .i64) (.int .i64)))))]⟩
noncomputable def armplanmake_robot.p1.w0 : Way := { ex := (.ex 2), S := ⟨[(2, .lf (.bp 1 0)), (3, .lf (.bp 2 0))], [.box [.dat (.int .i64), .sc (.int .i64)], .box [.cst (.slice none 0 0), .cst (.slice none 0 0)], .box [.own 3, .own 4], .row 79 (.pair .str (.pair (.int .i64) (.pair (.int .i64) (.pair (.pair (.int .i64) (.pair (.int .i64) (.int .i64))) (.pair (.int .i64) (.pair (.int .i64) (.pair (.int .i64) (.pair (.int .i64) (.pair (.int .i64) (.int .i64)))))))))), .row 85 (.pair (.int .i64) (.pair (.int .i64) (.pair (.int .i64) (.pair (.int .i64) (.int .i64)))))]⟩, R := List (Int) × Int × List ((ByteArray × (Int × (Int × ((Int × (Int × Int)) × (Int × (Int × (Int × (Int × (Int × Int)))))))))) × List ((Int × (Int × (Int × (Int × Int))))), post := fun r => (((), ((), ())), ((r.1, (r.2.1, ())), (((), ((), ())), (((), ((), ())), (r.2.2.1, (r.2.2.2, ())))))), un := fun x => (x.2.1.1, x.2.1.2.1, x.2.2.2.2.1, x.2.2.2.2.2.1) }
noncomputable def armplanmake_robot.p1.outs : List Way := [armplanmake_robot.p1.w0]
noncomputable def armplanmake_robot.p1.un (x : Tup armplanmake_robot.p1.inS) : Int × Int × List (Int) × Int × List ((ByteArray × (Int × (Int × ((Int × (Int × Int)) × (Int × (Int × (Int × (Int × (Int × Int)))))))))) × List ((Int × (Int × (Int × (Int × Int))))) := (x.1.2.2.2.1, x.1.2.2.2.2.1, x.2.1.1, x.2.1.2.1, x.2.2.2.2.1, x.2.2.2.2.2.1)
noncomputable def armplanmake_robot.p1.lp : LProc := { inS := armplanmake_robot.p1.inS, outs := armplanmake_robot.p1.outs, F := fun x => loopF armplanmake_robot.p1.step (armplanmake_robot.p1.un x) }
noncomputable def armplanmake_robot.F0 (a0 : List (Int)) (a1 : Int) : Option (List ((ByteArray × (Int × (Int × ((Int × (Int × Int)) × (Int × (Int × (Int × (Int × (Int × Int)))))))))) × List ((Int × (Int × (Int × (Int × Int))))) × List (Int) × Int) :=
  ((armplanmake_Source_Next.F (3 : Int) a0 a1).bind fun r1 => ((loopF armplanmake_robot.p0.step ((IntKind.wrap .i64 ((1 : Int) + r1.1)), (0 : Int), r1.2.1, r1.2.2, ([] : List ((ByteArray × (Int × (Int × ((Int × (Int × Int)) × (Int × (Int × (Int × (Int × (Int × Int))))))))))))).bind fun y5 => ((armplanmake_Source_Next.F (3 : Int) y5.2.1 y5.2.2.1).bind fun r6 => ((loopF armplanmake_robot.p1.step (y5.1, r6.1, r6.2.1, r6.2.2, y5.2.2.2, ([] : List ((Int × (Int × (Int × (Int × Int)))))))).bind fun y19 => some (y19.2.2.1, y19.2.2.2, y19.1, y19.2.1)))))
noncomputable def armplanmake_robot.F : (List (Int)) → Int → Option (List ((ByteArray × (Int × (Int × ((Int × (Int × Int)) × (Int × (Int × (Int × (Int × (Int × Int)))))))))) × List ((Int × (Int × (Int × (Int × Int))))) × List (Int) × Int) := lock armplanmake_robot.F0
theorem armplanmake_robot.F_eq : armplanmake_robot.F = armplanmake_robot.F0 := lock_eq _
noncomputable def armplanmake_robot.p : Proc := { nargs := 1, inS := ⟨[(0, .lf (.bp 0 0))], [.box [.dat (.int .i64), .sc (.int .i64)]]⟩, outS := ⟨[(0, .ag [.dat (.pair .str (.pair (.int .i64) (.pair (.int .i64) (.pair (.pair (.int .i64) (.pair (.int .i64) (.int .i64))) (.pair (.int .i64) (.pair (.int .i64) (.pair (.int .i64) (.pair (.int .i64) (.pair (.int .i64) (.int .i64)))))))))), .dat (.pair (.int .i64) (.pair (.int .i64) (.pair (.int .i64) (.pair (.int .i64) (.int .i64)))))])], [.box [.dat (.int .i64), .sc (.int .i64)]]⟩, n0 := 1, R := List ((ByteArray × (Int × (Int × ((Int × (Int × Int)) × (Int × (Int × (Int × (Int × (Int × Int)))))))))) × List ((Int × (Int × (Int × (Int × Int))))) × List (Int) × Int, F := fun x => armplanmake_robot.F x.2.1.1 x.2.1.2.1, post := fun r => (((r.1, (r.2.1, ())), ()), ((r.2.2.1, (r.2.2.2, ())), ())), un := fun x => (x.1.1.1, x.1.1.2.1, x.2.1.1, x.2.1.2.1) }
noncomputable def armplanmake_robot.E : Env := { P := Tryz.prog, ty := tyTab [(79, (.pair .str (.pair (.int .i64) (.pair (.int .i64) (.pair (.pair (.int .i64) (.pair (.int .i64) (.int .i64))) (.pair (.int .i64) (.pair (.int .i64) (.pair (.int .i64) (.pair (.int .i64) (.pair (.int .i64) (.int .i64))))))))))), (85, (.pair (.int .i64) (.pair (.int .i64) (.pair (.int .i64) (.pair (.int .i64) (.int .i64))))))], glob := glob0, proc := procTab [(24, armplanmake_Source_Next.p), (52, armplanmake_joint.p), (26, armplanmake_Source_Signed.p)], lproc := lprocTab [(0, armplanmake_robot.p0.lp), (1, armplanmake_robot.p1.lp)], n0 := 1, ntmps := 49 }
theorem armplanmake_robot.ok : ProcsOk armplanmake_robot.E := AllSound.ok (l := [(24, armplanmake_Source_Next.p), (52, armplanmake_joint.p), (26, armplanmake_Source_Signed.p)]) (by kernel_rfl) rfl ⟨armplanmake_Source_Next.sound, armplanmake_joint.sound, armplanmake_Source_Signed.sound, trivial⟩
noncomputable def armplanmake_robot.body0 : Code := (match Tryz.f23.body with | some c => c | none => .skip)
noncomputable def armplanmake_robot.p1.c : Code := ((codeAt armplanmake_robot.body0 [.r, .r, .r, .r, .l, .r, .b, .b]).getD .skip)
noncomputable def armplanmake_robot.p1.ann : Ann := .z
set_option maxRecDepth 100000 in
theorem armplanmake_robot.p1.eq (x : Tup armplanmake_robot.p1.inS) : peRound armplanmake_robot.E armplanmake_robot.p1.c armplanmake_robot.p1.ann _ armplanmake_robot.p1.inS armplanmake_robot.p1.un armplanmake_robot.p1.outs x = armplanmake_robot.p1.step (armplanmake_robot.p1.un x) := by
  kernel_rfl
set_option maxRecDepth 100000 in
theorem armplanmake_robot.p1.sound : LProcSound armplanmake_robot.E (.loop armplanmake_robot.p1.c) armplanmake_robot.p1.lp :=
  loop_sound (c := armplanmake_robot.p1.c) (ann := armplanmake_robot.p1.ann) armplanmake_robot.ok ((SubsOk_z _ _) : SubsOk armplanmake_robot.E armplanmake_robot.p1.c armplanmake_robot.p1.ann) (by intro a ha; simp only [armplanmake_robot.p1.outs, List.mem_cons, List.not_mem_nil, or_false] at ha; rcases ha with rfl <;> exact fun _ => rfl) armplanmake_robot.p1.eq
noncomputable def armplanmake_robot.p0.c : Code := ((codeAt armplanmake_robot.body0 [.r, .r, .r, .l, .r, .b, .b]).getD .skip)
noncomputable def armplanmake_robot.p0.ann : Ann := .z
set_option maxRecDepth 100000 in
theorem armplanmake_robot.p0.eq (x : Tup armplanmake_robot.p0.inS) : peRound armplanmake_robot.E armplanmake_robot.p0.c armplanmake_robot.p0.ann _ armplanmake_robot.p0.inS armplanmake_robot.p0.un armplanmake_robot.p0.outs x = armplanmake_robot.p0.step (armplanmake_robot.p0.un x) := by
  kernel_rfl
set_option maxRecDepth 100000 in
theorem armplanmake_robot.p0.sound : LProcSound armplanmake_robot.E (.loop armplanmake_robot.p0.c) armplanmake_robot.p0.lp :=
  loop_sound (c := armplanmake_robot.p0.c) (ann := armplanmake_robot.p0.ann) armplanmake_robot.ok ((SubsOk_z _ _) : SubsOk armplanmake_robot.E armplanmake_robot.p0.c armplanmake_robot.p0.ann) (by intro a ha; simp only [armplanmake_robot.p0.outs, List.mem_cons, List.not_mem_nil, or_false] at ha; rcases ha with rfl <;> exact fun _ => rfl) armplanmake_robot.p0.eq
noncomputable def armplanmake_robot.ann : Ann := .s (.z) (.s (.z) (.s (.z) (.s (.s (.z) (.b (.sub 0))) (.s (.s (.z) (.b (.sub 1))) (.z)))))
set_option maxRecDepth 100000 in
theorem armplanmake_robot.eq (x : Tup armplanmake_robot.p.inS) : peFn armplanmake_robot.E Tryz.f23 armplanmake_robot.ann armplanmake_robot.p x = armplanmake_robot.p.F x := by
  have h : peFn armplanmake_robot.E Tryz.f23 armplanmake_robot.ann armplanmake_robot.p x = armplanmake_robot.F0 x.2.1.1 x.2.1.2.1 := by kernel_rfl
  exact h.trans (by show _ = armplanmake_robot.F x.2.1.1 x.2.1.2.1; rw [armplanmake_robot.F_eq])
set_option maxRecDepth 100000 in
theorem armplanmake_robot.sound : ProcSound Tryz.prog glob0 23 armplanmake_robot.p :=
  fn_sound (E := armplanmake_robot.E) (c := armplanmake_robot.body0) (ann := armplanmake_robot.ann) armplanmake_robot.ok Tryz.func23 (of_decide_eq_true (by kernel_rfl)) rfl rfl rfl (by decide +kernel) (⟨(SubsOk_z _ _), ⟨(SubsOk_z _ _), ⟨(SubsOk_z _ _), ⟨⟨(SubsOk_z _ _), (sub_of rfl armplanmake_robot.p0.sound)⟩, ⟨⟨(SubsOk_z _ _), (sub_of rfl armplanmake_robot.p1.sound)⟩, (SubsOk_z _ _)⟩⟩⟩⟩⟩ : SubsOk armplanmake_robot.E armplanmake_robot.body0 armplanmake_robot.ann) (fun _ => rfl) rfl armplanmake_robot.eq

/-! ### armplan/robot.Check: function 27 -/
noncomputable def robot_Check.p0.round (v0 : List ((ByteArray × (Int × (Int × ((Int × (Int × Int)) × (Int × (Int × (Int × (Int × (Int × Int))))))))))) (v1 : Int) (v2 : Int) (v3 : List ((ByteArray × (Int × (Int × ((Int × (Int × Int)) × (Int × (Int × (Int × (Int × (Int × Int))))))))))) (v4 : List ((Int × (Int × (Int × (Int × Int)))))) : Option ((List ((ByteArray × (Int × (Int × ((Int × (Int × Int)) × (Int × (Int × (Int × (Int × (Int × Int)))))))))) × Int × Int × List ((ByteArray × (Int × (Int × ((Int × (Int × Int)) × (Int × (Int × (Int × (Int × (Int × Int)))))))))) × List ((Int × (Int × (Int × (Int × Int)))))) ⊕ ((Int) ⊕ (List ((ByteArray × (Int × (Int × ((Int × (Int × Int)) × (Int × (Int × (Int × (Int × (Int × Int)))))))))) × List ((Int × (Int × (Int × (Int × Int)))))))) :=
  (bif decide (v2 < v1) then (bif decide (0 ≤ v2) then (bif decide (v2 < (v0.length : Int)) then (bif decide (0 ≤ v2) then (bif decide (v2 ≤ (v3.length : Int)) then ((robot_checkJoint.F (v3.take v2.toNat) (v0.getD v2.toNat ((⟨#[]⟩ : ByteArray), ((0 : Int), ((0 : Int), (((0 : Int), ((0 : Int), (0 : Int))), ((0 : Int), ((0 : Int), ((0 : Int), ((0 : Int), ((0 : Int), (0 : Int))))))))))).1 ((v0.getD v2.toNat ((⟨#[]⟩ : ByteArray), ((0 : Int), ((0 : Int), (((0 : Int), ((0 : Int), (0 : Int))), ((0 : Int), ((0 : Int), ((0 : Int), ((0 : Int), ((0 : Int), (0 : Int))))))))))).2).1 (((v0.getD v2.toNat ((⟨#[]⟩ : ByteArray), ((0 : Int), ((0 : Int), (((0 : Int), ((0 : Int), (0 : Int))), ((0 : Int), ((0 : Int), ((0 : Int), ((0 : Int), ((0 : Int), (0 : Int))))))))))).2).2).1 (((((v0.getD v2.toNat ((⟨#[]⟩ : ByteArray), ((0 : Int), ((0 : Int), (((0 : Int), ((0 : Int), (0 : Int))), ((0 : Int), ((0 : Int), ((0 : Int), ((0 : Int), ((0 : Int), (0 : Int))))))))))).2).2).2).1).1 ((((((v0.getD v2.toNat ((⟨#[]⟩ : ByteArray), ((0 : Int), ((0 : Int), (((0 : Int), ((0 : Int), (0 : Int))), ((0 : Int), ((0 : Int), ((0 : Int), ((0 : Int), ((0 : Int), (0 : Int))))))))))).2).2).2).1).2).1 ((((((v0.getD v2.toNat ((⟨#[]⟩ : ByteArray), ((0 : Int), ((0 : Int), (((0 : Int), ((0 : Int), (0 : Int))), ((0 : Int), ((0 : Int), ((0 : Int), ((0 : Int), ((0 : Int), (0 : Int))))))))))).2).2).2).1).2).2 (((((v0.getD v2.toNat ((⟨#[]⟩ : ByteArray), ((0 : Int), ((0 : Int), (((0 : Int), ((0 : Int), (0 : Int))), ((0 : Int), ((0 : Int), ((0 : Int), ((0 : Int), ((0 : Int), (0 : Int))))))))))).2).2).2).2).1 ((((((v0.getD v2.toNat ((⟨#[]⟩ : ByteArray), ((0 : Int), ((0 : Int), (((0 : Int), ((0 : Int), (0 : Int))), ((0 : Int), ((0 : Int), ((0 : Int), ((0 : Int), ((0 : Int), (0 : Int))))))))))).2).2).2).2).2).1 (((((((v0.getD v2.toNat ((⟨#[]⟩ : ByteArray), ((0 : Int), ((0 : Int), (((0 : Int), ((0 : Int), (0 : Int))), ((0 : Int), ((0 : Int), ((0 : Int), ((0 : Int), ((0 : Int), (0 : Int))))))))))).2).2).2).2).2).2).1 ((((((((v0.getD v2.toNat ((⟨#[]⟩ : ByteArray), ((0 : Int), ((0 : Int), (((0 : Int), ((0 : Int), (0 : Int))), ((0 : Int), ((0 : Int), ((0 : Int), ((0 : Int), ((0 : Int), (0 : Int))))))))))).2).2).2).2).2).2).2).1 (((((((((v0.getD v2.toNat ((⟨#[]⟩ : ByteArray), ((0 : Int), ((0 : Int), (((0 : Int), ((0 : Int), (0 : Int))), ((0 : Int), ((0 : Int), ((0 : Int), ((0 : Int), ((0 : Int), (0 : Int))))))))))).2).2).2).2).2).2).2).2).1 (((((((((v0.getD v2.toNat ((⟨#[]⟩ : ByteArray), ((0 : Int), ((0 : Int), (((0 : Int), ((0 : Int), (0 : Int))), ((0 : Int), ((0 : Int), ((0 : Int), ((0 : Int), ((0 : Int), (0 : Int))))))))))).2).2).2).2).2).2).2).2).2).bind fun r2 => (bif (r2 != (0 : Int)) then some (.inr (.inl r2)) else some (.inl (v0, v1, (IntKind.wrap .i64 (v2 + (1 : Int))), v3, v4)))) else none) else none) else none) else none) else some (.inr (.inr (v3, v4))))
noncomputable def robot_Check.p0.step (s : List ((ByteArray × (Int × (Int × ((Int × (Int × Int)) × (Int × (Int × (Int × (Int × (Int × Int)))))))))) × Int × Int × List ((ByteArray × (Int × (Int × ((Int × (Int × Int)) × (Int × (Int × (Int × (Int × (Int × Int)))))))))) × List ((Int × (Int × (Int × (Int × Int)))))) : Option ((List ((ByteArray × (Int × (Int × ((Int × (Int × Int)) × (Int × (Int × (Int × (Int × (Int × Int)))))))))) × Int × Int × List ((ByteArray × (Int × (Int × ((Int × (Int × Int)) × (Int × (Int × (Int × (Int × (Int × Int)))))))))) × List ((Int × (Int × (Int × (Int × Int)))))) ⊕ ((Int) ⊕ (List ((ByteArray × (Int × (Int × ((Int × (Int × Int)) × (Int × (Int × (Int × (Int × (Int × Int)))))))))) × List ((Int × (Int × (Int × (Int × Int)))))))) := robot_Check.p0.round s.1 s.2.1 s.2.2.1 s.2.2.2.1 s.2.2.2.2
noncomputable def robot_Check.p0.inS : Shape := ⟨[(1, .lf (.bp 0 0)), (19, .lf (.dat (.pair .str (.pair (.int .i64) (.pair (.int .i64) (.pair (.pair (.int .i64) (.pair (.int .i64) (.int .i64))) (.pair (.int .i64) (.pair (.int .i64) (.pair (.int .i64) (.pair (.int .i64) (.pair (.int .i64) (.int .i64)))))))))))), (20, .lf (.sc (.int .i64))), (21, .lf (.sc (.int .i64)))], [.box [.dat (.pair .str (.pair (.int .i64) (.pair (.int .i64) (.pair (.pair (.int .i64) (.pair (.int .i64) (.int .i64))) (.pair (.int .i64) (.pair (.int .i64) (.pair (.int .i64) (.pair (.int .i64) (.pair (.int .i64) (.int .i64)))))))))), .dat (.pair (.int .i64) (.pair (.int .i64) (.pair (.int .i64) (.pair (.int .i64) (.int .i64)))))]]⟩
noncomputable def robot_Check.p0.w0 : Way := { ex := .rt, S := ⟨[(2, .lf (.sc (.int .i64)))], []⟩, R := Int, post := fun r => ((r, ()), ()), un := fun x => x.1.1 }
noncomputable def robot_Check.p0.w1 : Way := { ex := (.ex 0), S := ⟨[(1, .lf (.bp 0 0))], [.box [.dat (.pair .str (.pair (.int .i64) (.pair (.int .i64) (.pair (.pair (.int .i64) (.pair (.int .i64) (.int .i64))) (.pair (.int .i64) (.pair (.int .i64) (.pair (.int .i64) (.pair (.int .i64) (.pair (.int .i64) (.int .i64)))))))))), .dat (.pair (.int .i64) (.pair (.int .i64) (.pair (.int .i64) (.pair (.int .i64) (.int .i64)))))]]⟩, R := List ((ByteArray × (Int × (Int × ((Int × (Int × Int)) × (Int × (Int × (Int × (Int × (Int × Int)))))))))) × List ((Int × (Int × (Int × (Int × Int))))), post := fun r => (((), ()), ((r.1, (r.2, ())), ())), un := fun x => (x.2.1.1, x.2.1.2.1) }
noncomputable def robot_Check.p0.outs : List Way := [robot_Check.p0.w0, robot_Check.p0.w1]
noncomputable def robot_Check.p0.un (x : Tup robot_Check.p0.inS) : List ((ByteArray × (Int × (Int × ((Int × (Int × Int)) × (Int × (Int × (Int × (Int × (Int × Int)))))))))) × Int × Int × List ((ByteArray × (Int × (Int × ((Int × (Int × Int)) × (Int × (Int × (Int × (Int × (Int × Int)))))))))) × List ((Int × (Int × (Int × (Int × Int))))) := (x.1.2.1, x.1.2.2.1, x.1.2.2.2.1, x.2.1.1, x.2.1.2.1)
noncomputable def robot_Check.p0.lp : LProc := { inS := robot_Check.p0.inS, outs := robot_Check.p0.outs, F := fun x => loopF robot_Check.p0.step (robot_Check.p0.un x) }
noncomputable def robot_Check.p1.round (v0 : List ((Int × (Int × (Int × (Int × Int)))))) (v1 : Int) (v2 : Int) (v3 : List ((ByteArray × (Int × (Int × ((Int × (Int × Int)) × (Int × (Int × (Int × (Int × (Int × Int))))))))))) (v4 : List ((Int × (Int × (Int × (Int × Int)))))) : Option ((List ((Int × (Int × (Int × (Int × Int))))) × Int × Int × List ((ByteArray × (Int × (Int × ((Int × (Int × Int)) × (Int × (Int × (Int × (Int × (Int × Int)))))))))) × List ((Int × (Int × (Int × (Int × Int)))))) ⊕ ((Int) ⊕ (Unit))) :=
  (bif decide (v2 < v1) then (bif decide (0 ≤ v2) then (bif decide (v2 < (v0.length : Int)) then (bif decide ((v0.getD v2.toNat ((0 : Int), ((0 : Int), ((0 : Int), ((0 : Int), (0 : Int)))))).1 < (0 : Int)) then some (.inr (.inl (808 : Int))) else (bif decide ((v0.getD v2.toNat ((0 : Int), ((0 : Int), ((0 : Int), ((0 : Int), (0 : Int)))))).1 ≥ (v3.length : Int)) then some (.inr (.inl (808 : Int))) else ((robot_between.F (1 : Int) ((v0.getD v2.toNat ((0 : Int), ((0 : Int), ((0 : Int), ((0 : Int), (0 : Int)))))).2).1 (65536 : Int)).bind fun r8 => (bif (!r8) then some (.inr (.inl (808 : Int))) else ((robot_long.F (((v0.getD v2.toNat ((0 : Int), ((0 : Int), ((0 : Int), ((0 : Int), (0 : Int)))))).2).2).1 ((((v0.getD v2.toNat ((0 : Int), ((0 : Int), ((0 : Int), ((0 : Int), (0 : Int)))))).2).2).2).1 ((((v0.getD v2.toNat ((0 : Int), ((0 : Int), ((0 : Int), ((0 : Int), (0 : Int)))))).2).2).2).2).bind fun r9 => (bif r9 then some (.inr (.inl (808 : Int))) else some (.inl (v0, v1, (IntKind.wrap .i64 (v2 + (1 : Int))), v3, v4)))))))) else none) else none) else some (.inr (.inr ())))
noncomputable def robot_Check.p1.step (s : List ((Int × (Int × (Int × (Int × Int))))) × Int × Int × List ((ByteArray × (Int × (Int × ((Int × (Int × Int)) × (Int × (Int × (Int × (Int × (Int × Int)))))))))) × List ((Int × (Int × (Int × (Int × Int)))))) : Option ((List ((Int × (Int × (Int × (Int × Int))))) × Int × Int × List ((ByteArray × (Int × (Int × ((Int × (Int × Int)) × (Int × (Int × (Int × (Int × (Int × Int)))))))))) × List ((Int × (Int × (Int × (Int × Int)))))) ⊕ ((Int) ⊕ (Unit))) := robot_Check.p1.round s.1 s.2.1 s.2.2.1 s.2.2.2.1 s.2.2.2.2
noncomputable def robot_Check.p1.inS : Shape := ⟨[(1, .lf (.bp 0 0)), (41, .lf (.dat (.pair (.int .i64) (.pair (.int .i64) (.pair (.int .i64) (.pair (.int .i64) (.int .i64))))))), (42, .lf (.sc (.int .i64))), (43, .lf (.sc (.int .i64)))], [.box [.dat (.pair .str (.pair (.int .i64) (.pair (.int .i64) (.pair (.pair (.int .i64) (.pair (.int .i64) (.int .i64))) (.pair (.int .i64) (.pair (.int .i64) (.pair (.int .i64) (.pair (.int .i64) (.pair (.int .i64) (.int .i64)))))))))), .dat (.pair (.int .i64) (.pair (.int .i64) (.pair (.int .i64) (.pair (.int .i64) (.int .i64)))))]]⟩
noncomputable def robot_Check.p1.w0 : Way := { ex := .rt, S := ⟨[(2, .lf (.sc (.int .i64)))], []⟩, R := Int, post := fun r => ((r, ()), ()), un := fun x => x.1.1 }
noncomputable def robot_Check.p1.w1 : Way := { ex := (.ex 2), S := ⟨[], []⟩, R := Unit, post := fun r => ((), ()), un := fun x => () }
noncomputable def robot_Check.p1.outs : List Way := [robot_Check.p1.w0, robot_Check.p1.w1]
noncomputable def robot_Check.p1.un (x : Tup robot_Check.p1.inS) : List ((Int × (Int × (Int × (Int × Int))))) × Int × Int × List ((ByteArray × (Int × (Int × ((Int × (Int × Int)) × (Int × (Int × (Int × (Int × (Int × Int)))))))))) × List ((Int × (Int × (Int × (Int × Int))))) := (x.1.2.1, x.1.2.2.1, x.1.2.2.2.1, x.2.1.1, x.2.1.2.1)
noncomputable def robot_Check.p1.lp : LProc := { inS := robot_Check.p1.inS, outs := robot_Check.p1.outs, F := fun x => loopF robot_Check.p1.step (robot_Check.p1.un x) }
noncomputable def robot_Check.F0 (a0 : List ((ByteArray × (Int × (Int × ((Int × (Int × Int)) × (Int × (Int × (Int × (Int × (Int × Int))))))))))) (a1 : List ((Int × (Int × (Int × (Int × Int)))))) : Option (Int) :=
  (bif decide ((a0.length : Int) < (1 : Int)) then some (801 : Int) else (bif decide ((a0.length : Int) > (10 : Int)) then some (801 : Int) else ((loopF robot_Check.p0.step (a0, (a0.length : Int), (0 : Int), a0, a1)).bind fun y3 => (Sum.elim (fun y4 => some y4) (fun z5 => (bif decide ((z5.2.length : Int) > (32 : Int)) then some (808 : Int) else ((loopF robot_Check.p1.step (z5.2, (z5.2.length : Int), (0 : Int), z5.1, z5.2)).bind fun y10 => (Sum.elim (fun y11 => some y11) (fun z12 => some (0 : Int)) y10)))) y3))))
noncomputable def robot_Check.F : (List ((ByteArray × (Int × (Int × ((Int × (Int × Int)) × (Int × (Int × (Int × (Int × (Int × Int))))))))))) → (List ((Int × (Int × (Int × (Int × Int)))))) → Option (Int) := lock robot_Check.F0
theorem robot_Check.F_eq : robot_Check.F = robot_Check.F0 := lock_eq _
noncomputable def robot_Check.p : Proc := { nargs := 1, inS := ⟨[(0, .ag [.dat (.pair .str (.pair (.int .i64) (.pair (.int .i64) (.pair (.pair (.int .i64) (.pair (.int .i64) (.int .i64))) (.pair (.int .i64) (.pair (.int .i64) (.pair (.int .i64) (.pair (.int .i64) (.pair (.int .i64) (.int .i64)))))))))), .dat (.pair (.int .i64) (.pair (.int .i64) (.pair (.int .i64) (.pair (.int .i64) (.int .i64)))))])], []⟩, outS := ⟨[(0, .lf (.sc (.int .i64)))], []⟩, n0 := 0, R := Int, F := fun x => robot_Check.F x.1.1.1 x.1.1.2.1, post := fun r => ((r, ()), ()), un := fun x => x.1.1 }
noncomputable def robot_Check.E : Env := { P := Tryz.prog, ty := tyTab [], glob := glob0, proc := procTab [(53, robot_checkJoint.p), (54, robot_between.p), (55, robot_long.p)], lproc := lprocTab [(0, robot_Check.p0.lp), (1, robot_Check.p1.lp)], n0 := 0, ntmps := 70 }
theorem robot_Check.ok : ProcsOk robot_Check.E := AllSound.ok (l := [(53, robot_checkJoint.p), (54, robot_between.p), (55, robot_long.p)]) (by kernel_rfl) rfl ⟨robot_checkJoint.sound, robot_between.sound, robot_long.sound, trivial⟩
noncomputable def robot_Check.body0 : Code := (match Tryz.f27.body with | some c => c | none => .skip)
noncomputable def robot_Check.p1.c : Code := ((codeAt robot_Check.body0 [.r, .r, .r, .r, .l, .r, .b, .b]).getD .skip)
noncomputable def robot_Check.p1.ann : Ann := .z
set_option maxRecDepth 100000 in
theorem robot_Check.p1.eq (x : Tup robot_Check.p1.inS) : peRound robot_Check.E robot_Check.p1.c robot_Check.p1.ann _ robot_Check.p1.inS robot_Check.p1.un robot_Check.p1.outs x = robot_Check.p1.step (robot_Check.p1.un x) := by
  kernel_rfl
set_option maxRecDepth 100000 in
theorem robot_Check.p1.sound : LProcSound robot_Check.E (.loop robot_Check.p1.c) robot_Check.p1.lp :=
  loop_sound (c := robot_Check.p1.c) (ann := robot_Check.p1.ann) robot_Check.ok ((SubsOk_z _ _) : SubsOk robot_Check.E robot_Check.p1.c robot_Check.p1.ann) (by intro a ha; simp only [robot_Check.p1.outs, List.mem_cons, List.not_mem_nil, or_false] at ha; rcases ha with rfl | rfl <;> exact fun _ => rfl) robot_Check.p1.eq
noncomputable def robot_Check.p0.c : Code := ((codeAt robot_Check.body0 [.r, .r, .l, .r, .b, .b]).getD .skip)
noncomputable def robot_Check.p0.ann : Ann := .z
set_option maxRecDepth 100000 in
theorem robot_Check.p0.eq (x : Tup robot_Check.p0.inS) : peRound robot_Check.E robot_Check.p0.c robot_Check.p0.ann _ robot_Check.p0.inS robot_Check.p0.un robot_Check.p0.outs x = robot_Check.p0.step (robot_Check.p0.un x) := by
  kernel_rfl
set_option maxRecDepth 100000 in
theorem robot_Check.p0.sound : LProcSound robot_Check.E (.loop robot_Check.p0.c) robot_Check.p0.lp :=
  loop_sound (c := robot_Check.p0.c) (ann := robot_Check.p0.ann) robot_Check.ok ((SubsOk_z _ _) : SubsOk robot_Check.E robot_Check.p0.c robot_Check.p0.ann) (by intro a ha; simp only [robot_Check.p0.outs, List.mem_cons, List.not_mem_nil, or_false] at ha; rcases ha with rfl | rfl <;> exact fun _ => rfl) robot_Check.p0.eq
noncomputable def robot_Check.ann : Ann := .s (.z) (.s (.z) (.s (.s (.z) (.b (.sub 0))) (.s (.z) (.s (.s (.z) (.b (.sub 1))) (.z)))))
set_option maxRecDepth 100000 in
theorem robot_Check.eq (x : Tup robot_Check.p.inS) : peFn robot_Check.E Tryz.f27 robot_Check.ann robot_Check.p x = robot_Check.p.F x := by
  have h : peFn robot_Check.E Tryz.f27 robot_Check.ann robot_Check.p x = robot_Check.F0 x.1.1.1 x.1.1.2.1 := by kernel_rfl
  exact h.trans (by show _ = robot_Check.F x.1.1.1 x.1.1.2.1; rw [robot_Check.F_eq])
set_option maxRecDepth 100000 in
theorem robot_Check.sound : ProcSound Tryz.prog glob0 27 robot_Check.p :=
  fn_sound (E := robot_Check.E) (c := robot_Check.body0) (ann := robot_Check.ann) robot_Check.ok Tryz.func27 (of_decide_eq_true (by kernel_rfl)) rfl rfl rfl (by decide +kernel) (⟨(SubsOk_z _ _), ⟨(SubsOk_z _ _), ⟨⟨(SubsOk_z _ _), (sub_of rfl robot_Check.p0.sound)⟩, ⟨(SubsOk_z _ _), ⟨⟨(SubsOk_z _ _), (sub_of rfl robot_Check.p1.sound)⟩, (SubsOk_z _ _)⟩⟩⟩⟩⟩ : SubsOk robot_Check.E robot_Check.body0 robot_Check.ann) (fun _ => rfl) rfl robot_Check.eq

/-! ### armplan/armplanref6.Chain: function 34 -/
noncomputable def armplanref6_Chain.p0.round (v0 : Int) (v1 : List ((ByteArray × (Int × (Int × ((Int × (Int × Int)) × (Int × (Int × (Int × (Int × (Int × Int))))))))))) (v2 : List ((Int × (Int × (Int × (Int × Int)))))) (v3 : List (Int)) : Option ((Int × List ((ByteArray × (Int × (Int × ((Int × (Int × Int)) × (Int × (Int × (Int × (Int × (Int × Int)))))))))) × List ((Int × (Int × (Int × (Int × Int))))) × List (Int)) ⊕ ((List (Int)))) :=
  (bif (v0 != (-1 : Int)) then (bif decide (([v0] : List (Int)).length + v3.length < 17592186044416) then (bif decide (0 ≤ v0) then (bif decide (v0 < (v1.length : Int)) then some (.inl ((((v1.getD v0.toNat ((⟨#[]⟩ : ByteArray), ((0 : Int), ((0 : Int), (((0 : Int), ((0 : Int), (0 : Int))), ((0 : Int), ((0 : Int), ((0 : Int), ((0 : Int), ((0 : Int), (0 : Int))))))))))).2).2).1, v1, v2, (([v0] : List (Int)) ++ v3))) else none) else none) else none) else some (.inr v3))
noncomputable def armplanref6_Chain.p0.step (s : Int × List ((ByteArray × (Int × (Int × ((Int × (Int × Int)) × (Int × (Int × (Int × (Int × (Int × Int)))))))))) × List ((Int × (Int × (Int × (Int × Int))))) × List (Int)) : Option ((Int × List ((ByteArray × (Int × (Int × ((Int × (Int × Int)) × (Int × (Int × (Int × (Int × (Int × Int)))))))))) × List ((Int × (Int × (Int × (Int × Int))))) × List (Int)) ⊕ ((List (Int)))) := armplanref6_Chain.p0.round s.1 s.2.1 s.2.2.1 s.2.2.2
noncomputable def armplanref6_Chain.p0.inS : Shape := ⟨[(2, .lf (.bp 0 0)), (5, .lf (.own 1)), (6, .lf (.sc (.int .i64)))], [.box [.dat (.pair .str (.pair (.int .i64) (.pair (.int .i64) (.pair (.pair (.int .i64) (.pair (.int .i64) (.int .i64))) (.pair (.int .i64) (.pair (.int .i64) (.pair (.int .i64) (.pair (.int .i64) (.pair (.int .i64) (.int .i64)))))))))), .dat (.pair (.int .i64) (.pair (.int .i64) (.pair (.int .i64) (.pair (.int .i64) (.int .i64)))))], .row 3 (.int .i64)]⟩
noncomputable def armplanref6_Chain.p0.w0 : Way := { ex := (.ex 0), S := ⟨[(5, .lf (.own 0))], [.row 3 (.int .i64)]⟩, R := List (Int), post := fun r => (((), ()), (r, ())), un := fun x => x.2.1 }
noncomputable def armplanref6_Chain.p0.outs : List Way := [armplanref6_Chain.p0.w0]
noncomputable def armplanref6_Chain.p0.un (x : Tup armplanref6_Chain.p0.inS) : Int × List ((ByteArray × (Int × (Int × ((Int × (Int × Int)) × (Int × (Int × (Int × (Int × (Int × Int)))))))))) × List ((Int × (Int × (Int × (Int × Int))))) × List (Int) := (x.1.2.2.1, x.2.1.1, x.2.1.2.1, x.2.2.1)
noncomputable def armplanref6_Chain.p0.lp : LProc := { inS := armplanref6_Chain.p0.inS, outs := armplanref6_Chain.p0.outs, F := fun x => loopF armplanref6_Chain.p0.step (armplanref6_Chain.p0.un x) }
noncomputable def armplanref6_Chain.F0 (a0 : List ((ByteArray × (Int × (Int × ((Int × (Int × Int)) × (Int × (Int × (Int × (Int × (Int × Int))))))))))) (a1 : List ((Int × (Int × (Int × (Int × Int)))))) (a2 : Int) : Option (List (Int)) :=
  ((armplanref6_CheckRobot.F a0 a1).bind fun r1 => (bif (r1 != (0 : Int)) then some ([] : List (Int)) else ((armplanref6_isLink.F a0 a1 a2).bind fun r2 => (bif (!r2) then some ([] : List (Int)) else ((loopF armplanref6_Chain.p0.step (a2, a0, a1, ([] : List (Int)))).bind fun y3 => some y3)))))
noncomputable def armplanref6_Chain.F : (List ((ByteArray × (Int × (Int × ((Int × (Int × Int)) × (Int × (Int × (Int × (Int × (Int × Int))))))))))) → (List ((Int × (Int × (Int × (Int × Int)))))) → Int → Option (List (Int)) := lock armplanref6_Chain.F0
theorem armplanref6_Chain.F_eq : armplanref6_Chain.F = armplanref6_Chain.F0 := lock_eq _
noncomputable def armplanref6_Chain.p : Proc := { nargs := 2, inS := ⟨[(0, .ag [.dat (.pair .str (.pair (.int .i64) (.pair (.int .i64) (.pair (.pair (.int .i64) (.pair (.int .i64) (.int .i64))) (.pair (.int .i64) (.pair (.int .i64) (.pair (.int .i64) (.pair (.int .i64) (.pair (.int .i64) (.int .i64)))))))))), .dat (.pair (.int .i64) (.pair (.int .i64) (.pair (.int .i64) (.pair (.int .i64) (.int .i64)))))]), (1, .lf (.sc (.int .i64)))], []⟩, outS := ⟨[(0, .lf (.own 0))], [.row 3 (.int .i64)]⟩, n0 := 0, R := List (Int), F := fun x => armplanref6_Chain.F x.1.1.1 x.1.1.2.1 x.1.2.1, post := fun r => (((), ()), (r, ())), un := fun x => x.2.1 }
noncomputable def armplanref6_Chain.E : Env := { P := Tryz.prog, ty := tyTab [(3, (.int .i64))], glob := glob0, proc := procTab [(14, armplanref6_CheckRobot.p), (49, armplanref6_isLink.p)], lproc := lprocTab [(0, armplanref6_Chain.p0.lp)], n0 := 0, ntmps := 30 }
theorem armplanref6_Chain.ok : ProcsOk armplanref6_Chain.E := AllSound.ok (l := [(14, armplanref6_CheckRobot.p), (49, armplanref6_isLink.p)]) (by kernel_rfl) rfl ⟨armplanref6_CheckRobot.sound, armplanref6_isLink.sound, trivial⟩
noncomputable def armplanref6_Chain.body0 : Code := (match Tryz.f34.body with | some c => c | none => .skip)
noncomputable def armplanref6_Chain.p0.c : Code := ((codeAt armplanref6_Chain.body0 [.r, .r, .r, .l, .r, .b, .b]).getD .skip)
noncomputable def armplanref6_Chain.p0.ann : Ann := .z
set_option maxRecDepth 100000 in
theorem armplanref6_Chain.p0.eq (x : Tup armplanref6_Chain.p0.inS) : peRound armplanref6_Chain.E armplanref6_Chain.p0.c armplanref6_Chain.p0.ann _ armplanref6_Chain.p0.inS armplanref6_Chain.p0.un armplanref6_Chain.p0.outs x = armplanref6_Chain.p0.step (armplanref6_Chain.p0.un x) := by
  kernel_rfl
set_option maxRecDepth 100000 in
theorem armplanref6_Chain.p0.sound : LProcSound armplanref6_Chain.E (.loop armplanref6_Chain.p0.c) armplanref6_Chain.p0.lp :=
  loop_sound (c := armplanref6_Chain.p0.c) (ann := armplanref6_Chain.p0.ann) armplanref6_Chain.ok ((SubsOk_z _ _) : SubsOk armplanref6_Chain.E armplanref6_Chain.p0.c armplanref6_Chain.p0.ann) (by intro a ha; simp only [armplanref6_Chain.p0.outs, List.mem_cons, List.not_mem_nil, or_false] at ha; rcases ha with rfl <;> exact fun _ => rfl) armplanref6_Chain.p0.eq
noncomputable def armplanref6_Chain.ann : Ann := .s (.z) (.s (.z) (.s (.z) (.s (.s (.z) (.b (.sub 0))) (.z))))
set_option maxRecDepth 100000 in
theorem armplanref6_Chain.eq (x : Tup armplanref6_Chain.p.inS) : peFn armplanref6_Chain.E Tryz.f34 armplanref6_Chain.ann armplanref6_Chain.p x = armplanref6_Chain.p.F x := by
  have h : peFn armplanref6_Chain.E Tryz.f34 armplanref6_Chain.ann armplanref6_Chain.p x = armplanref6_Chain.F0 x.1.1.1 x.1.1.2.1 x.1.2.1 := by kernel_rfl
  exact h.trans (by show _ = armplanref6_Chain.F x.1.1.1 x.1.1.2.1 x.1.2.1; rw [armplanref6_Chain.F_eq])
set_option maxRecDepth 100000 in
theorem armplanref6_Chain.sound : ProcSound Tryz.prog glob0 34 armplanref6_Chain.p :=
  fn_sound (E := armplanref6_Chain.E) (c := armplanref6_Chain.body0) (ann := armplanref6_Chain.ann) armplanref6_Chain.ok Tryz.func34 (of_decide_eq_true (by kernel_rfl)) rfl rfl rfl (by decide +kernel) (⟨(SubsOk_z _ _), ⟨(SubsOk_z _ _), ⟨(SubsOk_z _ _), ⟨⟨(SubsOk_z _ _), (sub_of rfl armplanref6_Chain.p0.sound)⟩, (SubsOk_z _ _)⟩⟩⟩⟩ : SubsOk armplanref6_Chain.E armplanref6_Chain.body0 armplanref6_Chain.ann) (fun _ => rfl) rfl armplanref6_Chain.eq

/-! ### armplan/armplanref6.Between: function 36 -/
noncomputable def armplanref6_Between.p0.round (v0 : Int) (v1 : List ((ByteArray × (Int × (Int × ((Int × (Int × Int)) × (Int × (Int × (Int × (Int × (Int × Int))))))))))) (v2 : List ((Int × (Int × (Int × (Int × Int)))))) (v3 : List (Int)) (v4 : List (Int)) (v5 : List (Int)) : Option ((Int × List ((ByteArray × (Int × (Int × ((Int × (Int × Int)) × (Int × (Int × (Int × (Int × (Int × Int)))))))))) × List ((Int × (Int × (Int × (Int × Int))))) × List (Int) × List (Int) × List (Int)) ⊕ ((List (Int)))) :=
  (bif decide (v0 < (v1.length : Int)) then ((armplanref6_member.F v3 v0).bind fun r10 => ((armplanref6_member.F v4 v0).bind fun r11 => (bif (!(r10 == r11)) then (bif decide (v5.length + ([v0] : List (Int)).length < 17592186044416) then some (.inl ((IntKind.wrap .i64 (v0 + (1 : Int))), v1, v2, v3, v4, (v5 ++ ([v0] : List (Int))))) else none) else some (.inl ((IntKind.wrap .i64 (v0 + (1 : Int))), v1, v2, v3, v4, v5))))) else some (.inr v5))
noncomputable def armplanref6_Between.p0.step (s : Int × List ((ByteArray × (Int × (Int × ((Int × (Int × Int)) × (Int × (Int × (Int × (Int × (Int × Int)))))))))) × List ((Int × (Int × (Int × (Int × Int))))) × List (Int) × List (Int) × List (Int)) : Option ((Int × List ((ByteArray × (Int × (Int × ((Int × (Int × Int)) × (Int × (Int × (Int × (Int × (Int × Int)))))))))) × List ((Int × (Int × (Int × (Int × Int))))) × List (Int) × List (Int) × List (Int)) ⊕ ((List (Int)))) := armplanref6_Between.p0.round s.1 s.2.1 s.2.2.1 s.2.2.2.1 s.2.2.2.2.1 s.2.2.2.2.2
noncomputable def armplanref6_Between.p0.inS : Shape := ⟨[(3, .lf (.bp 0 0)), (7, .lf (.own 1)), (8, .lf (.own 2)), (9, .lf (.own 3)), (10, .lf (.sc (.int .i64)))], [.box [.dat (.pair .str (.pair (.int .i64) (.pair (.int .i64) (.pair (.pair (.int .i64) (.pair (.int .i64) (.int .i64))) (.pair (.int .i64) (.pair (.int .i64) (.pair (.int .i64) (.pair (.int .i64) (.pair (.int .i64) (.int .i64)))))))))), .dat (.pair (.int .i64) (.pair (.int .i64) (.pair (.int .i64) (.pair (.int .i64) (.int .i64)))))], .row 3 (.int .i64), .row 3 (.int .i64), .row 3 (.int .i64)]⟩
noncomputable def armplanref6_Between.p0.w0 : Way := { ex := (.ex 0), S := ⟨[(9, .lf (.own 0))], [.row 3 (.int .i64)]⟩, R := List (Int), post := fun r => (((), ()), (r, ())), un := fun x => x.2.1 }
noncomputable def armplanref6_Between.p0.outs : List Way := [armplanref6_Between.p0.w0]
noncomputable def armplanref6_Between.p0.un (x : Tup armplanref6_Between.p0.inS) : Int × List ((ByteArray × (Int × (Int × ((Int × (Int × Int)) × (Int × (Int × (Int × (Int × (Int × Int)))))))))) × List ((Int × (Int × (Int × (Int × Int))))) × List (Int) × List (Int) × List (Int) := (x.1.2.2.2.2.1, x.2.1.1, x.2.1.2.1, x.2.2.1, x.2.2.2.1, x.2.2.2.2.1)
noncomputable def armplanref6_Between.p0.lp : LProc := { inS := armplanref6_Between.p0.inS, outs := armplanref6_Between.p0.outs, F := fun x => loopF armplanref6_Between.p0.step (armplanref6_Between.p0.un x) }
noncomputable def armplanref6_Between.F0 (a0 : List ((ByteArray × (Int × (Int × ((Int × (Int × Int)) × (Int × (Int × (Int × (Int × (Int × Int))))))))))) (a1 : List ((Int × (Int × (Int × (Int × Int)))))) (a2 : Int) (a3 : Int) : Option (List (Int)) :=
  ((armplanref6_CheckRobot.F a0 a1).bind fun r1 => (bif (r1 != (0 : Int)) then some ([] : List (Int)) else ((armplanref6_isLink.F a0 a1 a2).bind fun r2 => (bif (!r2) then some ([] : List (Int)) else ((armplanref6_isLink.F a0 a1 a3).bind fun r3 => (bif (!r3) then some ([] : List (Int)) else ((armplanref6_Chain.F a0 a1 a2).bind fun r4 => ((armplanref6_Chain.F a0 a1 a3).bind fun r5 => ((loopF armplanref6_Between.p0.step ((0 : Int), a0, a1, r4, r5, ([] : List (Int)))).bind fun y12 => some y12)))))))))
noncomputable def armplanref6_Between.F : (List ((ByteArray × (Int × (Int × ((Int × (Int × Int)) × (Int × (Int × (Int × (Int × (Int × Int))))))))))) → (List ((Int × (Int × (Int × (Int × Int)))))) → Int → Int → Option (List (Int)) := lock armplanref6_Between.F0
theorem armplanref6_Between.F_eq : armplanref6_Between.F = armplanref6_Between.F0 := lock_eq _
noncomputable def armplanref6_Between.p : Proc := { nargs := 3, inS := ⟨[(0, .ag [.dat (.pair .str (.pair (.int .i64) (.pair (.int .i64) (.pair (.pair (.int .i64) (.pair (.int .i64) (.int .i64))) (.pair (.int .i64) (.pair (.int .i64) (.pair (.int .i64) (.pair (.int .i64) (.pair (.int .i64) (.int .i64)))))))))), .dat (.pair (.int .i64) (.pair (.int .i64) (.pair (.int .i64) (.pair (.int .i64) (.int .i64)))))]), (1, .lf (.sc (.int .i64))), (2, .lf (.sc (.int .i64)))], []⟩, outS := ⟨[(0, .lf (.own 0))], [.row 3 (.int .i64)]⟩, n0 := 0, R := List (Int), F := fun x => armplanref6_Between.F x.1.1.1 x.1.1.2.1 x.1.2.1 x.1.2.2.1, post := fun r => (((), ()), (r, ())), un := fun x => x.2.1 }
noncomputable def armplanref6_Between.E : Env := { P := Tryz.prog, ty := tyTab [(3, (.int .i64))], glob := glob0, proc := procTab [(14, armplanref6_CheckRobot.p), (49, armplanref6_isLink.p), (34, armplanref6_Chain.p), (63, armplanref6_member.p)], lproc := lprocTab [(0, armplanref6_Between.p0.lp)], n0 := 0, ntmps := 51 }
theorem armplanref6_Between.ok : ProcsOk armplanref6_Between.E := AllSound.ok (l := [(14, armplanref6_CheckRobot.p), (49, armplanref6_isLink.p), (34, armplanref6_Chain.p), (63, armplanref6_member.p)]) (by kernel_rfl) rfl ⟨armplanref6_CheckRobot.sound, armplanref6_isLink.sound, armplanref6_Chain.sound, armplanref6_member.sound, trivial⟩
noncomputable def armplanref6_Between.body0 : Code := (match Tryz.f36.body with | some c => c | none => .skip)
noncomputable def armplanref6_Between.p0.c : Code := ((codeAt armplanref6_Between.body0 [.r, .r, .r, .r, .l, .r, .b, .b]).getD .skip)
noncomputable def armplanref6_Between.p0.ann : Ann := .z
set_option maxRecDepth 100000 in
theorem armplanref6_Between.p0.eq (x : Tup armplanref6_Between.p0.inS) : peRound armplanref6_Between.E armplanref6_Between.p0.c armplanref6_Between.p0.ann _ armplanref6_Between.p0.inS armplanref6_Between.p0.un armplanref6_Between.p0.outs x = armplanref6_Between.p0.step (armplanref6_Between.p0.un x) := by
  kernel_rfl
set_option maxRecDepth 100000 in
theorem armplanref6_Between.p0.sound : LProcSound armplanref6_Between.E (.loop armplanref6_Between.p0.c) armplanref6_Between.p0.lp :=
  loop_sound (c := armplanref6_Between.p0.c) (ann := armplanref6_Between.p0.ann) armplanref6_Between.ok ((SubsOk_z _ _) : SubsOk armplanref6_Between.E armplanref6_Between.p0.c armplanref6_Between.p0.ann) (by intro a ha; simp only [armplanref6_Between.p0.outs, List.mem_cons, List.not_mem_nil, or_false] at ha; rcases ha with rfl <;> exact fun _ => rfl) armplanref6_Between.p0.eq
noncomputable def armplanref6_Between.ann : Ann := .s (.z) (.s (.z) (.s (.z) (.s (.z) (.s (.s (.z) (.b (.sub 0))) (.z)))))
set_option maxRecDepth 100000 in
theorem armplanref6_Between.eq (x : Tup armplanref6_Between.p.inS) : peFn armplanref6_Between.E Tryz.f36 armplanref6_Between.ann armplanref6_Between.p x = armplanref6_Between.p.F x := by
  have h : peFn armplanref6_Between.E Tryz.f36 armplanref6_Between.ann armplanref6_Between.p x = armplanref6_Between.F0 x.1.1.1 x.1.1.2.1 x.1.2.1 x.1.2.2.1 := by kernel_rfl
  exact h.trans (by show _ = armplanref6_Between.F x.1.1.1 x.1.1.2.1 x.1.2.1 x.1.2.2.1; rw [armplanref6_Between.F_eq])
set_option maxRecDepth 100000 in
theorem armplanref6_Between.sound : ProcSound Tryz.prog glob0 36 armplanref6_Between.p :=
  fn_sound (E := armplanref6_Between.E) (c := armplanref6_Between.body0) (ann := armplanref6_Between.ann) armplanref6_Between.ok Tryz.func36 (of_decide_eq_true (by kernel_rfl)) rfl rfl rfl (by decide +kernel) (⟨(SubsOk_z _ _), ⟨(SubsOk_z _ _), ⟨(SubsOk_z _ _), ⟨(SubsOk_z _ _), ⟨⟨(SubsOk_z _ _), (sub_of rfl armplanref6_Between.p0.sound)⟩, (SubsOk_z _ _)⟩⟩⟩⟩⟩ : SubsOk armplanref6_Between.E armplanref6_Between.body0 armplanref6_Between.ann) (fun _ => rfl) rfl armplanref6_Between.eq

end Go.Abs
