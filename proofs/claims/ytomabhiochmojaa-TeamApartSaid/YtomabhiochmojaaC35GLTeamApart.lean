/- A part of the proof that the text with the row names: printed readings of functions, or plain lemmas about them. -/
import Derived.Test.YtomabhiochmojaaC35Gb
set_option linter.unusedVariables false
set_option linter.unusedSimpArgs false
namespace Go.Abs
open Go Go.Proofs

/-! ### armplan/team.chain[int64]: function 46 -/
noncomputable def team_chain_int64.p0.round (v0 : List (List (Int))) (v1 : Int) (v2 : Int) (v3 : List (Int)) : Option ((List (List (Int)) × Int × Int × List (Int)) ⊕ ((List (Int)))) :=
  (bif decide (v2 < v1) then (bif decide (0 ≤ v2) then (bif decide (v2 < (v0.length : Int)) then (bif decide (v3.length + (v0.getD v2.toNat ([] : List (Int))).length < 17592186044416) then some (.inl (v0, v1, (IntKind.wrap .i64 (v2 + (1 : Int))), (v3 ++ (v0.getD v2.toNat ([] : List (Int)))))) else none) else none) else none) else some (.inr v3))
noncomputable def team_chain_int64.p0.step (s : List (List (Int)) × Int × Int × List (Int)) : Option ((List (List (Int)) × Int × Int × List (Int)) ⊕ ((List (Int)))) := team_chain_int64.p0.round s.1 s.2.1 s.2.2.1 s.2.2.2
noncomputable def team_chain_int64.p0.inS : Shape := ⟨[(3, .lf (.own 0)), (6, .lf (.dat (.slc (.int .i64)))), (7, .lf (.sc (.int .i64))), (8, .lf (.sc (.int .i64)))], [.row 2 (.int .i64)]⟩
noncomputable def team_chain_int64.p0.w0 : Way := { ex := (.ex 0), S := ⟨[(3, .lf (.own 0))], [.row 2 (.int .i64)]⟩, R := List (Int), post := fun r => (((), ()), (r, ())), un := fun x => x.2.1 }
noncomputable def team_chain_int64.p0.outs : List Way := [team_chain_int64.p0.w0]
noncomputable def team_chain_int64.p0.un (x : Tup team_chain_int64.p0.inS) : List (List (Int)) × Int × Int × List (Int) := (x.1.2.1, x.1.2.2.1, x.1.2.2.2.1, x.2.1)
noncomputable def team_chain_int64.p0.lp : LProc := { inS := team_chain_int64.p0.inS, outs := team_chain_int64.p0.outs, F := fun x => loopF team_chain_int64.p0.step (team_chain_int64.p0.un x) }
noncomputable def team_chain_int64.F0 (a0 : List (List (Int))) : Option (List (Int)) :=
  ((loopF team_chain_int64.p0.step (a0, (a0.length : Int), (0 : Int), ([] : List (Int)))).bind fun y1 => some y1)
noncomputable def team_chain_int64.F : (List (List (Int))) → Option (List (Int)) := lock team_chain_int64.F0
theorem team_chain_int64.F_eq : team_chain_int64.F = team_chain_int64.F0 := lock_eq _
noncomputable def team_chain_int64.p : Proc := { nargs := 1, inS := ⟨[(0, .lf (.dat (.slc (.int .i64))))], []⟩, outS := ⟨[(0, .lf (.own 0))], [.row 2 (.int .i64)]⟩, n0 := 0, R := List (Int), F := fun x => team_chain_int64.F x.1.1, post := fun r => (((), ()), (r, ())), un := fun x => x.2.1 }
noncomputable def team_chain_int64.E : Env := { P := Try.prog, ty := tyTab [], glob := glob0, proc := procTab [], lproc := lprocTab [(0, team_chain_int64.p0.lp)], n0 := 0, ntmps := 17 }
theorem team_chain_int64.ok : ProcsOk team_chain_int64.E := AllSound.ok (l := []) (by kernel_rfl) rfl trivial
noncomputable def team_chain_int64.body0 : Code := (match Try.f46.body with | some c => c | none => .skip)
noncomputable def team_chain_int64.p0.c : Code := ((codeAt team_chain_int64.body0 [.r, .r, .l, .r, .b, .b]).getD .skip)
noncomputable def team_chain_int64.p0.ann : Ann := .z
set_option maxRecDepth 100000 in
theorem team_chain_int64.p0.eq (x : Tup team_chain_int64.p0.inS) : peRound team_chain_int64.E team_chain_int64.p0.c team_chain_int64.p0.ann _ team_chain_int64.p0.inS team_chain_int64.p0.un team_chain_int64.p0.outs x = team_chain_int64.p0.step (team_chain_int64.p0.un x) := by
  kernel_rfl
set_option maxRecDepth 100000 in
theorem team_chain_int64.p0.sound : LProcSound team_chain_int64.E (.loop team_chain_int64.p0.c) team_chain_int64.p0.lp :=
  loop_sound (c := team_chain_int64.p0.c) (ann := team_chain_int64.p0.ann) team_chain_int64.ok ((SubsOk_z _ _) : SubsOk team_chain_int64.E team_chain_int64.p0.c team_chain_int64.p0.ann) (by intro a ha; simp only [team_chain_int64.p0.outs, List.mem_cons, List.not_mem_nil, or_false] at ha; rcases ha with rfl <;> exact fun _ => rfl) team_chain_int64.p0.eq
noncomputable def team_chain_int64.ann : Ann := .s (.z) (.s (.z) (.s (.s (.z) (.b (.sub 0))) (.z)))
set_option maxRecDepth 100000 in
theorem team_chain_int64.eq (x : Tup team_chain_int64.p.inS) : peFn team_chain_int64.E Try.f46 team_chain_int64.ann team_chain_int64.p x = team_chain_int64.p.F x := by
  have h : peFn team_chain_int64.E Try.f46 team_chain_int64.ann team_chain_int64.p x = team_chain_int64.F0 x.1.1 := by kernel_rfl
  exact h.trans (by show _ = team_chain_int64.F x.1.1; rw [team_chain_int64.F_eq])
set_option maxRecDepth 100000 in
theorem team_chain_int64.sound : ProcSound Try.prog glob0 46 team_chain_int64.p :=
  fn_sound (E := team_chain_int64.E) (c := team_chain_int64.body0) (ann := team_chain_int64.ann) team_chain_int64.ok Try.func46 (of_decide_eq_true (by kernel_rfl)) rfl rfl rfl (by decide +kernel) (⟨(SubsOk_z _ _), ⟨(SubsOk_z _ _), ⟨⟨(SubsOk_z _ _), (sub_of rfl team_chain_int64.p0.sound)⟩, (SubsOk_z _ _)⟩⟩⟩ : SubsOk team_chain_int64.E team_chain_int64.body0 team_chain_int64.ann) (fun _ => rfl) rfl team_chain_int64.eq

/-! ### armplan/armplanmake.Config: function 18 -/
noncomputable def armplanmake_Config.p0.round (v0 : Int) (v1 : List ((ByteArray × (Int × (Int × ((Int × (Int × Int)) × (Int × (Int × (Int × (Int × (Int × Int))))))))))) (v2 : List ((Int × (Int × (Int × (Int × Int)))))) (v3 : List (Int)) (v4 : Int) (v5 : List (Int)) : Option ((Int × List ((ByteArray × (Int × (Int × ((Int × (Int × Int)) × (Int × (Int × (Int × (Int × (Int × Int)))))))))) × List ((Int × (Int × (Int × (Int × Int))))) × List (Int) × Int × List (Int)) ⊕ ((List (Int)))) :=
  (bif decide (v0 < (v1.length : Int)) then (bif decide (0 ≤ v0) then (bif decide (v0 < (v1.length : Int)) then (bif decide (0 ≤ v0) then (bif decide (v0 < (v1.length : Int)) then ((armplanmake_Source_Next.F (6 : Int) v3 v4).bind fun r6 => (bif (r6.1 == (0 : Int)) then (bif decide (v5.length + ([(((((v1.getD v0.toNat ((⟨#[]⟩ : ByteArray), ((0 : Int), ((0 : Int), (((0 : Int), ((0 : Int), (0 : Int))), ((0 : Int), ((0 : Int), ((0 : Int), ((0 : Int), ((0 : Int), (0 : Int))))))))))).2).2).2).2).1] : List (Int)).length < 17592186044416) then some (.inl ((IntKind.wrap .i64 (v0 + (1 : Int))), v1, v2, r6.2.1, r6.2.2, (v5 ++ ([(((((v1.getD v0.toNat ((⟨#[]⟩ : ByteArray), ((0 : Int), ((0 : Int), (((0 : Int), ((0 : Int), (0 : Int))), ((0 : Int), ((0 : Int), ((0 : Int), ((0 : Int), ((0 : Int), (0 : Int))))))))))).2).2).2).2).1] : List (Int))))) else none) else (bif (r6.1 == (1 : Int)) then (bif decide (v5.length + ([((((((v1.getD v0.toNat ((⟨#[]⟩ : ByteArray), ((0 : Int), ((0 : Int), (((0 : Int), ((0 : Int), (0 : Int))), ((0 : Int), ((0 : Int), ((0 : Int), ((0 : Int), ((0 : Int), (0 : Int))))))))))).2).2).2).2).2).1] : List (Int)).length < 17592186044416) then some (.inl ((IntKind.wrap .i64 (v0 + (1 : Int))), v1, v2, r6.2.1, r6.2.2, (v5 ++ ([((((((v1.getD v0.toNat ((⟨#[]⟩ : ByteArray), ((0 : Int), ((0 : Int), (((0 : Int), ((0 : Int), (0 : Int))), ((0 : Int), ((0 : Int), ((0 : Int), ((0 : Int), ((0 : Int), (0 : Int))))))))))).2).2).2).2).2).1] : List (Int))))) else none) else ((armplanmake_Source_Next.F (IntKind.wrap .i64 ((IntKind.wrap .i64 (((((((v1.getD v0.toNat ((⟨#[]⟩ : ByteArray), ((0 : Int), ((0 : Int), (((0 : Int), ((0 : Int), (0 : Int))), ((0 : Int), ((0 : Int), ((0 : Int), ((0 : Int), ((0 : Int), (0 : Int))))))))))).2).2).2).2).2).1 - (((((v1.getD v0.toNat ((⟨#[]⟩ : ByteArray), ((0 : Int), ((0 : Int), (((0 : Int), ((0 : Int), (0 : Int))), ((0 : Int), ((0 : Int), ((0 : Int), ((0 : Int), ((0 : Int), (0 : Int))))))))))).2).2).2).2).1)) + (1 : Int))) r6.2.1 r6.2.2).bind fun r7 => (bif decide (v5.length + ([(IntKind.wrap .i64 ((((((v1.getD v0.toNat ((⟨#[]⟩ : ByteArray), ((0 : Int), ((0 : Int), (((0 : Int), ((0 : Int), (0 : Int))), ((0 : Int), ((0 : Int), ((0 : Int), ((0 : Int), ((0 : Int), (0 : Int))))))))))).2).2).2).2).1 + r7.1))] : List (Int)).length < 17592186044416) then some (.inl ((IntKind.wrap .i64 (v0 + (1 : Int))), v1, v2, r7.2.1, r7.2.2, (v5 ++ ([(IntKind.wrap .i64 ((((((v1.getD v0.toNat ((⟨#[]⟩ : ByteArray), ((0 : Int), ((0 : Int), (((0 : Int), ((0 : Int), (0 : Int))), ((0 : Int), ((0 : Int), ((0 : Int), ((0 : Int), ((0 : Int), (0 : Int))))))))))).2).2).2).2).1 + r7.1))] : List (Int))))) else none))))) else none) else none) else none) else none) else some (.inr v5))
noncomputable def armplanmake_Config.p0.step (s : Int × List ((ByteArray × (Int × (Int × ((Int × (Int × Int)) × (Int × (Int × (Int × (Int × (Int × Int)))))))))) × List ((Int × (Int × (Int × (Int × Int))))) × List (Int) × Int × List (Int)) : Option ((Int × List ((ByteArray × (Int × (Int × ((Int × (Int × Int)) × (Int × (Int × (Int × (Int × (Int × Int)))))))))) × List ((Int × (Int × (Int × (Int × Int))))) × List (Int) × Int × List (Int)) ⊕ ((List (Int)))) := armplanmake_Config.p0.round s.1 s.2.1 s.2.2.1 s.2.2.2.1 s.2.2.2.2.1 s.2.2.2.2.2
noncomputable def armplanmake_Config.p0.inS : Shape := ⟨[(2, .lf (.bp 0 0)), (5, .lf (.bp 1 0)), (6, .lf (.own 2)), (7, .lf (.sc (.int .i64)))], [.box [.dat tyJ, .dat tyM], .box [.dat (.int .i64), .sc (.int .i64)], .row 2 (.int .i64)]⟩
noncomputable def armplanmake_Config.p0.w0 : Way := { ex := (.ex 0), S := ⟨[(6, .lf (.own 0))], [.row 2 (.int .i64)]⟩, R := List (Int), post := fun r => (((), ()), (r, ())), un := fun x => x.2.1 }
noncomputable def armplanmake_Config.p0.outs : List Way := [armplanmake_Config.p0.w0]
noncomputable def armplanmake_Config.p0.un (x : Tup armplanmake_Config.p0.inS) : Int × List ((ByteArray × (Int × (Int × ((Int × (Int × Int)) × (Int × (Int × (Int × (Int × (Int × Int)))))))))) × List ((Int × (Int × (Int × (Int × Int))))) × List (Int) × Int × List (Int) := (x.1.2.2.2.1, x.2.1.1, x.2.1.2.1, x.2.2.1.1, x.2.2.1.2.1, x.2.2.2.1)
noncomputable def armplanmake_Config.p0.lp : LProc := { inS := armplanmake_Config.p0.inS, outs := armplanmake_Config.p0.outs, F := fun x => loopF armplanmake_Config.p0.step (armplanmake_Config.p0.un x) }
noncomputable def armplanmake_Config.F0 (a0 : List ((ByteArray × (Int × (Int × ((Int × (Int × Int)) × (Int × (Int × (Int × (Int × (Int × Int))))))))))) (a1 : List ((Int × (Int × (Int × (Int × Int)))))) (a2 : List (Int)) : Option (List (Int)) :=
  ((armplanmake_From.F a2).bind fun r1 => ((loopF armplanmake_Config.p0.step ((0 : Int), a0, a1, r1.1, r1.2, ([] : List (Int)))).bind fun y8 => some y8))
noncomputable def armplanmake_Config.F : (List ((ByteArray × (Int × (Int × ((Int × (Int × Int)) × (Int × (Int × (Int × (Int × (Int × Int))))))))))) → (List ((Int × (Int × (Int × (Int × Int)))))) → (List (Int)) → Option (List (Int)) := lock armplanmake_Config.F0
theorem armplanmake_Config.F_eq : armplanmake_Config.F = armplanmake_Config.F0 := lock_eq _
noncomputable def armplanmake_Config.p : Proc := { nargs := 2, inS := ⟨[(0, .ag [.dat tyJ, .dat tyM]), (1, .lf (.dat (.int .i64)))], []⟩, outS := ⟨[(0, .lf (.own 0))], [.row 2 (.int .i64)]⟩, n0 := 0, R := List (Int), F := fun x => armplanmake_Config.F x.1.1.1 x.1.1.2.1 x.1.2.1, post := fun r => (((), ()), (r, ())), un := fun x => x.2.1 }
noncomputable def armplanmake_Config.E : Env := { P := Try.prog, ty := tyTab [(2, (.int .i64))], glob := glob0, proc := procTab [(31, armplanmake_From.p), (32, armplanmake_Source_Next.p)], lproc := lprocTab [(0, armplanmake_Config.p0.lp)], n0 := 0, ntmps := 57 }
theorem armplanmake_Config.ok : ProcsOk armplanmake_Config.E := AllSound.ok (l := [(31, armplanmake_From.p), (32, armplanmake_Source_Next.p)]) (by kernel_rfl) rfl ⟨armplanmake_From.sound, armplanmake_Source_Next.sound, trivial⟩
noncomputable def armplanmake_Config.body0 : Code := (match Try.f18.body with | some c => c | none => .skip)
noncomputable def armplanmake_Config.p0.c : Code := ((codeAt armplanmake_Config.body0 [.r, .r, .r, .l, .r, .b, .b]).getD .skip)
noncomputable def armplanmake_Config.p0.ann : Ann := .z
set_option maxRecDepth 100000 in
theorem armplanmake_Config.p0.eq (x : Tup armplanmake_Config.p0.inS) : peRound armplanmake_Config.E armplanmake_Config.p0.c armplanmake_Config.p0.ann _ armplanmake_Config.p0.inS armplanmake_Config.p0.un armplanmake_Config.p0.outs x = armplanmake_Config.p0.step (armplanmake_Config.p0.un x) := by
  kernel_rfl
set_option maxRecDepth 100000 in
theorem armplanmake_Config.p0.sound : LProcSound armplanmake_Config.E (.loop armplanmake_Config.p0.c) armplanmake_Config.p0.lp :=
  loop_sound (c := armplanmake_Config.p0.c) (ann := armplanmake_Config.p0.ann) armplanmake_Config.ok ((SubsOk_z _ _) : SubsOk armplanmake_Config.E armplanmake_Config.p0.c armplanmake_Config.p0.ann) (by intro a ha; simp only [armplanmake_Config.p0.outs, List.mem_cons, List.not_mem_nil, or_false] at ha; rcases ha with rfl <;> exact fun _ => rfl) armplanmake_Config.p0.eq
noncomputable def armplanmake_Config.ann : Ann := .s (.z) (.s (.z) (.s (.z) (.s (.s (.z) (.b (.sub 0))) (.z))))
set_option maxRecDepth 100000 in
theorem armplanmake_Config.eq (x : Tup armplanmake_Config.p.inS) : peFn armplanmake_Config.E Try.f18 armplanmake_Config.ann armplanmake_Config.p x = armplanmake_Config.p.F x := by
  have h : peFn armplanmake_Config.E Try.f18 armplanmake_Config.ann armplanmake_Config.p x = armplanmake_Config.F0 x.1.1.1 x.1.1.2.1 x.1.2.1 := by kernel_rfl
  exact h.trans (by show _ = armplanmake_Config.F x.1.1.1 x.1.1.2.1 x.1.2.1; rw [armplanmake_Config.F_eq])
set_option maxRecDepth 100000 in
theorem armplanmake_Config.sound : ProcSound Try.prog glob0 18 armplanmake_Config.p :=
  fn_sound (E := armplanmake_Config.E) (c := armplanmake_Config.body0) (ann := armplanmake_Config.ann) armplanmake_Config.ok Try.func18 (of_decide_eq_true (by kernel_rfl)) rfl rfl rfl (by decide +kernel) (⟨(SubsOk_z _ _), ⟨(SubsOk_z _ _), ⟨(SubsOk_z _ _), ⟨⟨(SubsOk_z _ _), (sub_of rfl armplanmake_Config.p0.sound)⟩, (SubsOk_z _ _)⟩⟩⟩⟩ : SubsOk armplanmake_Config.E armplanmake_Config.body0 armplanmake_Config.ann) (fun _ => rfl) rfl armplanmake_Config.eq

/-! ### armplan/team.Concat: function 20 -/
noncomputable def team_Concat.F0 (a0 : List (List (Int))) : Option (List (Int)) :=
  ((team_chain_int64.F a0).bind fun r1 => some r1)
noncomputable def team_Concat.F : (List (List (Int))) → Option (List (Int)) := lock team_Concat.F0
theorem team_Concat.F_eq : team_Concat.F = team_Concat.F0 := lock_eq _
noncomputable def team_Concat.p : Proc := { nargs := 1, inS := ⟨[(0, .lf (.dat (.slc (.int .i64))))], []⟩, outS := ⟨[(0, .lf (.own 0))], [.row 2 (.int .i64)]⟩, n0 := 0, R := List (Int), F := fun x => team_Concat.F x.1.1, post := fun r => (((), ()), (r, ())), un := fun x => x.2.1 }
noncomputable def team_Concat.E : Env := { P := Try.prog, ty := tyTab [], glob := glob0, proc := procTab [(46, team_chain_int64.p)], lproc := lprocTab [], n0 := 0, ntmps := 5 }
theorem team_Concat.ok : ProcsOk team_Concat.E := AllSound.ok (l := [(46, team_chain_int64.p)]) (by kernel_rfl) rfl ⟨team_chain_int64.sound, trivial⟩
noncomputable def team_Concat.body0 : Code := (match Try.f20.body with | some c => c | none => .skip)
noncomputable def team_Concat.ann : Ann := .z
set_option maxRecDepth 100000 in
theorem team_Concat.eq (x : Tup team_Concat.p.inS) : peFn team_Concat.E Try.f20 team_Concat.ann team_Concat.p x = team_Concat.p.F x := by
  have h : peFn team_Concat.E Try.f20 team_Concat.ann team_Concat.p x = team_Concat.F0 x.1.1 := by kernel_rfl
  exact h.trans (by show _ = team_Concat.F x.1.1; rw [team_Concat.F_eq])
set_option maxRecDepth 100000 in
theorem team_Concat.sound : ProcSound Try.prog glob0 20 team_Concat.p :=
  fn_sound (E := team_Concat.E) (c := team_Concat.body0) (ann := team_Concat.ann) team_Concat.ok Try.func20 (of_decide_eq_true (by kernel_rfl)) rfl rfl rfl (by decide +kernel) ((SubsOk_z _ _) : SubsOk team_Concat.E team_Concat.body0 team_Concat.ann) (fun _ => rfl) rfl team_Concat.eq

/-! ### armplan/armplanlaw35.TeamApart: function 5 -/
noncomputable def armplanlaw35_TeamApart.p0.round (v0 : List (Int)) (v1 : Int) (v2 : Int) (v3 : List (((List ((ByteArray × (Int × (Int × ((Int × (Int × Int)) × (Int × (Int × (Int × (Int × (Int × Int)))))))))) × List ((Int × (Int × (Int × (Int × Int)))))) × (List ((Int × (Int × List ((Int × (Int × Int)))))) × List ((Int × Int)))))) (v4 : List (List (Int))) : Option ((List (Int) × Int × Int × List (((List ((ByteArray × (Int × (Int × ((Int × (Int × Int)) × (Int × (Int × (Int × (Int × (Int × Int)))))))))) × List ((Int × (Int × (Int × (Int × Int)))))) × (List ((Int × (Int × List ((Int × (Int × Int)))))) × List ((Int × Int))))) × List (List (Int))) ⊕ ((Int × List (((List ((ByteArray × (Int × (Int × ((Int × (Int × Int)) × (Int × (Int × (Int × (Int × (Int × Int)))))))))) × List ((Int × (Int × (Int × (Int × Int)))))) × (List ((Int × (Int × List ((Int × (Int × Int)))))) × List ((Int × Int))))) × List (List (Int))))) :=
  (bif decide (v2 < (v3.length : Int)) then (bif decide (0 ≤ v2) then (bif decide (v2 < (v3.length : Int)) then (bif decide (([v2] : List (Int)).length + v0.length < 17592186044416) then ((armplanmake_Config.F ((v3.getD v2.toNat ((([] : List ((ByteArray × (Int × (Int × ((Int × (Int × Int)) × (Int × (Int × (Int × (Int × (Int × Int))))))))))), ([] : List ((Int × (Int × (Int × (Int × Int))))))), (([] : List ((Int × (Int × List ((Int × (Int × Int))))))), ([] : List ((Int × Int)))))).1).1 ((v3.getD v2.toNat ((([] : List ((ByteArray × (Int × (Int × ((Int × (Int × Int)) × (Int × (Int × (Int × (Int × (Int × Int))))))))))), ([] : List ((Int × (Int × (Int × (Int × Int))))))), (([] : List ((Int × (Int × List ((Int × (Int × Int))))))), ([] : List ((Int × Int)))))).1).2 (([v2] : List (Int)) ++ v0)).bind fun r4 => (bif decide (v4.length + ([r4] : List (List (Int))).length < 5864062014805) then some (.inl (v0, v1, (IntKind.wrap .i64 (v2 + (1 : Int))), v3, (v4 ++ ([r4] : List (List (Int)))))) else none)) else none) else none) else none) else some (.inr (v1, v3, v4)))
noncomputable def armplanlaw35_TeamApart.p0.step (s : List (Int) × Int × Int × List (((List ((ByteArray × (Int × (Int × ((Int × (Int × Int)) × (Int × (Int × (Int × (Int × (Int × Int)))))))))) × List ((Int × (Int × (Int × (Int × Int)))))) × (List ((Int × (Int × List ((Int × (Int × Int)))))) × List ((Int × Int))))) × List (List (Int))) : Option ((List (Int) × Int × Int × List (((List ((ByteArray × (Int × (Int × ((Int × (Int × Int)) × (Int × (Int × (Int × (Int × (Int × Int)))))))))) × List ((Int × (Int × (Int × (Int × Int)))))) × (List ((Int × (Int × List ((Int × (Int × Int)))))) × List ((Int × Int))))) × List (List (Int))) ⊕ ((Int × List (((List ((ByteArray × (Int × (Int × ((Int × (Int × Int)) × (Int × (Int × (Int × (Int × (Int × Int)))))))))) × List ((Int × (Int × (Int × (Int × Int)))))) × (List ((Int × (Int × List ((Int × (Int × Int)))))) × List ((Int × Int))))) × List (List (Int))))) := armplanlaw35_TeamApart.p0.round s.1 s.2.1 s.2.2.1 s.2.2.2.1 s.2.2.2.2
noncomputable def armplanlaw35_TeamApart.p0.inS : Shape := ⟨[(2, .lf (.dat (.int .i64))), (3, .lf (.sc (.int .i64))), (9, .lf (.own 0)), (11, .lf (.own 1)), (12, .lf (.sc (.int .i64)))], [.row 40 (.pair (.pair (.slc tyJ) (.slc tyM)) (.pair (.slc tyS) (.slc tyK))), .row 57 (.slc (.int .i64))]⟩
noncomputable def armplanlaw35_TeamApart.p0.w0 : Way := { ex := (.ex 0), S := ⟨[(3, .lf (.sc (.int .i64))), (9, .lf (.own 0)), (11, .lf (.own 1))], [.row 40 (.pair (.pair (.slc tyJ) (.slc tyM)) (.pair (.slc tyS) (.slc tyK))), .row 57 (.slc (.int .i64))]⟩, R := Int × List (((List ((ByteArray × (Int × (Int × ((Int × (Int × Int)) × (Int × (Int × (Int × (Int × (Int × Int)))))))))) × List ((Int × (Int × (Int × (Int × Int)))))) × (List ((Int × (Int × List ((Int × (Int × Int)))))) × List ((Int × Int))))) × List (List (Int)), post := fun r => ((r.1, ((), ((), ()))), (r.2.1, (r.2.2, ()))), un := fun x => (x.1.1, x.2.1, x.2.2.1) }
noncomputable def armplanlaw35_TeamApart.p0.outs : List Way := [armplanlaw35_TeamApart.p0.w0]
noncomputable def armplanlaw35_TeamApart.p0.un (x : Tup armplanlaw35_TeamApart.p0.inS) : List (Int) × Int × Int × List (((List ((ByteArray × (Int × (Int × ((Int × (Int × Int)) × (Int × (Int × (Int × (Int × (Int × Int)))))))))) × List ((Int × (Int × (Int × (Int × Int)))))) × (List ((Int × (Int × List ((Int × (Int × Int)))))) × List ((Int × Int))))) × List (List (Int)) := (x.1.1, x.1.2.1, x.1.2.2.2.2.1, x.2.1, x.2.2.1)
noncomputable def armplanlaw35_TeamApart.p0.lp : LProc := { inS := armplanlaw35_TeamApart.p0.inS, outs := armplanlaw35_TeamApart.p0.outs, F := fun x => loopF armplanlaw35_TeamApart.p0.step (armplanlaw35_TeamApart.p0.un x) }
noncomputable def armplanlaw35_TeamApart.F0 (a0 : List (Int)) (a1 : List (Int)) (a2 : List (Int)) (a3 : Int) : Option (Bool) :=
  ((armplanlaw35_scenes.F a0 a1).bind fun r1 => ((loopF armplanlaw35_TeamApart.p0.step (a2, a3, (0 : Int), r1.1, ([] : List (List (Int))))).bind fun y5 => ((armplanmake_Round.F y5.1 (y5.2.1.length : Int)).bind fun r6 => ((team_Concat.F y5.2.2).bind fun r7 => ((team_Part.F y5.2.1 r7 r6).bind fun r8 => ((armplanlaw35_awake.F ()).bind fun r9 => (bif r9 then (bif r8.1 then (bif decide (0 ≤ r6) then (bif decide (r6 < (y5.2.2.length : Int)) then ((armplanmake_Same_int64.F r8.2 (y5.2.2.getD r6.toNat ([] : List (Int)))).bind fun r10 => some r10) else none) else none) else some false) else some false)))))))
noncomputable def armplanlaw35_TeamApart.F : (List (Int)) → (List (Int)) → (List (Int)) → Int → Option (Bool) := lock armplanlaw35_TeamApart.F0
theorem armplanlaw35_TeamApart.F_eq : armplanlaw35_TeamApart.F = armplanlaw35_TeamApart.F0 := lock_eq _
noncomputable def armplanlaw35_TeamApart.p : Proc := { nargs := 4, inS := ⟨[(0, .lf (.dat (.int .i64))), (1, .lf (.dat (.int .i64))), (2, .lf (.dat (.int .i64))), (3, .lf (.sc (.int .i64)))], []⟩, outS := ⟨[(0, .lf (.sc .bool))], []⟩, n0 := 0, R := Bool, F := fun x => armplanlaw35_TeamApart.F x.1.1 x.1.2.1 x.1.2.2.1 x.1.2.2.2.1, post := fun r => ((r, ()), ()), un := fun x => x.1.1 }
noncomputable def armplanlaw35_TeamApart.E : Env := { P := Try.prog, ty := tyTab [(3, (.int .i64)), (57, (.slc (.int .i64)))], glob := glob0, proc := procTab [(11, armplanlaw35_scenes.p), (18, armplanmake_Config.p), (12, armplanmake_Round.p), (20, team_Concat.p), (19, team_Part.p), (10, armplanlaw35_awake.p), (21, armplanmake_Same_int64.p)], lproc := lprocTab [(0, armplanlaw35_TeamApart.p0.lp)], n0 := 0, ntmps := 65 }
theorem armplanlaw35_TeamApart.ok : ProcsOk armplanlaw35_TeamApart.E := AllSound.ok (l := [(11, armplanlaw35_scenes.p), (18, armplanmake_Config.p), (12, armplanmake_Round.p), (20, team_Concat.p), (19, team_Part.p), (10, armplanlaw35_awake.p), (21, armplanmake_Same_int64.p)]) (by kernel_rfl) rfl ⟨armplanlaw35_scenes.sound, armplanmake_Config.sound, armplanmake_Round.sound, team_Concat.sound, team_Part.sound, armplanlaw35_awake.sound, armplanmake_Same_int64.sound, trivial⟩
noncomputable def armplanlaw35_TeamApart.body0 : Code := (match Try.f5.body with | some c => c | none => .skip)
noncomputable def armplanlaw35_TeamApart.p0.c : Code := ((codeAt armplanlaw35_TeamApart.body0 [.r, .r, .r, .l, .r, .b, .b]).getD .skip)
noncomputable def armplanlaw35_TeamApart.p0.ann : Ann := .z
set_option maxRecDepth 100000 in
theorem armplanlaw35_TeamApart.p0.eq (x : Tup armplanlaw35_TeamApart.p0.inS) : peRound armplanlaw35_TeamApart.E armplanlaw35_TeamApart.p0.c armplanlaw35_TeamApart.p0.ann _ armplanlaw35_TeamApart.p0.inS armplanlaw35_TeamApart.p0.un armplanlaw35_TeamApart.p0.outs x = armplanlaw35_TeamApart.p0.step (armplanlaw35_TeamApart.p0.un x) := by
  kernel_rfl
set_option maxRecDepth 100000 in
theorem armplanlaw35_TeamApart.p0.sound : LProcSound armplanlaw35_TeamApart.E (.loop armplanlaw35_TeamApart.p0.c) armplanlaw35_TeamApart.p0.lp :=
  loop_sound (c := armplanlaw35_TeamApart.p0.c) (ann := armplanlaw35_TeamApart.p0.ann) armplanlaw35_TeamApart.ok ((SubsOk_z _ _) : SubsOk armplanlaw35_TeamApart.E armplanlaw35_TeamApart.p0.c armplanlaw35_TeamApart.p0.ann) (by intro a ha; simp only [armplanlaw35_TeamApart.p0.outs, List.mem_cons, List.not_mem_nil, or_false] at ha; rcases ha with rfl <;> exact fun _ => rfl) armplanlaw35_TeamApart.p0.eq
noncomputable def armplanlaw35_TeamApart.ann : Ann := .s (.z) (.s (.z) (.s (.z) (.s (.s (.z) (.b (.sub 0))) (.z))))
set_option maxRecDepth 100000 in
theorem armplanlaw35_TeamApart.eq (x : Tup armplanlaw35_TeamApart.p.inS) : peFn armplanlaw35_TeamApart.E Try.f5 armplanlaw35_TeamApart.ann armplanlaw35_TeamApart.p x = armplanlaw35_TeamApart.p.F x := by
  have h : peFn armplanlaw35_TeamApart.E Try.f5 armplanlaw35_TeamApart.ann armplanlaw35_TeamApart.p x = armplanlaw35_TeamApart.F0 x.1.1 x.1.2.1 x.1.2.2.1 x.1.2.2.2.1 := by kernel_rfl
  exact h.trans (by show _ = armplanlaw35_TeamApart.F x.1.1 x.1.2.1 x.1.2.2.1 x.1.2.2.2.1; rw [armplanlaw35_TeamApart.F_eq])
set_option maxRecDepth 100000 in
theorem armplanlaw35_TeamApart.sound : ProcSound Try.prog glob0 5 armplanlaw35_TeamApart.p :=
  fn_sound (E := armplanlaw35_TeamApart.E) (c := armplanlaw35_TeamApart.body0) (ann := armplanlaw35_TeamApart.ann) armplanlaw35_TeamApart.ok Try.func5 (of_decide_eq_true (by kernel_rfl)) rfl rfl rfl (by decide +kernel) (⟨(SubsOk_z _ _), ⟨(SubsOk_z _ _), ⟨(SubsOk_z _ _), ⟨⟨(SubsOk_z _ _), (sub_of rfl armplanlaw35_TeamApart.p0.sound)⟩, (SubsOk_z _ _)⟩⟩⟩⟩ : SubsOk armplanlaw35_TeamApart.E armplanlaw35_TeamApart.body0 armplanlaw35_TeamApart.ann) (fun _ => rfl) rfl armplanlaw35_TeamApart.eq

end Go.Abs
