/- A call: what comes back is a step of the caller's (the theorem). -/
import Derived.Test.YtcljanaleeapnaaDoorAbs21
set_option linter.unusedVariables false
set_option linter.unusedSimpArgs false
namespace Go.Abs
open Go

section
variable {C : Ctx} {I : Interp} {objs : Nat → Option Obj} {w : World}

/-- The called function's own view. -/
def calleeBan (C : Ctx) (I : Interp) (objs : Nat → Option Obj) (m : Met) : Bad := fun g o => C.ban g o ∨ ∃ id ob, objs id = some ob ∧ cellsOf I id ob g o ∧ ¬ Tied m id ∧ (id ∈ m.seen → ∀ e t xs, ob ≠ .row e t xs)
def calleeCtx (C : Ctx) (I : Interp) (objs : Nat → Option Obj) (w : World) (n0 : Nat) (S : Shape) (x : Tup S) (m : Met) : Ctx :=
  { E := { C.E with n0 := n0 }, w0 := w, mut0 := MutOf (newI I S m) (ofC S x).objs, ban := calleeBan C I objs m, v0 := (newI I S m).v, sz0 := (newI I S m).sz }

theorem callee_rel (R : WRel C I objs w) {p : Proc} {args : List Val} {vs : List Value} (hv : F2 (VRep I (Dom objs) w (badOf C I objs)) args vs) {x : Tup p.inS} {m : Met} (h : takeS p.inS 0 objs (numbered 0 args) = some (x, m))
    (hlive : allLive p.inS.objs p.n0 = true) :
    let D := calleeCtx C I objs w p.n0 p.inS x m
    WRel D (newI I p.inS m) (ofC p.inS x).objs w ∧
    (∀ i, VRep (newI I p.inS m) (Dom (ofC p.inS x).objs) w (badOf D (newI I p.inS m) (ofC p.inS x).objs) ((ofC p.inS x).slots i) (vs.getD i undef)) ∧
    (∀ g o, MutOf (newI I p.inS m) (ofC p.inS x).objs g o → ∃ o' n ob0, (o', some n) ∈ m.ids ∧ objs n = some ob0 ∧ cellsOf I n ob0 g o) ∧ Inj m.ids := by
  intro D
  have hu : ∀ i, VRep I (Dom objs) w (badOf C I objs) (numbered 0 args i) (vs.getD i undef) := fun i => by
    have := numbered_of 0 hv i
    rwa [Nat.zero_add] at this
  obtain ⟨h1, h2, h3, h4, h5, h6, h7, h8, h9⟩ := takeS_rep R h hu (calleeBan C I objs m) (fun g o hb => hb) D rfl
  have hmut : ∀ g o, MutOf (newI I p.inS m) (ofC p.inS x).objs g o → ∃ o' n ob0, (o', some n) ∈ m.ids ∧ objs n = some ob0 ∧ cellsOf I n ob0 g o := by
    rintro g o ⟨id, ob, ho, hc⟩
    obtain ⟨n, ob0, a, b, c⟩ := h2 id ob g o ho hc
    exact ⟨id, n, ob0, a, b, c⟩
  refine ⟨⟨h1, ?_, h3, ?_, Fr.refl _ _, fun g o hm => .inl hm, h4, ?_, ?_⟩, h5, hmut, h8⟩
  · intro g o hm
    obtain ⟨o', n, ob0, _, a, b⟩ := hmut g o hm
    exact R.lt g o ⟨n, ob0, a, b⟩
  · intro g cs hg
    obtain ⟨a, ws, e, hf, hr⟩ := R.globs g cs hg
    exact ⟨a, ws, e, hf.imp fun l v => DRep.mono h6 l v, fun i v hv => h6 _ _ (hr i v hv)⟩
  · rintro g o (hb | ⟨id, ob, ho, hc, _⟩)
    · exact Nat.lt_of_lt_of_le (R.banlt g o hb) R.frame.size
    · exact R.lt g o ⟨id, ob, ho, hc⟩
  · intro k hk
    exact ⟨live_some p.inS.objs x.2 k (allLive_of hlive hk), rfl, rfl⟩

theorem call_step (R : WRel C I objs w) {p : Proc} {x : Tup p.inS} {m : Met} {fr : Nat}
    (hfree : freeAll objs fr p.outS.objs.length = true) (hlive : allLive p.inS.objs p.n0 = true) (hle : p.n0 ≤ p.outS.objs.length) (hties : tiesOk objs m.ids m.ids = true) (hinj : Inj m.ids)
    (hmut : ∀ g o, MutOf (newI I p.inS m) (ofC p.inS x).objs g o → ∃ o' n ob0, (o', some n) ∈ m.ids ∧ objs n = some ob0 ∧ cellsOf I n ob0 g o)
    {objs1 : Nat → Option Obj} (R1 : WRel C I objs1 w) (K1 : Keep I (Dom objs) w (badOf C I objs) I (Dom objs1) w (badOf C I objs1)) (hF : Froz objs objs1) (hseen : ∀ n, n ∉ m.seen → objs1 n = objs n) (hapart : ∀ n, Tied m n → n ∉ m.seen)
    (y : Tup p.outS) (hz : (slotsDat p.outS.slots || objsDat p.outS.objs) = true → ∀ r e t xs, r ∈ m.seen → objs r = some (.row e t xs) → objs1 r = some (.frow t xs))
    {J : Interp} {w' : World} {v : Value} (RD : WRel (calleeCtx C I objs w p.n0 p.inS x m) J (ofC p.outS y).objs w')
    (hres : VRep J (Dom (ofC p.outS y).objs) w' (badOf (calleeCtx C I objs w p.n0 p.inS x m) J (ofC p.outS y).objs) (results (makeSlots id p.outS.slots y.1)) v) :
    StepOk C I objs1 w (results (makeSlots (backId p.n0 m.ids fr) p.outS.slots y.1))
      (List.append (gone p.n0 m.ids) (backObjs (backId p.n0 m.ids fr) 0 (makeObjs (backId p.n0 m.ids fr) p.outS.objs y.2))) v w' := by
  classical
  let D := calleeCtx C I objs w p.n0 p.inS x m
  let ρ := backId p.n0 m.ids fr
  let k := p.outS.objs.length
  let I2 : Interp := ⟨fun i => if fr ≤ i ∧ i < fr + k then J.v (i - fr) else I.v i, fun i => if fr ≤ i ∧ i < fr + k then J.sz (i - fr) else I.sz i⟩
  let wr := List.append (gone p.n0 m.ids) (backObjs ρ 0 (makeObjs ρ p.outS.objs y.2))
  let objs2 := putWr objs1 wr
  have hwr : ∀ i, i ∈ wr.map (·.1) ↔ i ∈ (gone p.n0 m.ids).map (·.1) ∨ i ∈ (backObjs ρ 0 (makeObjs ρ p.outS.objs y.2)).map (·.1) := by
    intro i
    show i ∈ (gone p.n0 m.ids ++ backObjs ρ 0 (makeObjs ρ p.outS.objs y.2)).map (·.1) ↔ _
    rw [List.map_append, List.mem_append]
  have hfr : ∀ i, fr ≤ i → i < fr + k → objs i = none := by
    intro i h1 h2
    have := freeAll_of hfree (o := i - fr) (by omega)
    rwa [show fr + (i - fr) = i by omega] at this
  have hfr1 : ∀ i, fr ≤ i → i < fr + k → objs1 i = none := fun i h1 h2 => froz_none hF (hfr i h1 h2)
  have htied : ∀ o n, (o, some n) ∈ m.ids → Dom objs n ∧ findId o m.ids = some (some n) ∧ ¬ (fr ≤ n ∧ n < fr + k) := by
    intro o n hm
    obtain ⟨h1, h2⟩ := tiesOk_of hties o n hm
    refine ⟨h1, h2, fun ⟨h3, h4⟩ => ?_⟩
    have := hfr n h3 h4
    simp [Dom, this] at h1
  -- where an object goes
  have hρ : ∀ o, o < k → (o < p.n0 ∧ ∃ n, findId o m.ids = some (some n) ∧ ρ o = n) ∨ ρ o = fr + o := by
    intro o ho
    simp only [ρ, backId]
    cases hb : Nat.blt o p.n0 with
    | false => exact .inr rfl
    | true =>
      have hlt : o < p.n0 := Nat.le_of_ble_eq_true hb
      simp only [cond_true]
      split
      · rename_i n hn
        exact .inl ⟨hlt, n, hn, rfl⟩
      · exact .inr rfl
  have hI2 : ∀ i, Dom objs1 i → I2.v i = I.v i ∧ I2.sz i = I.sz i := by
    intro i hd
    have : ¬ (fr ≤ i ∧ i < fr + k) := fun ⟨h1, h2⟩ => by
      have := hfr1 i h1 h2
      simp [Dom, this] at hd
    simp only [I2, if_neg this, and_self]
  have hIρ : ∀ o, o < k → I2.v (ρ o) = J.v o ∧ I2.sz (ρ o) = J.sz o := by
    intro o ho
    rcases hρ o ho with ⟨hlt, n, hn, e⟩ | e
    · have hnf := (htied o n (findId_mem hn)).2.2
      obtain ⟨_, b1, b2⟩ := RD.base o hlt
      rw [e]
      simp only [I2, if_neg hnf]
      rw [b1, b2]
      simp [calleeCtx, newI, hn]
    · rw [e]
      have : fr ≤ fr + o ∧ fr + o < fr + k := by omega
      simp only [I2, if_pos this, show fr + o - fr = o by omega, and_self]
  have hmem : ∀ i, i ∈ wr.map (·.1) → ∃ ob, objs2 i = some ob ∧ (ob = .gone ∨ ∃ o, o < k ∧ i = ρ o ∧ getO (makeObjs ρ p.outS.objs y.2) o = some ob) := by
    intro i hi
    obtain ⟨ob, h1, h2⟩ := putWr_mem wr objs1 i hi
    refine ⟨ob, h1, ?_⟩
    have h2' : (i, ob) ∈ gone p.n0 m.ids ++ backObjs ρ 0 (makeObjs ρ p.outS.objs y.2) := h2
    rcases List.mem_append.1 h2' with h3 | h3
    · exact .inl (gone_mem h3).1
    · obtain ⟨o, h4, h5, h6⟩ := back_mem ρ h3
      rw [makeObjs_length] at h4
      rw [Nat.zero_add] at h5
      exact h6.imp id fun h6 => ⟨o, h4, h5, h6⟩
  have hhas : ∀ o, o < k → ρ o ∈ wr.map (·.1) := by
    intro o ho
    have := back_has ρ (k := 0) (l := makeObjs ρ p.outS.objs y.2) (o := o) (by rw [makeObjs_length]; exact ho)
    rw [Nat.zero_add] at this
    exact (hwr _).2 (.inr this)
  have htw : ∀ o n, (o, some n) ∈ m.ids → n ∈ wr.map (·.1) := by
    intro o n hm
    by_cases hlt : o < p.n0
    · have hf := (htied o n hm).2.1
      have := hhas o (Nat.lt_of_lt_of_le hlt hle)
      rcases hρ o (Nat.lt_of_lt_of_le hlt hle) with ⟨_, n', hn', e⟩ | e
      · rw [hf] at hn'
        simp only [Option.some.injEq] at hn'
        rw [e, ← hn'] at this
        exact this
      · exfalso
        have hb : Nat.blt o p.n0 = true := Nat.ble_eq_true_of_le hlt
        simp only [ρ, backId, hb, cond_true, hf] at e
        exact (htied o n hm).2.2 ⟨by omega, by omega⟩
    · exact (hwr n).2 (.inl (gone_has hm (by omega)))
  have hdomρ : ∀ o, Dom (ofC p.outS y).objs o → o < k ∧ Dom objs2 (ρ o) := by
    intro o ho
    have hlt : o < k := by
      unfold Dom at ho
      obtain ⟨ob, hob⟩ := Option.isSome_iff_exists.1 ho
      have := getO_lt hob
      rwa [makeObjs_length] at this
    obtain ⟨ob, h1, _⟩ := hmem (ρ o) (hhas o hlt)
    exact ⟨hlt, by simp [Dom, h1]⟩
  have N : Ren J (Dom (ofC p.outS y).objs) I2 (Dom objs2) ρ :=
    ⟨fun o ho => (hdomρ o ho).2, fun o ho => (hIρ o (hdomρ o ho).1).1, fun o ho => (hIρ o (hdomρ o ho).1).2⟩
  -- an object that came back, as the called function had it
  have hback : ∀ o ob, getO (makeObjs ρ p.outS.objs y.2) o = some ob → ∃ (s : OS) (z : s.T) (ob' : Obj), s.make ρ z = some ob ∧ s.make id z = some ob' ∧ (ofC p.outS y).objs o = some ob' ∧ (objsDat [s] = true → objsDat p.outS.objs = true) := by
    intro o ob ho
    obtain ⟨s, z, ob', h1, h2, h3, h4⟩ := makeObjs_two ρ id p.outS.objs y.2 o ob ho
    exact ⟨s, z, ob', h1, h2, h3, h4⟩
  have hnoD : ∀ (s : OS) (z : s.T) (o : Nat) (ob ob' : Obj), s.make id z = some ob' → s.make ρ z = some ob → Dom (ofC p.outS y).objs o → (ofC p.outS y).objs o = some ob' → ∀ g q, cellsOf I2 (ρ o) ob g q ↔ cellsOf J o ob' g q := by
    intro s z o ob ob' h1 h2 hd h3 g q
    have hv2 := (hIρ o (hdomρ o hd).1).1
    cases s with
    | row e t =>
      obtain rfl := Option.some.inj h1
      obtain rfl := Option.some.inj h2
      simp only [cellsOf, hv2]
    | box ls =>
      obtain rfl := Option.some.inj h1
      obtain rfl := Option.some.inj h2
      simp only [cellsOf, hv2, makeLs_length ρ id ls z]
    | dead => cases h1
  have hcell : ∀ i ob', i ∈ wr.map (·.1) → objs2 i = some ob' → ∀ g q, cellsOf I2 i ob' g q → ∃ o ob0, o < k ∧ i = ρ o ∧ (ofC p.outS y).objs o = some ob0 ∧ cellsOf J o ob0 g q := by
    intro i ob' hi ho g q hc
    obtain ⟨ob, h1, h2⟩ := hmem i hi
    rw [ho] at h1
    obtain rfl := Option.some.inj h1
    rcases h2 with rfl | ⟨o, hlt, rfl, h3⟩
    · exact hc.elim
    · obtain ⟨s, z, ob0, h4, h5, h6, _⟩ := hback o ob' h3
      exact ⟨o, ob0, hlt, rfl, h6, (hnoD s z o ob' ob0 h5 h4 (by simp [Dom, h6]) h6 g q).1 hc⟩
  -- the data that came back may be read on
  have hA : (slotsDat p.outS.slots || objsDat p.outS.objs) = true → ∀ a u, At w' (badOf D J (ofC p.outS y).objs) a u → At w' (badOf C I2 objs2) a u := by
    intro hd a u hat
    refine ⟨hat.1, fun hb => hat.2 ?_⟩
    rcases hb with hb | ⟨i, ob, hi, hc⟩
    · exact .inl (.inl hb)
    · by_cases hw : i ∈ wr.map (·.1)
      · obtain ⟨o, ob0, _, _, h3, h4⟩ := hcell i ob hw hi _ _ hc
        exact .inr ⟨o, ob0, h3, h4⟩
      · have h1 : objs1 i = some ob := by rw [← hi]; exact (putWr_other wr objs1 i hw).symm
        have hc1 : cellsOf I i ob a.block a.off := (cellsOf_congr (hI2 i (by simp [Dom, h1])).1 ob _ _).1 hc
        have hnt : ¬ Tied m i := fun ⟨o, hm⟩ => hw (htw o i hm)
        by_cases hs : i ∈ m.seen
        · rcases hF i with h2 | ⟨e, t, xs, h2, h3⟩
          · cases ob with
            | row e t xs =>
              rw [h1] at h2
              have := hz hd i e t xs hs h2.symm
              rw [h1] at this
              cases this
            | box ls => exact .inl (.inr ⟨i, _, h2 ▸ h1, hc1, hnt, fun _ => by simp⟩)
            | frow t xs => exact hc1.elim
            | fbox ds => exact hc1.elim
            | gone => exact hc1.elim
          · rw [h1] at h3
            obtain rfl := Option.some.inj h3
            exact hc1.elim
        · refine .inl (.inr ⟨i, ob, ?_, hc1, hnt, fun hh => absurd hh hs⟩)
          rw [← hseen i hs]
          exact h1
  have hD1 : ∀ g q, D.mut0 g q → ∃ id2 ob2, id2 ∈ wr.map (·.1) ∧ objs1 id2 = some ob2 ∧ cellsOf I id2 ob2 g q := by
    intro g q hm
    obtain ⟨o', n, ob0, h1, h2, h3⟩ := hmut g q hm
    exact ⟨n, ob0, htw o' n h1, by rw [hseen n (hapart n ⟨o', h1⟩)]; exact h2, h3⟩
  have hU := R1.upd (I' := I2) (objs' := objs2) (w' := w') D.mut0 (fun i => i ∈ wr.map (·.1)) RD.frame hD1 hI2 (fun id hd => putWr_dom wr objs1 id hd) (fun id hn => putWr_other wr objs1 id hn) (by
      intro i ob' hi ho g q hc
      obtain ⟨o, ob0, hlt, e, h3, h4⟩ := hcell i ob' hi ho g q hc
      refine ⟨?_, RD.lt g q ⟨o, ob0, h3, h4⟩⟩
      rcases RD.within g q ⟨o, ob0, h3, h4⟩ with h5 | h5
      · exact .inl (hD1 g q h5)
      · exact .inr h5)
    (by
      intro i i' ob ob' g q hi hi' ho ho' hc hc'
      obtain ⟨o, ob0, _, e, h3, h4⟩ := hcell i ob hi ho g q hc
      obtain ⟨o', ob0', _, e', h3', h4'⟩ := hcell i' ob' hi' ho' g q hc'
      have := RD.disj o o' ob0 ob0' g q h3 h3' h4 h4'
      rw [e, e', this])
    (by
      intro K i ob' hi ho
      obtain ⟨ob, h1, h2⟩ := hmem i hi
      rw [ho] at h1
      obtain rfl := Option.some.inj h1
      rcases h2 with rfl | ⟨o, hlt, rfl, h3⟩
      · trivial
      · obtain ⟨s, z, ob0, h4, h5, h6, h7⟩ := hback o ob' h3
        exact (OS.ren N s z o (by simp [Dom, h6]) ob0 ob' (fun hh => hA (by rw [h7 hh]; simp)) h5 h4 (RD.ok o ob0 h6)).1)
  exact ⟨I2, hU.1, hU.2, results_ren N p.outS.slots y.1 v (fun hh => hA (by rw [hh]; rfl)) hres⟩

theorem call_of (R : WRel C I objs w) {f : FuncId} {p : Proc} (hp : ProcSound C.E.P C.E.glob f p) {fr : Nat} {args : List Val} {vs : List Value} (hv : F2 (VRep I (Dom objs) w (badOf C I objs)) args vs) {out : Out} (h : (callE objs fr p args).den = some out) :
    Calls C.E.P f vs.toArray w fun
      | .returned v, w' => StepOk C I objs w out.val out.wr v w'
      | _, _ => False := by
  unfold callE at h
  split at h
  · rename_i x m hx
    cases hb : (freeAll objs fr p.outS.objs.length && (Nat.beq (List.length args) p.nargs && (allLive p.inS.objs p.n0 && (Nat.ble p.n0 p.outS.objs.length && tiesOk objs m.ids m.ids)))) with
    | false => rw [hb] at h; cases h
    | true =>
      rw [hb] at h
      simp only [Bool.and_eq_true] at hb
      obtain ⟨hb1, hb2, hb3, hb4, hb5⟩ := hb
      simp only [Bool.not_true, cond_false, Eff.den] at h
      cases hr : p.F x with
      | none => rw [hr] at h; cases h
      | some r =>
        rw [hr] at h
        simp only [Option.bind_some, Option.some.injEq] at h
        subst h
        obtain ⟨h1, h2, h3, h4⟩ := callee_rel R hv hx hb3
        have hcall := hp.2 (calleeCtx C I objs w p.n0 p.inS x m) rfl rfl rfl x r hr (newI I p.inS m) vs.toArray h1 (fun i => by
          rw [show vs.toArray.getD i undef = vs.getD i undef by simp]
          exact h2 i) (by
          have := Nat.eq_of_beq_eq_true hb2
          rw [List.size_toArray, ← hv.length]
          exact this)
        refine hcall.mono fun e w' he => ?_
        match e, he with
        | .returned v, ⟨J, RD, hres⟩ =>
          have hap : ∀ n, Tied m n → n ∉ m.seen := fun n ⟨o, hm⟩ hs => takeS_apart hx n o hs hm
          by_cases hd : (slotsDat p.outS.slots || objsDat p.outS.objs) = true
          · obtain ⟨f1, f2, f3, f4, f5⟩ := freezes_self R m.seen
            have := call_step R hb1 hb3 (Nat.le_of_ble_eq_true hb4) hb5 h4 h3 f2 f3 f1 f5 hap (p.post r) (fun _ => f4) RD hres
            simp only [hd, cond_true]
            exact StepOk.after rfl f3 this
          · have hd' : (slotsDat p.outS.slots || objsDat p.outS.objs) = false := by simpa using hd
            have := call_step R hb1 hb3 (Nat.le_of_ble_eq_true hb4) hb5 h4 h3 R (Keep.refl _ _ _ _) (fun _ => .inl rfl) (fun _ _ => rfl) hap (p.post r) (fun hh => absurd hh hd) RD hres
            simp only [hd', cond_false]
            exact this
  · cases h
end
end Go.Abs
