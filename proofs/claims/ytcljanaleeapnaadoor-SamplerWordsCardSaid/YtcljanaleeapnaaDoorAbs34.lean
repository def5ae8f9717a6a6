/- A law: what its reading answers, its function returns; memory below stays. -/
import Derived.Test.YtcljanaleeapnaaDoorAbs33
set_option linter.unusedVariables false
set_option linter.unusedSimpArgs false
namespace Go.Abs
open Go Go.RowKit

def I0 : Interp := ⟨fun _ => undef, fun _ => 0⟩
def noBad : Bad := fun _ _ => False
def noDom : Nat → Prop := fun _ => False

theorem below_of {w w' : World} (h : Fr noBad w w') : Below w.heap.size w w' := by
  refine ⟨h.os, h.tape, h.output, h.size, fun k hk => ?_⟩
  rcases h.block k hk with h1 | h1 | ⟨c, c', e, f, h1, h2, h3, h4⟩
  · exact (h1 0).elim
  · exact h1
  · have : c' = c := by
      apply Array.ext_getElem?
      intro i
      exact h4 i (fun hh => hh)
    rw [h1, h2, this]

theorem law_of {P : Program} {glob : Nat → Option (List DLeaf)} {f : FuncId} {p : Proc} (hp : ProcSound P glob f p) (hobj : p.inS.objs = []) (h0 : p.n0 = 0) {x : Tup p.inS} {r : p.R} (hF : p.F x = some r) {W : World} {args : Array Value}
    (hglob : ∀ g cs, glob g = some cs → LRep I0 noDom W noBad (.dp cs) (.pointer (some ⟨g, 0, none⟩))) (hargs : ∀ i, VRep I0 noDom W noBad ((ofC p.inS x).slots i) (args.getD i undef)) (hn : args.size = p.nargs) :
    Calls P f args W fun
      | .returned v, W' => Below W.heap.size W W' ∧ ∃ (J : Interp) (dom : Nat → Prop) (bad : Bad), VRep J dom W' bad (results (makeSlots id p.outS.slots (p.post r).1)) v
      | _, _ => False := by
  let C : Ctx := { E := { P := P, ty := fun _ => none, glob := glob, proc := fun _ => none, lproc := fun _ => none, n0 := 0, ntmps := 0 }, w0 := W, mut0 := noBad, ban := noBad, v0 := fun _ => undef, sz0 := fun _ => 0 }
  have hnone : ∀ i, (ofC p.inS x).objs i = none := by
    intro i
    show getO (makeObjs id p.inS.objs x.2) i = none
    have hl := makeObjs_length id p.inS.objs x.2
    have hlen : p.inS.objs.length = 0 := by rw [hobj]; rfl
    rw [hlen] at hl
    generalize makeObjs id p.inS.objs x.2 = l at hl
    match l, hl with
    | [], _ => rfl
  have hdom : Dom (ofC p.inS x).objs = noDom := by
    funext i
    simp [Dom, noDom, hnone i]
  have hbad : badOf C I0 (ofC p.inS x).objs = noBad := by
    funext g o
    simp only [badOf, noBad, eq_iff_iff, iff_false]
    rintro (h | ⟨id, ob, h, _⟩)
    · exact h
    · rw [hnone id] at h
      cases h
  have hmut : ∀ g o, ¬ MutOf I0 (ofC p.inS x).objs g o := by
    rintro g o ⟨id, ob, h, _⟩
    rw [hnone id] at h
    cases h
  have R : WRel C I0 (ofC p.inS x).objs C.w0 := by
    refine ⟨?_, fun g o h => (hmut g o h).elim, ?_, ?_, Fr.refl _ _, fun g o h => (hmut g o h).elim, fun g o h => (hmut g o h).elim, fun g o h => h.elim, fun k hk => absurd hk (Nat.not_lt_zero k)⟩
    · intro id ob h
      rw [hnone id] at h
      cases h
    · intro id id' ob ob' g o h
      rw [hnone id] at h
      cases h
    · intro g cs h
      rw [hdom, hbad]
      exact hglob g cs h
  refine (hp.2 C rfl rfl h0.symm x r hF I0 args R (fun i => by rw [hdom, hbad]; exact hargs i) hn).mono fun e w' he => ?_
  match e, he with
  | .returned v, ⟨J, RJ, hv⟩ => exact ⟨below_of RJ.frame, J, _, _, hv⟩

/-- A law that answers one bool. -/
theorem law_bool {P : Program} {glob : Nat → Option (List DLeaf)} {f : FuncId} {p : Proc} (hp : ProcSound P glob f p) (hobj : p.inS.objs = []) (h0 : p.n0 = 0) {x : Tup p.inS} {r : p.R} (hF : p.F x = some r)
    (hres : results (makeSlots id p.outS.slots (p.post r).1) = sc (.bool true)) {W : World} {args : Array Value}
    (hglob : ∀ g cs, glob g = some cs → LRep I0 noDom W noBad (.dp cs) (.pointer (some ⟨g, 0, none⟩))) (hargs : ∀ i, VRep I0 noDom W noBad ((ofC p.inS x).slots i) (args.getD i undef)) (hn : args.size = p.nargs) :
    Calls P f args W fun e W' => e = .returned (.bool true) ∧ Below W.heap.size W W' := by
  refine (law_of hp hobj h0 hF hglob hargs hn).mono fun e w' he => ?_
  match e, he with
  | .returned v, ⟨hb, J, dom, bad, hv⟩ =>
    rw [hres] at hv
    exact ⟨by rw [hv.1], hb⟩

end Go.Abs
