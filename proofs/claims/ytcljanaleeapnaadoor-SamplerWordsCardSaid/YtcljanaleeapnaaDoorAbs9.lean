/- A store into an element; places; new rows. -/
import Derived.Test.YtcljanaleeapnaaDoorAbs8
import Derived.Laws.MakeOwn
import Derived.Laws.Slices
set_option linter.unusedVariables false
set_option linter.unusedSimpArgs false
namespace Go.Abs
open Go

section
variable {C : Ctx} {I : Interp} {objs : Nat → Option Obj} {w : World}

theorem any_beq {rs : List Nat} {r : Nat} (h : rs.any (Nat.beq r) = false) : r ∉ rs := by
  intro hm
  have : rs.any (Nat.beq r) = true := List.any_eq_true.2 ⟨r, hm, Nat.beq_refl r⟩
  rw [h] at this
  cases this

theorem storeRow (R : WRel C I objs w) {t : TypeId} {r i off : Nat} {e : TypeId} {t' : Ty} {xs : List (El t')} {av : AV} {x y : Value} {ds : List DLeaf} {rs : List Nat} {z : El t'} {cc : List DLeaf} (hb : objs r = some (.row e t' xs))
    (hx : VRep I (Dom objs) w (badOf C I objs) (lf1 (.ep r i off)) x) (hy : AVRep I (Dom objs) w (badOf C I objs) av y)
    (hn : (avLeaves av).length = C.E.P.cellsOf t) (h0 : C.E.P.cellsOf t ≠ 0) (hds : dOfs objs (avLeaves av) = some (ds, rs)) (hrs : rs.any (Nat.beq r) = false)
    (hcut : cutN (leaves t' (xs.getD i (dflt t'))) off ds.length = some cc) (hof : ofLeaves t' (putN (leaves t' (xs.getD i (dflt t'))) off ds) = some (z, [])) :
    ∃ w', (Instr.storeAt t x y).run C.E.P w = .ok () w' ∧ StepOk C I objs w .undef (List.append (freezes objs rs) [(r, .row e t' (xs.set i z))]) undef w' := by
  obtain ⟨hF, R1, K1, hz1, hz2⟩ := freezes_self R rs
  have hb1 : putWr objs (freezes objs rs) r = some (.row e t' xs) := by rw [hz2 r (any_beq hrs)]; exact hb
  generalize hobjs1 : putWr objs (freezes objs rs) = objs1 at *
  have hfy := avLeaves_of hy
  have hly := hfy.length
  have hfd := dOfs_of R1 K1 hF hds hz1 hfy
  have hdl := hfd.length
  obtain ⟨hd, g, n, cap, hv, hi, rfl⟩ := hx
  obtain ⟨hsz, cells, hrow, ho⟩ := R1.ok r _ hb1
  have hn' : n = xs.length := by
    rcases ownsRow_shape ho with ⟨h2, _⟩ | ⟨g2, c2, h2, _⟩
    · rw [hv] at h2; cases h2
    · rw [hv] at h2; injection h2
  subst hn'
  have hlen := hrow.length (CellsOk.length t')
  rcases ho.2 with ⟨h2, _⟩ | ⟨g', cap', cur, hv', hbase, hh, hc1, hc2, hcs, htk⟩
  · rw [hv] at h2; cases h2
  rw [hv] at hv'
  injection hv' with hv' _ hcap; injection hv' with hv'; injection hv' with hg
  subst hg; subst hcap
  have hcell : ∀ k, k < xs.length * nleaf t' → cells[k]? = cur[k]? := by
    intro k hk
    rw [← htk, List.getElem?_take, if_pos hk]
    simp
  have hge := hrow.get (CellsOk.length t') i _ (getD_of (dflt t') hi)
  have hbig : i * nleaf t' + nleaf t' ≤ xs.length * nleaf t' := by
    rw [← Nat.succ_mul]
    exact Nat.mul_le_mul_right _ hi
  have hcapb : xs.length * nleaf t' ≤ cap * nleaf t' := Nat.mul_le_mul_right _ hc1
  generalize hes : (cells.drop (i * nleaf t')).take (nleaf t') = es at hge
  have hesl : es.length = nleaf t' := CellsOk.length t' _ _ hge
  have hesg : ∀ k, k < nleaf t' → es[k]? = cells[i * nleaf t' + k]? := by
    intro k hk
    rw [← hes, List.getElem?_take, if_pos hk, List.getElem?_drop]
  have hlv := leaves_of t' _ _ hge
  obtain ⟨_, hccl, hcut2⟩ := cutN_of hcut
  have hle : off + ds.length ≤ nleaf t' := by
    rw [leaves_length] at hcut2
    exact hcut2
  have hput := hlv.put off hfd
  obtain ⟨c1, c2, hcc, hz, hrest⟩ := ofLeaves_of t' _ _ _ _ hof hput
  have hc2n : c2 = [] := by
    match c2, hrest with
    | [], _ => rfl
  subst hc2n
  rw [List.append_nil] at hcc
  subst hcc
  have hysz : y.cells.toList.length = y.cells.size := by simp
  obtain ⟨c', w', hr, g2, g3, g4, g5, g6, g7, g8, g9⟩ := storeVar_run C.E.P w t g (i * I.sz r + off) y cur e (by omega) h0 hh (by rw [hsz]; omega) (F2.ones hfy)
  refine ⟨w', by simpa [Instr.storeAt, Instr.sureAddr] using hr, I, ?_⟩
  have hset := hrow.set (CellsOk.length t') i z _ hi hz
  have hnew : cells.take (i * nleaf t') ++ putN es off y.cells.toList ++ cells.drop (i * nleaf t' + nleaf t') = putN cells (i * nleaf t') (putN es off y.cells.toList) := by
    rw [putN_eq cells, putN_length (by omega), hesl, List.append_assoc]
  rw [hnew] at hset
  have hU := R1.upd (I' := I) (objs' := upd objs1 r (some (.row e t' (xs.set i z)))) (w' := w') (fun g1 o1 => g1 = g ∧ i * I.sz r + off ≤ o1 ∧ o1 < i * I.sz r + off + y.cells.size) (fun id => id = r)
    ⟨g5, g6, g7, by omega, fun k hk => by
      by_cases hkg : k = g
      · subst hkg
        refine .inr (.inr ⟨cur, c', e, _, hh, g2, g3, fun j hj => ?_⟩)
        rw [g4 j, if_neg (fun hh => hj ⟨rfl, hh.1, by omega⟩)]
      · exact .inr (.inl (g9 k hkg))⟩
    (fun g1 o1 ⟨e1, e2, e3⟩ => ⟨r, _, rfl, hb1, xs.length, cap, by subst e1; exact hv⟩)
    (fun _ _ => ⟨rfl, rfl⟩) (fun id hd => dom_upd hd) (fun id h => upd_other _ _ _ _ h)
    (fun id ob' h ho1 g1 o1 hcell1 => by
      subst h
      rw [upd_same] at ho1
      obtain rfl := Option.some.inj ho1
      obtain ⟨n2, c2, hv2⟩ := hcell1
      have hmut : cellsOf I id (.row e t' xs) g1 o1 := ⟨n2, c2, hv2⟩
      exact ⟨.inl ⟨id, _, rfl, hb1, hmut⟩, by rw [g8]; exact R1.lt g1 o1 ⟨id, _, hb1, hmut⟩⟩)
    (fun id id' _ _ _ _ h h' _ _ _ _ => h.trans h'.symm)
    (fun K id ob' h ho1 => by
      subst h
      rw [upd_same] at ho1
      obtain rfl := Option.some.inj ho1
      refine ⟨hsz, _, hset.imp (fun x c => CellsOk.mono K.ha t' x c), ?_, .inr ⟨g, cap, c', by rw [hv, List.length_set], hbase, g2, by rw [List.length_set]; exact hc1, hc2, by rw [g3]; exact hcs, ?_⟩⟩
      · rw [putN_length (by rw [putN_length (by omega)]; omega), hlen, List.length_set]
      · rw [List.length_set]
        apply List.ext_getElem?
        intro k
        have hinner : (putN es off y.cells.toList).length = nleaf t' := by rw [putN_length (by omega)]; exact hesl
        rw [putN_get (by omega), List.getElem?_take, hinner]
        by_cases hk : k < xs.length * nleaf t'
        · rw [if_pos hk, Array.getElem?_toList, g4 k, hsz]
          by_cases hk2 : i * nleaf t' ≤ k ∧ k < i * nleaf t' + nleaf t'
          · rw [if_pos hk2, putN_get (by omega)]
            by_cases hk3 : off ≤ k - i * nleaf t' ∧ k - i * nleaf t' < off + y.cells.toList.length
            · rw [if_pos hk3, if_pos (by omega), show k - (i * nleaf t' + off) = k - i * nleaf t' - off by omega]
            · rw [if_neg hk3, if_neg (by omega), hesg _ (by omega), show i * nleaf t' + (k - i * nleaf t') = k by omega, hcell k hk]
          · rw [if_neg hk2, if_neg (by omega), hcell k hk]
        · rw [if_neg hk, if_neg (by omega)]
          exact (List.getElem?_eq_none (by omega)).symm)
  rw [putWr_append, hobjs1, putWr_one]
  exact ⟨hU.1, K1.trans hU.2, trivial⟩

theorem storeOut_of (R : WRel C I objs w) {t : TypeId} {a v : Val} {out : Out} {x y : Value} (h : storeOut objs C.E.P t a v = some out) (hx : VRep I (Dom objs) w (badOf C I objs) a x) (hy : VRep I (Dom objs) w (badOf C I objs) v y) :
    ∃ w', (Instr.storeAt t x y).run C.E.P w = .ok () w' ∧ StepOk C I objs w out.val out.wr undef w' := by
  unfold storeOut at h
  split at h
  · rename_i av
    cases hc : (Nat.beq (List.length (avLeaves av)) (C.E.P.cellsOf t) && Nat.ble 1 (C.E.P.cellsOf t)) with
    | false => rw [hc] at h; cases h
    | true =>
      rw [hc] at h
      simp only [cond_true] at h
      simp only [Bool.and_eq_true] at hc
      have hn : (avLeaves av).length = C.E.P.cellsOf t := Nat.eq_of_beq_eq_true hc.1
      have h0 : C.E.P.cellsOf t ≠ 0 := by have := Nat.le_of_ble_eq_true hc.2; omega
      split at h
      · rename_i b off
        split at h
        · rename_i ls hb
          split at h
          · rename_i cc hcut
            obtain rfl := Option.some.inj h
            obtain ⟨_, hcl, hle⟩ := cutN_of hcut
            exact storeBox R hb hx hy hn h0 hle
          · cases h
        · cases h
      · rename_i r i off
        split at h
        · rename_i e t' xs hb
          split at h
          · rename_i ds rs hds
            cases hr : rs.any (Nat.beq r) with
            | true => rw [hr] at h; cases h
            | false =>
              rw [hr] at h
              simp only [cond_false] at h
              split at h
              · rename_i cc hcut
                split at h
                · rename_i z hof
                  obtain rfl := Option.some.inj h
                  exact storeRow R hb hx hy hn h0 hds hr hcut hof
                · cases h
              · cases h
          · cases h
        · cases h
      · cases h
  · cases h

end
end Go.Abs
