/- A part of the proof that the text with the row names: printed readings of functions, or plain lemmas about them. -/
import Derived.Test.YtceacicpjgffgaaC41GLProfileCertified
import Derived.Test.YtceacicpjgffgaaC41M6
set_option linter.unusedVariables false
set_option linter.unusedSimpArgs false
namespace Go.Abs
open Go
theorem certified_law {l m : List Int} (a b c : Int) (hl : l.length ≤ 2 ^ 60) (hm : m.length ≤ 2 ^ 60) : armplanlaw41_ProfileCertified.F l m a b c = some true := by
  rw [armplanlaw41_ProfileCertified.F_eq]
  unfold armplanlaw41_ProfileCertified.F0
  obtain ⟨top, rows, e, hM⟩ := limits_val hl
  have ht := hM.t
  have hr := hM.r
  have k1 := great_len top rows
  have k2 := great_steps top rows
  obtain ⟨y, ey, hy⟩ := lowered_val (top := top) rows hm (by omega)
  obtain ⟨u, eu, hu⟩ := altered_val (s := (greatV top rows).2.1) (n := rows.length) a b c (by omega) (by omega)
  rw [e, Option.bind_some]
  simp only []
  rw [great_val, Option.bind_some]
  simp only []
  rw [eu, ey]
  rcases great_cases hM.v hM.s with ⟨t, z, h1, h2, h3, h4⟩ | ⟨t, x, h1, h2, h3, h4⟩
  · obtain ⟨p1, p2⟩ := cert_false hM.v h2 h3 h4
    rw [h1]
    simp only [Bool.not_false, cond_true]
    rw [awake41_true, Option.bind_some, cond_true, refutes_val, p1, Option.bind_some, cond_true, Option.bind_some, Option.bind_some, proves_val _ _ _ (by omega), p2]
    rfl
  · obtain ⟨p1, p2, p3⟩ := cert_true hM.v h2 h3 h4
    have hx := h4.l
    rw [h1]
    simp only [Bool.not_true, cond_false, Option.bind_some]
    rw [awake41_true, Option.bind_some, cond_true, proves_val _ _ _ (by omega), p1, Option.bind_some, cond_true, refutes_val, p2, Option.bind_some, Bool.not_false, cond_true, same64_val (by omega), Option.bind_some]
    by_cases hxy : x = y
    · rw [decide_eq_true hxy]; rfl
    · rw [decide_eq_false hxy, cond_false, proves_val _ _ _ (by omega)]
      have : provesB top rows y u = false := by
        cases hb : provesB top rows y u with
        | false => rfl
        | true => exact absurd (p3 y u hb).symm hxy
      rw [this]
      rfl
abbrev certAk : List AK := [.lf (.slc (.int .i64)), .lf (.slc (.int .i64)), .lf (.int .i64), .lf (.int .i64), .lf (.int .i64)]
theorem certified_good (x : ArgT certAk) (g : GoodAll certAk x) : armplanlaw41_ProfileCertified.F x.1 x.2.1 x.2.2.1 x.2.2.2.1 x.2.2.2.2.1 = some true := by
  obtain ⟨⟨g1, _⟩, ⟨g2, _⟩, _⟩ := g
  simp only [minB, reachBytes] at g1 g2
  exact certified_law _ _ _ (by omega) (by omega)
end Go.Abs
