/- Chapter 09: lists of records in memory: append of a list to a list; what rows are read as. -/
import Derived.Test.YtkflingpogokcaaDoorYRl3
namespace Go.Proofs.YtkflingpogokcaaDoor
open Go.RowKit Go.Shelf
set_option linter.unusedVariables false
set_option linter.unusedSimpArgs false

theorem rb_takeAny {w : World} {a : Option Addr} {c : Nat} {l : List UInt8} {n : Nat} (h : RB w (.slice a l.length c) l) (hn : n ≤ l.length) : RB w (.slice a n c) (l.take n) := by
  obtain ⟨ao, c2, hv, hc2, hr⟩ := h
  simp only [Value.slice.injEq] at hv
  obtain ⟨rfl, _, rfl⟩ := hv
  have hl : (l.take n).length = n := by rw [List.length_take]; omega
  refine ⟨_, c, by rw [hl], by rw [hl]; omega, fun hp => ?_⟩
  rw [hl] at hp
  obtain ⟨b2, off2, hb, hcell⟩ := hr (by omega)
  refine ⟨b2, off2, hb, fun j hj => ?_⟩
  rw [hl] at hj
  rw [hcell j (by omega)]
  simp
theorem bss_of_row {w : World} {B n : Nat} {v : Value} {P : List (Value × List UInt8)} (h : w.ownsRow B 22 1 v n (P.map (·.1))) (hn : n = P.length) (hp : ∀ x ∈ P, RB w x.1 x.2 ∧ x.2.length ≤ maxLen) : ∃ ao c, v = .slice ao P.length c ∧ c ≤ maxLen ∧ BSs w ao P := by
  subst hn
  obtain ⟨ao, c, rfl, h3, hm, hg⟩ := row_shape h
  refine ⟨ao, c, rfl, hm, fun hl => ?_, hp⟩
  obtain ⟨g, rfl, _⟩ := hg hl
  refine ⟨g, 0, rfl, fun i hi => ?_⟩
  have := World.ownsRow.cells h (g := g) rfl i (P[i]).1 (by simp [hi])
  rw [add_none] at this
  simpa using this
theorem bss_one {w : World} {ao : Option Addr} {P : List (Value × List UInt8)} (h : BSs w ao P) : ∀ u ∈ P.map (·.1), u.oneCell' = true := by
  intro u hu
  obtain ⟨x, hx, rfl⟩ := List.mem_map.1 hu
  obtain ⟨a, c, e, _⟩ := (h.2 x hx).1.shape
  rw [e]; rfl
/-- append of a list of byte slices to such a list that the call owns -/
theorem wpList_appS {w : World} {ops : Array Oper} {rest : List Oper} {o : Oper} {a : Act} {Q : Exit → Act → World → Prop} (hgd : Region.wanted o (yielded ops a.tmps) = true) (s x : Operand)
    (ho : o.op = .call { callee := .builtin .append, args := #[s, x], argTypes := #[25, 25] })
    (base : Nat) (v : Value) (n : Nat) (xs : List Value) (hs : a.eval s = v) (hown : w.ownsRow base 22 1 v n xs)
    (ao : Option Addr) (c : Nat) (P : List (Value × List UInt8)) (hx : a.eval x = .slice ao P.length c) (hr : BSs w ao P)
    (hlen : n + P.length ≤ 1000000000) (hbase : base ≤ w.heap.size)
    (h : ∀ v' w', w'.ownsRow base 22 1 v' (n + P.length) (xs ++ P.map (·.1)) → App w w' v v' → wpList Tryd.prog ops Q rest (a.put o.dst v') w') : wpList Tryd.prog ops Q (o :: rest) a w := by
  obtain ⟨i0, hi, hz0, hz1, hz2⟩ := info_parts infoSl9
  cases ao with
  | none =>
    have hn0 : P = [] := by
      rcases Nat.eq_zero_or_pos P.length with h0 | h0
      · exact List.eq_nil_of_length_eq_zero h0
      · obtain ⟨b, off, hb, _⟩ := hr.1 h0; cases hb
    subst hn0
    have hrun := run_append_owned_none (P := Tryd.prog) w base 25 o.type 22 i0 1 Tryd.underlying25 hi v n xs hown
    refine BigFrame.wpList_want hgd fun K hK' => ?_
    have hrun' : (Builtin.append_ #[25, 25] o.type #[v, .slice none 0 c]).run Tryd.prog w = .ok v w := by
      have e : (Builtin.append_ #[25, 25] o.type #[v, .slice none 0 c]) = (Builtin.append_ #[25, 25] o.type #[v, .slice none 0 0]) := rfl
      rw [e]; exact hrun
    unfold Oper.wp execOp
    simp only [ho, resolve, invoke, builtin, Sem.run_bind, Sem.run_pure, Result.andThen_ok, List.map_toArray, List.map_cons, List.map_nil, hs, hx, List.length_nil, hrun']
    exact hK' _ _ (h v w (by simpa using hown) ⟨World.grownBy.refl _ _, .inl rfl⟩)
  | some ad =>
    refine wpList_appG hgd s x 25 22 i0 (.slice none 0 0) 1 24 Tryd.underlying25 hi hz0 hz1 hz2 rfl (by decide) ho base v n xs hs hown ad P.length c (P.map (·.1)) hx (by simp) ?_ (bss_one hr) (by unfold maxLen; omega) (by omega) hbase fun v' w' h1 _ h2 => h v' w' h1 h2
    intro j u hj
    have hjl : j < P.length := by have := (List.getElem?_eq_some_iff.1 hj).1; simpa using this
    obtain ⟨b, off, hb, hcell⟩ := hr.1 (by omega)
    cases hb
    rw [add_none, hcell j hjl, ← hj]
    simp [hjl]
end Go.Proofs.YtkflingpogokcaaDoor
