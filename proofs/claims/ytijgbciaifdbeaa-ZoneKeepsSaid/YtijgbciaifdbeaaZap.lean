/- append of bytes to a full slice of bytes that is only read. -/
import Derived.Test.YtijgbciaifdbeaaBase
import Derived.ArgAppend
namespace Go.Proofs.Ytijgbciaifdbeaa
open Go.RowKit
set_option linter.unusedVariables false
set_option linter.unusedSimpArgs false

/-- v reads as l; where it is not nil its address is plain -/
def LV (w : World) (v : Value) (l : List UInt8) : Prop := (v = .slice none 0 0 ∧ l = []) ∨ ∃ b off c, v = .slice (some ⟨b, off, none⟩) l.length c ∧ l.length ≤ c ∧ c ≤ maxLen ∧ RB w v l
theorem LV.rb {w : World} {v : Value} {l : List UInt8} (h : LV w v l) : RB w v l := by
  rcases h with ⟨rfl, rfl⟩ | ⟨b, off, c, rfl, _, _, h⟩
  · exact RB.nil _ _ _
  · exact h
theorem LV.own {w : World} {B : Nat} {v : Value} {l : List UInt8} (h : OB w B v l) : LV w v l := by
  have hr := h.reads
  rcases h.2 with ⟨h1, h2⟩ | ⟨g, cap, cur, hv, _, _, hc, hm, _⟩
  · exact .inl ⟨h1, List.eq_nil_of_length_eq_zero h2⟩
  · exact .inr ⟨g, 0, cap, hv, hc, hm, hr⟩
/-- v, cut to its own length -/
def full (v : Value) (n : Nat) : Value := match v with
  | .slice a _ _ => .slice a n n
  | v => v
theorem rb_full {w : World} {a : Option Addr} {n c : Nat} {l : List UInt8} (h : RB w (.slice a n c) l) : RB w (.slice a l.length l.length) l := by
  obtain ⟨ao, c2, hv, hc, hcl⟩ := h
  simp only [Value.slice.injEq] at hv
  obtain ⟨rfl, _, _⟩ := hv
  exact ⟨a, l.length, rfl, Nat.le_refl _, hcl⟩
theorem run_app_full {w : World} {ty : TypeId} {ao : Option Addr} {L m : List UInt8} {u : Value} (h : LV w (.slice ao L.length L.length) L) (hr : RB w u m) (hlen : L.length + m.length ≤ 1000000) :
    ∃ v' w', (Builtin.append_ #[28, 28] ty #[.slice ao L.length L.length, u]).run Try.prog w = .ok v' w' ∧ LV w' v' (L ++ m) ∧ w.grownBy w' none ∧ ((v' = .slice ao L.length L.length ∧ m = []) ∨ (m ≠ [] ∧ ∀ k, v'.ownBlock = some k → w.heap.size ≤ k)) := by
  obtain ⟨i0, hi, hz0, hz1, hz2⟩ := info_parts infoU8
  obtain ⟨bo, c, rfl, hc, hcells⟩ := hr
  have hrb := h.rb
  cases m with
  | nil =>
    refine ⟨.slice ao L.length L.length, w, ?_, by simpa using h, World.grownBy.refl _ _, .inl ⟨rfl, rfl⟩⟩
    rcases h with ⟨e, rfl⟩ | ⟨b, off, c2, e, _, _, _⟩
    · simp only [Value.slice.injEq] at e
      obtain ⟨rfl, _, _⟩ := e
      cases bo with
      | none => simp [Builtin.append_, run_underlying Try.underlying28, sizeOf, typeInfo, hi, Builtin.lenOf, Builtin.firstCells]
      | some ad =>
        have hfc := run_firstCells_some (P := Try.prog) w i0.size 0 ad 0 c [] (by simp) (fun j u hj => by simp at hj)
        simp [Builtin.append_, run_underlying Try.underlying28, sizeOf, typeInfo, hi, Builtin.lenOf, hfc]
    · simp only [Value.slice.injEq] at e
      obtain ⟨rfl, _, _⟩ := e
      cases bo with
      | none => simp [Builtin.append_, run_underlying Try.underlying28, sizeOf, typeInfo, hi, Builtin.lenOf, Builtin.firstCells, storeCells]
      | some ad =>
        have := run_append_room_cells (P := Try.prog) w 28 ty 5 i0 Try.underlying28 hi b off L.length L.length ad 0 c [] (by simp) (fun j u hj => by simp at hj) (fun u hu => by simp at hu) (by omega) (fun j hj => by simp at hj) (fun j hj => by simp at hj)
        rw [show (([] : List UInt8).length) = 0 from rfl, this]
        rfl
  | cons x m =>
    obtain ⟨b2, off2, rfl, hcell⟩ := hcells (by simp)
    have hn : ∀ j t, (bvs (x :: m))[j]? = some t → w.cell? ((⟨b2, off2, none⟩ : Addr).add j) = some t := by
      intro j t hj
      have hjl : j < (x :: m).length := by have := (List.getElem?_eq_some_iff.1 hj).1; simpa [bvs] using this
      rw [add_none, hcell j hjl, ← hj]
      simp only [bvs, List.getElem?_map, List.getElem?_eq_getElem hjl, Option.map_some]
    have close : ∀ v' w', w'.ownsRow w.heap.size 5 1 v' (L.length + (x :: m).length) (bvs L ++ bvs (x :: m)) → LV w' v' (L ++ x :: m) ∧ ∀ k, v'.ownBlock = some k → w.heap.size ≤ k := fun v' w' ho => by
      have ho2 : OB w' w.heap.size v' (L ++ x :: m) := by
        unfold OB
        rw [List.length_append, bvs_append]
        exact ho
      exact ⟨LV.own ho2, fun k hk => (ho2.lt hk).1⟩
    rcases h with ⟨e, rfl⟩ | ⟨b, off, c2, e, _, _, _⟩
    · simp only [Value.slice.injEq] at e
      obtain ⟨rfl, _, _⟩ := e
      obtain ⟨v', w', hrun, r1, r2, _⟩ := run_append_own (P := Try.prog) w w.heap.size 28 ty 5 i0 (.int .u8 0) 1 1 Try.underlying28 hi hz0 hz1 hz2 rfl (by decide) (.slice none 0 0) 0 [] (World.ownsRow_nil w _ 5 1) ⟨b2, off2, none⟩ (x :: m).length c (bvs (x :: m)) (by simp [bvs]) hn (bvs_one _) (by unfold maxLen; simp at hlen ⊢; omega) (by simp at hlen ⊢; omega) (Nat.le_refl _)
      obtain ⟨h1, h2⟩ := close v' w' (by simpa [bvs] using r1)
      exact ⟨v', w', hrun, h1, r2, .inr ⟨by simp, h2⟩⟩
    · simp only [Value.slice.injEq] at e
      obtain ⟨rfl, _, _⟩ := e
      have ho : ∀ j t, (bvs L)[j]? = some t → w.cell? ((⟨b, off, none⟩ : Addr).add j) = some t := by
        intro j t hj
        have hjl : j < L.length := by have := (List.getElem?_eq_some_iff.1 hj).1; simpa [bvs] using this
        obtain ⟨ao', c', hv', _, hcl'⟩ := hrb
        simp only [Value.slice.injEq] at hv'
        obtain ⟨b', off', e', hcl⟩ := hcl' (by omega)
        rw [← hv'.1] at e'
        simp only [Option.some.injEq, Addr.mk.injEq, and_true] at e'
        obtain ⟨rfl, rfl⟩ := e'
        rw [add_none, hcl j hjl, ← hj]
        simp only [bvs, List.getElem?_map, List.getElem?_eq_getElem hjl, Option.map_some]
      obtain ⟨v', w', hrun, r1, r2⟩ := run_append_arg_grows (P := Try.prog) w 28 ty 5 i0 (.int .u8 0) 1 1 Try.underlying28 hi hz0 hz1 hz2 rfl (by decide) ⟨b, off, none⟩ L.length L.length (bvs L) (by simp [bvs]) ho ⟨b2, off2, none⟩ (x :: m).length c (bvs (x :: m)) (by simp [bvs]) hn (by simp) (by unfold maxLen; simp at hlen ⊢; omega) (by simp at hlen ⊢; omega)
      obtain ⟨h1, h2⟩ := close v' w' r1
      exact ⟨v', w', hrun, h1, r2, .inr ⟨by simp, h2⟩⟩
/-- the same, as one step of a region that draws -/
theorem step_app_full {w : World} {ops : Array Oper} {o : Oper} {a : Act} {K : Act → World → Prop} {Q : Exit → Act → World → Prop} {E : Prop} (hgd : o.guard = none) (s x : Operand)
    (ho : o.op = .call { callee := .builtin .append, args := #[s, x], argTypes := #[28, 28] }) (ao : Option Addr) (L m : List UInt8) (u : Value)
    (hs : a.eval s = .slice ao L.length L.length) (hx : a.eval x = u) (h : LV w (.slice ao L.length L.length) L) (hr : RB w u m) (hlen : L.length + m.length ≤ 1000000)
    (hK : ∀ v' w', LV w' v' (L ++ m) → w.grownBy w' none → ((v' = .slice ao L.length L.length ∧ m = []) ∨ (m ≠ [] ∧ ∀ k, v'.ownBlock = some k → w.heap.size ≤ k)) → K (a.put o.dst v') w') : if Region.wanted o (yielded ops a.tmps) = true then Oper.wp Try.prog o a w K Q else E := by
  have hw : Region.wanted o (yielded ops a.tmps) = true := by simp [Region.wanted, hgd]
  rw [if_pos hw]
  obtain ⟨v', w', hrun, h1, h2, h3⟩ := run_app_full (ty := o.type) h hr hlen
  unfold Oper.wp execOp
  simp only [ho, resolve, invoke, builtin, Sem.run_bind, Sem.run_pure, Result.andThen_ok, List.map_toArray, List.map_cons, List.map_nil, hs, hx, hrun]
  exact hK v' w' h1 h2 h3
end Go.Proofs.Ytijgbciaifdbeaa
