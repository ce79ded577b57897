/- Rows of ops that a call makes: their cells, what is read of them; append in a region that draws. -/
import Derived.Test.YtmgifejmheoddaaOpd
import Derived.Deep.RegionLaw
namespace Go.Proofs.Ytmgifejmheoddaa
open Go.RowKit
set_option linter.unusedVariables false

def opRow (l : List OpD) : List Value := l.flatMap fun x => [.int .i64 x.kind, .string x.key, .string x.val]
theorem opRow_cons (x : OpD) (l : List OpD) : opRow (x :: l) = .int .i64 x.kind :: .string x.key :: .string x.val :: opRow l := rfl
theorem opRow_append (l m : List OpD) : opRow (l ++ m) = opRow l ++ opRow m := by unfold opRow; rw [List.flatMap_append]
theorem opRow_len : ∀ l : List OpD, (opRow l).length = l.length * 3
  | [] => rfl
  | x :: l => by rw [opRow_cons, List.length_cons, List.length_cons, List.length_cons, opRow_len l, List.length_cons]; omega
theorem opRow_at : ∀ (l : List OpD) (k : Nat) (h : k < l.length), (opRow l)[k * 3]? = some (.int .i64 l[k].kind) ∧ (opRow l)[k * 3 + 1]? = some (.string l[k].key) ∧ (opRow l)[k * 3 + 2]? = some (.string l[k].val)
  | x :: l, 0, _ => ⟨rfl, rfl, rfl⟩
  | x :: l, k + 1, h => by
    obtain ⟨h1, h2, h3⟩ := opRow_at l k (by simpa using h)
    rw [opRow_cons, show (k + 1) * 3 = k * 3 + 3 by omega]
    exact ⟨h1, h2, h3⟩
theorem opRow_one {l : List OpD} : ∀ u ∈ opRow l, u.oneCell' = true := by
  induction l with
  | nil => intro u hu; cases hu
  | cons x l ih =>
    intro u hu
    rw [opRow_cons] at hu
    simp only [List.mem_cons] at hu
    rcases hu with rfl | rfl | rfl | hu
    · rfl
    · rfl
    · rfl
    · exact ih u hu
theorem ops_cells {w : World} {ad : Addr} {l : List OpD} (h : OPs w (some ad) l) : ∀ j u, (opRow l)[j]? = some u → w.cell? (ad.add j) = some u := by
  intro j u hj
  have hlt : j < (opRow l).length := (List.getElem?_eq_some_iff.1 hj).1
  rw [opRow_len] at hlt
  obtain ⟨b, off, e, hc⟩ := h.1 (by omega)
  cases e
  obtain ⟨c0, c1, c2⟩ := hc (j / 3) (by omega)
  obtain ⟨r0, r1, r2⟩ := opRow_at l (j / 3) (by omega)
  rw [add_none]
  have hm : j % 3 = 0 ∨ j % 3 = 1 ∨ j % 3 = 2 := by omega
  rcases hm with hm | hm | hm
  · have e : j = j / 3 * 3 := by omega
    rw [← e] at r0 c0
    rw [hj] at r0
    rw [c0, ← r0]
  · have e : j = j / 3 * 3 + 1 := by omega
    rw [Nat.add_assoc, ← e] at c1
    rw [← e] at r1
    rw [hj] at r1
    rw [c1, ← r1]
  · have e : j = j / 3 * 3 + 2 := by omega
    rw [Nat.add_assoc, ← e] at c2
    rw [← e] at r2
    rw [hj] at r2
    rw [c2, ← r2]
theorem ops_of_row {w : World} {B : Nat} {v : Value} {l : List OpD} {n : Nat} (hn : n = l.length) (h : w.ownsRow B 26 3 v n (opRow l)) (hok : ∀ x ∈ l, OpOk x) : ∃ a c, v = .slice a l.length c ∧ OPs w a l := by
  subst hn
  obtain ⟨ao, c, rfl, _, _, hs⟩ := row_shape h
  refine ⟨ao, c, rfl, fun hl => ?_, hok⟩
  obtain ⟨g, rfl, _⟩ := hs hl
  refine ⟨g, 0, rfl, fun k hk => ?_⟩
  obtain ⟨h1, h2, h3⟩ := opRow_at l k hk
  rw [Nat.zero_add]
  refine ⟨?_, ?_, ?_⟩
  · rw [World.ownsRow.cellAt h _ (by omega)]; exact h1
  · rw [World.ownsRow.cellAt h _ (by omega)]; exact h2
  · rw [World.ownsRow.cellAt h _ (by omega)]; exact h3
theorem opInfo : (Try.prog.info? 26).map (fun i => (i.zero, i.size, i.bytes)) = some (some (.agg #[.int .i64 0, .string ⟨#[]⟩, .string ⟨#[]⟩]), 3, 40) := by kernel_rfl

/-- append as one step of a region that draws -/
theorem step_appG {P : Program} {w : World} {ops : Array Oper} {o : Oper} {a : Act} {K : Act → World → Prop} {Q : Exit → Act → World → Prop} {E : Prop} (hgd : o.guard = none) (s x : Operand)
    (t e : TypeId) (i : TypeInfo) (z : Value) (size bytes : Nat) (ht : P.underlying t = some (.slice e)) (hi : P.info? e = some i) (hz : i.zero = some z) (hsize : i.size = size) (hby : i.bytes = bytes) (hzs : z.cells.size = size) (hsz : 0 < size)
    (ho : o.op = .call { callee := .builtin .append, args := #[s, x], argTypes := #[t, t] })
    (base : Nat) (v : Value) (n : Nat) (xs : List Value) (hs : a.eval s = v) (hown : w.ownsRow base e size v n xs)
    (ad : Addr) (m c : Nat) (news : List Value) (hx : a.eval x = .slice (some ad) m c) (hl : news.length = m * size) (hnews : ∀ j u, news[j]? = some u → w.cell? (ad.add j) = some u) (h1 : ∀ u ∈ news, u.oneCell' = true)
    (h63 : n + m ≤ maxLen) (hbytes : (n + m) * bytes ≤ 140737488355328) (hbase : base ≤ w.heap.size)
    (h : ∀ v' w', w'.ownsRow base e size v' (n + m) (xs ++ news) → App w w' v v' → K (a.put o.dst v') w') : if Region.wanted o (yielded ops a.tmps) = true then Oper.wp P o a w K Q else E := by
  have hw : Region.wanted o (yielded ops a.tmps) = true := by simp [Region.wanted, hgd]
  rw [if_pos hw]
  obtain ⟨v', w', hrun, h2, h3, h5⟩ := run_app (P := P) w base t o.type e i z size bytes ht hi hz hsize hby hzs hsz v n xs hown ad m c news hl hnews h1 h63 hbytes hbase
  unfold Oper.wp execOp
  simp only [ho, resolve, invoke, builtin, Sem.run_bind, Sem.run_pure, Result.andThen_ok, List.map_toArray, List.map_cons, List.map_nil, hs, hx, hrun]
  exact h v' w' h2 h5
end Go.Proofs.Ytmgifejmheoddaa
