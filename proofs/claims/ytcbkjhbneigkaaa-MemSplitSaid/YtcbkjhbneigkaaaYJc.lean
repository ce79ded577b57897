/- Texts joined: Awake, StepA, Less, Ints, Items. -/
import Derived.Test.YtcbkjhbneigkaaaYBytes
import Derived.Test.YtcbkjhbneigkaaaYRow
import Derived.Deep.RegionLaw
import Derived.Test.YtcbkjhbneigkaaaYBase
import Derived.Test.YtcbkjhbneigkaaaYSep
/- Contracts of the small functions of tithebarnlaw03: small and awake; of Seek, Sees and ref. -/

namespace Go.Proofs.Ytcbkjhbneigkaaa
open Go.RowKit
set_option linter.unusedVariables false

theorem awakeKey : keyBytes [97] 1 2 = [97, 0, 1, 0, 255, 255, 255, 255, 255, 253] := by decide
theorem awakeCmp : kcmp ⟨#[97]⟩ 5 1 ⟨#[97]⟩ 4 3 = -1 := by decide

end Go.Proofs.Ytcbkjhbneigkaaa
/- Append as one step of a region that draws, whatever the elements. -/

namespace Go.Proofs.Ytcbkjhbneigkaaa
open Go.RowKit
set_option linter.unusedVariables false

/-- append as one step of a region that draws -/
theorem step_appG {P : Program} {w : World} {ops : Array Oper} {o : Oper} {a : Act} {K : Act → World → Prop} {Q : Exit → Act → World → Prop} {E : Prop} (hgd : o.guard = none) (s x : Operand)
    (t e : TypeId) (i : TypeInfo) (z : Value) (size bytes : Nat) (ht : P.underlying t = some (.slice e)) (hi : P.info? e = some i) (hz : i.zero = some z) (hsize : i.size = size) (hby : i.bytes = bytes) (hzs : z.cells.size = size) (hsz : 0 < size)
    (ho : o.op = .call { callee := .builtin .append, args := #[s, x], argTypes := #[t, t] })
    (base : Nat) (v : Value) (n : Nat) (xs : List Value) (hs : a.eval s = v) (hown : w.ownsRow base e size v n xs)
    (ad : Addr) (m c : Nat) (news : List Value) (hx : a.eval x = .slice (some ad) m c) (hl : news.length = m * size) (hnews : ∀ j u, news[j]? = some u → w.cell? (ad.add j) = some u) (h1 : ∀ u ∈ news, u.oneCell' = true)
    (h63 : n + m ≤ maxLen) (hbytes : (n + m) * bytes ≤ 140737488355328) (hbase : base ≤ w.heap.size)
    (h : ∀ v' w', w'.ownsRow base e size v' (n + m) (xs ++ news) → App w w' v v' → K (a.put o.dst v') w') : if Region.wanted o (yielded ops a.tmps) = true then Oper.wp P o a w K Q else E := by
  have hw : Region.wanted o (yielded ops a.tmps) = true := by simp [Region.wanted, hgd]
  rw [if_pos hw]
  obtain ⟨v', w', hrun, h2, h3, h5⟩ := run_app (P := P) w base t o.type e i z size bytes ht hi hz hsize hby hzs hsz v n xs hown ad m c news hl hnews h1 h63 hbytes hbase
  unfold Oper.wp execOp
  simp only [ho, resolve, invoke, builtin, Sem.run_bind, Sem.run_pure, Result.andThen_ok, List.map_toArray, List.map_cons, List.map_nil, hs, hx, hrun]
  exact h v' w' h2 h5
end Go.Proofs.Ytcbkjhbneigkaaa
/- Contracts of bytes.Compare, Less and Same, over byte slices that are read. -/

namespace Go.Proofs.Ytcbkjhbneigkaaa
open Go.RowKit
set_option linter.unusedVariables false

theorem run_loadBytes {w : World} (b off : Nat) (l : List UInt8) (acc : ByteArray) (h : ∀ j (hj : j < l.length), w.cell? ⟨b, off + j, none⟩ = some (bv l[j])) :
    (Extern.Bytes.loadBytes ⟨b, off, none⟩ l.length acc).run Try.prog w = .ok ⟨acc.data ++ l.toArray⟩ w := by
  induction l generalizing off acc with
  | nil => simp [Extern.Bytes.loadBytes, Sem.run_pure]
  | cons c l ih =>
    have h0 := h 0 (by simp)
    have h1 := ih (off + 1) (acc.push c) (fun j hj => by have := h (j + 1) (by simpa using hj); rw [Nat.add_assoc, Nat.add_comm 1 j]; simpa using this)
    have ha : (⟨b, off, none⟩ : Addr).add 1 = ⟨b, off + 1, none⟩ := add_none b off 1
    have hc : w.cell? ⟨b, off, none⟩ = some (.int .u8 (c.toNat : Int)) := by simpa [bv] using h0
    have e : (((c.toNat : Int)).toNat).toUInt8 = c := by simp
    rw [List.length_cons, Extern.Bytes.loadBytes]
    simp only [Sem.run_bind, load, Sem.run, hc, Result.andThen, ha]
    rw [e, h1]
    simp [ByteArray.push]

theorem RB.bytesOf {w : World} {v : Value} {l : List UInt8} (h : RB w v l) : (Extern.Bytes.bytesOf v).run Try.prog w = .ok ⟨l.toArray⟩ w := by
  obtain ⟨ao, c, rfl, hc, hr⟩ := h
  cases ao with
  | none =>
    have : l = [] := by
      rcases Nat.eq_zero_or_pos l.length with h0 | h0
      · exact List.eq_nil_of_length_eq_zero h0
      · obtain ⟨b, off, hb, _⟩ := hr h0; cases hb
    subst this
    rfl
  | some a =>
    by_cases hl : 0 < l.length
    · obtain ⟨b, off, hb, hcell⟩ := hr hl
      cases hb
      have := run_loadBytes b off l .empty hcell
      simpa [Extern.Bytes.bytesOf] using this
    · have : l = [] := List.eq_nil_of_length_eq_zero (by omega)
      subst this
      rfl

theorem RB.compare {w : World} {v u : Value} {l m : List UInt8} (h : RB w v l) (k : RB w u m) :
    (Extern.BytealgCompare.compare #[v, u]).run Try.prog w = .ok (.int .i64 (Lib.compareBytes l m)) w := by
  change Sem.run Try.prog (do pure (goInt (Extern.BytealgCompare.cmp (← Extern.Bytes.bytesOf v) (← Extern.Bytes.bytesOf u)))) w = _
  simp only [Sem.run_bind, h.bytesOf, k.bytesOf, Sem.run_pure, Result.andThen]
  rw [Lib.cmp_eq]
  rfl

end Go.Proofs.Ytcbkjhbneigkaaa
/- A list of ints, and one of byte slices, that are read. -/

namespace Go.Proofs.Ytcbkjhbneigkaaa
open Go.RowKit
set_option linter.unusedVariables false

/-- a slice of ints -/
def IR (w : World) (a : Option Addr) (l : List Int) : Prop :=
  (0 < l.length → ∃ b off, a = some ⟨b, off, none⟩ ∧ ∀ i (h : i < l.length), w.cell? ⟨b, off + i, none⟩ = some (.int .i64 l[i])) ∧ ∀ x ∈ l, -9223372036854775808 ≤ x ∧ x ≤ 9223372036854775807
theorem IR.below {w w' : World} {a : Option Addr} {l : List Int} (h : IR w a l) (hb : Below w.heap.size w w') : IR w' a l := by
  refine ⟨fun hl => ?_, h.2⟩
  obtain ⟨b, off, rfl, hc⟩ := h.1 hl
  exact ⟨b, off, rfl, fun i hi => cell_next (hc i hi) _ hb⟩
theorem IR.cell {w wr : World} {a : Option Addr} {l : List Int} (h : IR w a l) (hb : Below w.heap.size w wr) (k : Nat) (hk : k < l.length) :
    ∃ b off, a = some ⟨b, off, none⟩ ∧ wr.cell? ⟨b, off + k, none⟩ = some (.int .i64 l[k]) ∧ -9223372036854775808 ≤ l[k] ∧ l[k] ≤ 9223372036854775807 := by
  obtain ⟨b, off, rfl, hc⟩ := h.1 (by omega)
  exact ⟨b, off, rfl, cell_next (hc k hk) _ hb, h.2 _ (List.getElem_mem hk)⟩

/-- a slice of byte slices -/
def BSs (w : World) (a : Option Addr) (l : List (Value × List UInt8)) : Prop :=
  (0 < l.length → ∃ b off, a = some ⟨b, off, none⟩ ∧ ∀ i (h : i < l.length), w.cell? ⟨b, off + i, none⟩ = some l[i].1) ∧ ∀ x ∈ l, RB w x.1 x.2 ∧ x.2.length ≤ maxLen
theorem BSs.below {w w' : World} {a : Option Addr} {l : List (Value × List UInt8)} (h : BSs w a l) (hb : Below w.heap.size w w') : BSs w' a l := by
  refine ⟨fun hl => ?_, fun x hx => ⟨(h.2 x hx).1.below hb, (h.2 x hx).2⟩⟩
  obtain ⟨b, off, rfl, hc⟩ := h.1 hl
  exact ⟨b, off, rfl, fun i hi => cell_next (hc i hi) _ hb⟩
theorem BSs.cell {w wr : World} {a : Option Addr} {l : List (Value × List UInt8)} (h : BSs w a l) (hb : Below w.heap.size w wr) (k : Nat) (hk : k < l.length) :
    ∃ b off ao cc, a = some ⟨b, off, none⟩ ∧ l[k].1 = .slice ao l[k].2.length cc ∧ wr.cell? ⟨b, off + k, none⟩ = some (.slice ao l[k].2.length cc) ∧ RB wr (.slice ao l[k].2.length cc) l[k].2 ∧ l[k].2.length ≤ maxLen := by
  obtain ⟨b, off, rfl, hc⟩ := h.1 (by omega)
  obtain ⟨hr, hm⟩ := h.2 _ (List.getElem_mem hk)
  obtain ⟨ao, cc, hv, _⟩ := hr.shape
  have hc := hc k hk
  rw [hv] at hr hc
  exact ⟨b, off, ao, cc, rfl, hv, cell_next hc _ hb, hr.below hb, hm⟩
end Go.Proofs.Ytcbkjhbneigkaaa
/- A list of tithebarnlaw02.Item that is read; the contract of small. -/

namespace Go.Proofs.Ytcbkjhbneigkaaa
open Go.RowKit
set_option linter.unusedVariables false

structure ItemD where
  kind : Int
  n : Int
  v : Value
  b : List UInt8

/-- an Item, as it is read -/
def ItemOk (w : World) (x : ItemD) : Prop := RB w x.v x.b ∧ -9223372036854775808 ≤ x.kind ∧ x.kind ≤ 9223372036854775807 ∧ -9223372036854775808 ≤ x.n ∧ x.n ≤ 9223372036854775807 ∧ x.b.length ≤ maxLen

/-- a slice of Items -/
def ITs (w : World) (a : Option Addr) (l : List ItemD) : Prop :=
  (0 < l.length → ∃ b off, a = some ⟨b, off, none⟩ ∧ ∀ i (h : i < l.length), w.cell? ⟨b, off + i * 3, none⟩ = some (.int .i64 l[i].kind) ∧ w.cell? ⟨b, off + i * 3 + 1, none⟩ = some (.int .i64 l[i].n) ∧ w.cell? ⟨b, off + i * 3 + 2, none⟩ = some l[i].v) ∧
  ∀ x ∈ l, ItemOk w x

theorem ITs.below {w w' : World} {a : Option Addr} {l : List ItemD} (h : ITs w a l) (hb : Below w.heap.size w w') : ITs w' a l := by
  refine ⟨fun hl => ?_, fun x hx => ⟨(h.2 x hx).1.below hb, (h.2 x hx).2⟩⟩
  obtain ⟨b, off, rfl, hc⟩ := h.1 hl
  refine ⟨b, off, rfl, fun i hi => ?_⟩
  obtain ⟨h0, h1, h2⟩ := hc i hi
  exact ⟨cell_next h0 _ hb, cell_next h1 _ hb, cell_next h2 _ hb⟩

theorem ITs.cells {w wr : World} {a : Option Addr} {l : List ItemD} (h : ITs w a l) (hb : Below w.heap.size w wr) (k : Nat) (hk : k < l.length) :
    ∃ b off ao cc, a = some ⟨b, off, none⟩ ∧ wr.cell? ⟨b, off + k * 3, none⟩ = some (.int .i64 l[k].kind) ∧ wr.cell? ⟨b, off + k * 3 + 1, none⟩ = some (.int .i64 l[k].n) ∧ wr.cell? ⟨b, off + k * 3 + 2, none⟩ = some (.slice ao l[k].b.length cc) ∧ l[k].b.length ≤ maxLen := by
  obtain ⟨b, off, rfl, hc⟩ := h.1 (by omega)
  obtain ⟨c0, c1, c2⟩ := hc k hk
  obtain ⟨hrb, q0, q1, q2, q3, q4⟩ := h.2 _ (List.getElem_mem hk)
  obtain ⟨ao, cc, hv, _⟩ := hrb.shape
  rw [hv] at c2
  exact ⟨b, off, ao, cc, rfl, cell_next c0 _ hb, cell_next c1 _ hb, cell_next c2 _ hb, q4⟩

def smallB (l : List ItemD) : Bool := l.all (fun x => decide (x.b.length ≤ 500)) && decide (l.length ≤ 60)

end Go.Proofs.Ytcbkjhbneigkaaa
