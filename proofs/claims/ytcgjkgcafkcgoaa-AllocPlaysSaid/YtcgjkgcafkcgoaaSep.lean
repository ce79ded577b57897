/- What a call may turn: sets of blocks; make and copy on byte rows; a store into a byte row. -/
import Derived.Test.YtcgjkgcafkcgoaaBase
import Derived.Laws.CopyRow
namespace Go.Proofs.Ytcgjkgcafkcgoaa
open Go.RowKit
set_option linter.unusedVariables false

/-- of what was there nothing has turned but the blocks F -/
structure Chg (F : Nat → Prop) (w w' : World) : Prop where
  os : w'.os = w.os
  tape : w'.tape = w.tape
  output : w'.output = w.output
  size : w.heap.size ≤ w'.heap.size
  block : ∀ k, k < w.heap.size → ¬ F k → w'.heap[k]? = w.heap[k]?

theorem Chg.refl (F : Nat → Prop) (w : World) : Chg F w w := ⟨rfl, rfl, rfl, Nat.le_refl _, fun _ _ _ => rfl⟩
theorem Chg.mono {F G : Nat → Prop} {w w' : World} (h : Chg F w w') (hs : ∀ k, F k → G k) : Chg G w w' :=
  ⟨h.os, h.tape, h.output, h.size, fun k hk hn => h.block k hk fun hf => hn (hs k hf)⟩
theorem Chg.trans2 {F G : Nat → Prop} {a b c : World} (h : Chg F a b) (k : Chg G b c) (hs : ∀ i, i < a.heap.size → G i → F i) : Chg F a c :=
  ⟨k.os.trans h.os, k.tape.trans h.tape, k.output.trans h.output, Nat.le_trans h.size k.size, fun i hi hn => (k.block i (Nat.lt_of_lt_of_le hi h.size) (fun hg => hn (hs i hi hg))).trans (h.block i hi hn)⟩
theorem Chg.trans {F : Nat → Prop} {a b c : World} (h : Chg F a b) (k : Chg F b c) : Chg F a c := h.trans2 k fun _ _ h => h
theorem Chg.of_below {F : Nat → Prop} {w w' : World} (h : Below w.heap.size w w') : Chg F w w' := ⟨h.os, h.tape, h.output, h.size, fun k hk _ => h.block k hk⟩
theorem Chg.below {F : Nat → Prop} {B : Nat} {w w' : World} (h : Chg F w w') (hF : ∀ k, F k → B ≤ k) (hB : B ≤ w.heap.size) : Below B w w' :=
  ⟨h.os, h.tape, h.output, h.size, fun k hk => h.block k (by omega) fun hf => by have := hF k hf; omega⟩
theorem Chg.of_grown {row : Option Nat} {w w' : World} (h : w.grownBy w' row) : Chg (fun k => row = some k) w w' :=
  ⟨h.os, h.tape, h.output, h.size, fun k hk hn => h.block k hk fun e => hn e.symm⟩
theorem Chg.set (w : World) (p o : Nat) (v : Value) : Chg (fun k => k = p) w (w.setCell ⟨p, o, none⟩ v) :=
  ⟨rfl, rfl, rfl, by simp [World.setCell], fun k _ hn => Below.heap_setCell _ _ _ _ hn⟩
theorem Chg.of_app {w w' : World} {v v' : Value} (h : App w w' v v') : Chg (fun k => v.ownBlock = some k) w w' := Chg.of_grown h.grown
theorem Chg.alloc {F : Nat → Prop} {w w' : World} (h : Chg F w w') (o : Obj) : Chg F w (w'.alloc o) := h.trans (Chg.of_below ((Below.refl _ _).alloc (Nat.le_refl _) o))
theorem Chg.below2 {F : Nat → Prop} {a w w' : World} {B : Nat} (hb : Below B a w) (h : Chg F w w') (hF : ∀ k, F k → B ≤ k) (hB : B ≤ w.heap.size) : Below B a w' := hb.trans (h.below hF hB)

theorem blk_chg {F : Nat → Prop} {w w' : World} {p : Nat} {o : Obj} (h : w.heap[p]? = some o) (hc : Chg F w w') (hn : ¬ F p) : w'.heap[p]? = some o := by
  rw [hc.block p (Array.getElem?_eq_some_iff.1 h).1 hn]; exact h
theorem blk_lt {w : World} {p : Nat} {o : Obj} (h : w.heap[p]? = some o) : p < w.heap.size := (Array.getElem?_eq_some_iff.1 h).1
theorem RB.lt0 {w : World} {v : Value} {l : List UInt8} (h : RB w v l) (hl : 0 < l.length) : ∀ k, v.ownBlock = some k → k < w.heap.size := by
  obtain ⟨ao, c, rfl, hc, hr⟩ := h
  obtain ⟨b, off, rfl, hcell⟩ := hr hl
  intro k hk
  have hk : b = k := by simpa [Value.ownBlock] using hk
  subst hk
  exact World.block_lt_of_cell? w _ (hcell 0 hl)
theorem RB.chg {F : Nat → Prop} {w w' : World} {v : Value} {l : List UInt8} (h : RB w v l) (hc : Chg F w w') (hd : 0 < l.length → ∀ k, v.ownBlock = some k → ¬ F k) : RB w' v l := by
  rcases Nat.eq_zero_or_pos l.length with h0 | h0
  · obtain ⟨ao, c, hv, hcc, _⟩ := h
    exact ⟨ao, c, hv, hcc, fun h => by omega⟩
  · exact h.same fun b off hb _ ⟨o, n, c, hv⟩ => hc.block b hb (hd h0 b (by rw [hv]; rfl))
theorem OB.chg {F : Nat → Prop} {w w' : World} {B : Nat} {v : Value} {l : List UInt8} (h : OB w B v l) (hc : Chg F w w') (hd : ∀ k, v.ownBlock = some k → ¬ F k) : OB w' B v l :=
  h.same fun k hk => hc.block k (h.lt hk).2 (hd k hk)
theorem OB.len {w : World} {B : Nat} {a : Option Addr} {n c : Nat} {l : List UInt8} (h : OB w B (.slice a n c) l) : n = l.length := h.reads.len
theorem OB.capm {w : World} {B : Nat} {a : Option Addr} {n c : Nat} {l : List UInt8} (h : OB w B (.slice a n c) l) : c ≤ maxLen := by
  rcases h.2 with ⟨h1, _⟩ | ⟨g, cap, cur, hv, _, _, _, hm, _⟩
  · simp only [Value.slice.injEq] at h1; omega
  · simp only [Value.slice.injEq] at hv; omega

/-- where an append has laid the new value -/
def Lies (w : World) (v v' : Value) : Prop := v'.ownBlock = v.ownBlock ∨ ∃ g, v'.ownBlock = some g ∧ w.heap.size ≤ g
theorem Lies.refl (w : World) (v : Value) : Lies w v v := .inl rfl
theorem Lies.trans {w w' : World} {v v' v'' : Value} (h : Lies w v v') (k : Lies w' v' v'') (hz : w.heap.size ≤ w'.heap.size) : Lies w v v'' := by
  rcases k with e | ⟨g, e, hg⟩
  · rcases h with e2 | ⟨g, e2, hg⟩
    · exact .inl (e.trans e2)
    · exact .inr ⟨g, e.trans e2, hg⟩
  · exact .inr ⟨g, e, by omega⟩
theorem Lies.off {w : World} {v v' : Value} {p : Nat} (h : Lies w v v') (hp : p < w.heap.size) (hn : v.ownBlock ≠ some p) : v'.ownBlock ≠ some p := by
  rcases h with e | ⟨g, e, hg⟩
  · rw [e]; exact hn
  · rw [e]; intro e2; cases e2; omega
/-- what an append has laid is apart from whatever the old value was apart from -/
theorem Lies.apart {w : World} {v v' : Value} {F : Nat → Prop} (h : Lies w v v') (hF : ∀ k, F k → k < w.heap.size) (hn : ∀ k, v.ownBlock = some k → ¬ F k) : ∀ k, v'.ownBlock = some k → ¬ F k := by
  intro k hk hf
  rcases h with e | ⟨g, e, hg⟩
  · exact hn k (by rw [← e]; exact hk) hf
  · rw [e] at hk; cases hk; have := hF _ hf; omega

theorem bvs_replicate (n : Nat) : bvs (List.replicate n 0) = List.replicate n (.int .u8 0) := by simp [bvs, bv]

/-- make of n bytes -/
theorem wpList_mkb {w : World} {ops : Array Oper} {rest : List Oper} {o : Oper} {a : Act} {Q : Exit → Act → World → Prop} (hg : o.guard = none) (l c : Operand)
    (ho : o.op = Op.makeSlice 45 l c) (base n : Nat) (hl : a.eval l = .int .i64 n) (hc : a.eval c = .int .i64 n) (hn : n ≤ 140737488355328) (hbase : base ≤ w.heap.size)
    (h : ∀ w', OB w' base (.slice (some ⟨w.heap.size, 0, none⟩) n n) (List.replicate n 0) → Below w.heap.size w w' → wpList Try.prog ops Q rest (a.put o.dst (.slice (some ⟨w.heap.size, 0, none⟩) n n)) w') :
    wpList Try.prog ops Q (o :: rest) a w := by
  obtain ⟨i0, hi, hz0, hz1, hz2⟩ := info_parts infoU8
  refine wpList_make_full w hg l c 45 ho base 5 i0 (.int .u8 0) 1 Try.underlying45 hi hz0 hz1 .i64 .i64 n n n hl hc rfl rfl (by rw [hz2]; omega) (by unfold maxLen; omega) hbase ?_
  intro w' hown hgr
  refine h w' ?_ ⟨hgr.os, hgr.tape, hgr.output, hgr.size, fun k hk => hgr.block k hk (by simp)⟩
  unfold OB
  rw [bvs_replicate, List.length_replicate]
  have e : (madeCells (Value.int .u8 0).cells (n * 1)).toList = List.replicate n (.int .u8 0) := by
    rw [Nat.mul_one]; exact toList_madeCells_one _ _
  rw [e] at hown
  exact hown

/-- what copy(d, m) leaves in d -/
def cpy (d m : List UInt8) : List UInt8 := m.take d.length ++ d.drop m.length
theorem cpy_length (d m : List UInt8) : (cpy d m).length = d.length := by simp [cpy]; omega
theorem cpy_same (d m : List UInt8) (h : m.length = d.length) : cpy d m = m := by
  unfold cpy; rw [List.take_of_length_le (by omega), List.drop_of_length_le (by omega), List.append_nil]

set_option maxRecDepth 100000 in
/-- copy into a row that the call owns, from its head on -/
theorem wpList_copyb {w : World} {ops : Array Oper} {rest : List Oper} {o : Oper} {a : Act} {Q : Exit → Act → World → Prop} (hgd : Region.wanted o (yielded ops a.tmps) = true) (s x : Operand)
    (ho : o.op = .call { callee := .builtin .copy, args := #[s, x], argTypes := #[45, 45] })
    (base g n c : Nat) (d : List UInt8) (hs : a.eval s = .slice (some ⟨g, 0, none⟩) n c) (hown : OB w base (.slice (some ⟨g, 0, none⟩) n c) d)
    (u : Value) (m : List UInt8) (hx : a.eval x = u) (hr : RB w u m)
    (h : ∀ w', OB w' base (.slice (some ⟨g, 0, none⟩) n c) (cpy d m) → Chg (fun k => k = g) w w' → wpList Try.prog ops Q rest (a.put o.dst (.int .i64 (min m.length d.length : Nat))) w') :
    wpList Try.prog ops Q (o :: rest) a w := by
  obtain ⟨i0, hi, hz0, hz1, hz2⟩ := info_parts infoU8
  have hsz : (Try.prog.info? 5).map (·.size) = some 1 := by rw [hi]; simp [hz1]
  have hn := hown.len
  subst hn
  obtain ⟨ao, c2, rfl, hc2, hcells⟩ := hr
  have key : ∃ w', (Builtin.copy_ #[45, 45] o.type #[.slice (some ⟨g, 0, none⟩) d.length c, .slice ao m.length c2]).run Try.prog w = .ok (goInt ((min m.length d.length : Nat) : Int)) w' ∧
      OB w' base (.slice (some ⟨g, 0, none⟩) d.length c) (cpy d m) ∧ Chg (fun k => k = g) w w' := by
    by_cases h0 : Nat.min m.length d.length = 0
    · refine ⟨w, ?_, ?_, Chg.refl _ _⟩
      · rw [run_copy_none w _ _ _ 5 _ _ _ _ _ _ Try.underlying45 hsz h0]
        have : min m.length d.length = 0 := h0
        rw [this]; rfl
      · have : cpy d m = d := by
          have h0' : min m.length d.length = 0 := h0
          unfold cpy
          rcases Nat.eq_zero_or_pos m.length with h1 | h1
          · rw [List.eq_nil_of_length_eq_zero h1]; simp
          · have h2 : d.length = 0 := by omega
            rw [List.eq_nil_of_length_eq_zero h2]; simp
        rw [this]; exact hown
    · have h0' : ¬ min m.length d.length = 0 := h0
      obtain ⟨b, off, rfl, hcell⟩ := hcells (by omega)
      rcases hown.2 with ⟨hv, _⟩ | ⟨g', cap, cur, hv, hbg, hh, hnc, hcm, hcs, htake⟩
      · simp at hv
      · simp only [Value.slice.injEq, Option.some.injEq, Addr.mk.injEq, and_true, true_and] at hv
        obtain ⟨rfl, rfl⟩ := hv
        have hlen : (bvs (m.take d.length)).length = Nat.min m.length d.length := by
          rw [bvs_length, List.length_take]; exact Nat.min_comm _ _
        have hlen' : (bvs (m.take d.length)).length = min m.length d.length := hlen
        have hrun := run_copy_row (P := Try.prog) w 45 45 o.type 5 g 0 d.length c ⟨b, off, none⟩ m.length c2 cur 5 (bvs (m.take d.length)) Try.underlying45 hsz hh hlen
          (fun j v hj => by
            have hjl : j < (bvs (m.take d.length)).length := (List.getElem?_eq_some_iff.1 hj).1
            have hjm : j < m.length := by omega
            have hjd : j < d.length := by omega
            rw [add_none, hcell j hjm, ← hj]
            simp [bvs, hjm, hjd]) (by omega) (bvs_one _)
        rw [hlen'] at hrun
        refine ⟨_, hrun, ⟨by rw [bvs_length, Nat.mul_one], .inr ⟨g, c, _, ?_, hbg, setRow_heap w g cur _ 5 (0, 0) hh, ?_, hcm, ?_, ?_⟩⟩, ⟨rfl, rfl, rfl, by simp, fun k _ hk => setRow_other w g k _ hk⟩⟩
        · rw [cpy_length]
        · rw [cpy_length]; exact hnc
        · have e1 : (bvs (m.take d.length)).length + (cur.size - min m.length d.length) = c * 1 := by omega
          simp only [List.size_toArray, List.length_append, List.length_take, List.length_drop, Array.length_toList]
          omega
        · rw [cpy_length]
          have e2 : cur.toList.take d.length = bvs d := by simpa using htake
          simp only [Nat.mul_one, List.take_zero, List.nil_append, Nat.zero_add]
          unfold cpy
          rw [bvs_append, List.take_append, hlen']
          congr 1
          · exact List.take_of_length_le (by omega)
          · have : bvs (d.drop m.length) = (bvs d).drop m.length := by simp [bvs]
            rw [this, ← e2, List.drop_take]
            by_cases hmd : m.length ≤ d.length
            · rw [show min m.length d.length = m.length by omega]
            · rw [show d.length - min m.length d.length = 0 by omega, show d.length - m.length = 0 by omega]; simp
  obtain ⟨w', hrun, h1, h2⟩ := key
  refine BigFrame.wpList_want hgd fun K hK' => ?_
  unfold Oper.wp execOp
  simp only [ho, resolve, invoke, builtin, Sem.run_bind, Sem.run_pure, Result.andThen_ok, List.map_toArray, List.map_cons, List.map_nil, hs, hx, hrun]
  exact hK' _ _ (h w' h1 h2)

theorem OB.fz {w : World} {B g n c : Nat} {l : List UInt8} (h : OB w B (.slice (some ⟨g, 0, none⟩) n c) l) (j : Nat) : w.frozen? ⟨g, j, none⟩ = false := by
  have hn := h.len
  subst hn
  exact World.ownsRow.frozenAt h j
theorem OB.cellN {w : World} {B g n c : Nat} {l : List UInt8} (h : OB w B (.slice (some ⟨g, 0, none⟩) n c) l) (j : Nat) (hj : j < l.length) : w.cell? ⟨g, j, none⟩ = some (.int .u8 ((l[j]).toNat : Int)) := by
  obtain ⟨g', cap', hv, _, _, _, hc⟩ := h.form (by omega)
  simp only [Value.slice.injEq, Option.some.injEq, Addr.mk.injEq] at hv
  obtain ⟨⟨rfl, _⟩, _⟩ := hv
  exact hc j hj
/-- a store into a byte row -/
theorem OB.set {w : World} {B g n c : Nat} {l : List UInt8} (h : OB w B (.slice (some ⟨g, 0, none⟩) n c) l) (j : Nat) (x : UInt8) :
    OB (w.setCell ⟨g, j, none⟩ (bv x)) B (.slice (some ⟨g, 0, none⟩) n c) (l.set j x) := by
  have hn := h.len
  subst hn
  have := (World.ownsRow.stored h j (bv x)).1
  unfold OB
  have e : bvs (l.set j x) = (bvs l).set j (bv x) := by simp [bvs]
  rw [e, List.length_set]
  exact this
end Go.Proofs.Ytcgjkgcafkcgoaa
