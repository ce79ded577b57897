/- Lemmas on memory: byte rows that a call owns, byte slices that are read, and append; over any world. -/
import Derived.Test.YtcgjkgcafkcgoaaCmp
import Derived.Maps.AppendAt
import Derived.Lib.QuietBelow
import Derived.Laws.IdiomStrings
import Derived.Deep.DeepCutAuto
import Derived.OwnWalk
import Derived.ArgAppend
import Derived.Deep.CutBlock
namespace Go.Proofs.Ytcgjkgcafkcgoaa
open Go.RowKit
set_option linter.unusedVariables false

/-- a byte as the model holds it -/
def bv (b : UInt8) : Value := .int .u8 (b.toNat : Int)
def bvs (l : List UInt8) : List Value := l.map bv
theorem bvs_length (l : List UInt8) : (bvs l).length = l.length := by simp [bvs]
theorem bvs_append (l m : List UInt8) : bvs (l ++ m) = bvs l ++ bvs m := by simp [bvs]
theorem bvs_one (l : List UInt8) : ∀ u ∈ bvs l, u.oneCell' = true := by
  intro u hu; obtain ⟨_, _, rfl⟩ := List.mem_map.1 hu; rfl

/-- v owns the bytes l, in a row from block B on -/
def OB (w : World) (B : Nat) (v : Value) (l : List UInt8) : Prop := w.ownsRow B 5 1 v l.length (bvs l)

/-- what an append does: row 'v' alone may be written; the new value lies there or in a new block -/
structure App (w w' : World) (v v' : Value) : Prop where
  grown : w.grownBy w' v.ownBlock
  lies : v'.ownBlock = v.ownBlock ∨ ∃ g, v'.ownBlock = some g ∧ w.heap.size ≤ g

/-- append to a row that the call owns, whatever the elements: the new value owns both; the old one still owns what it had -/
theorem run_app {P : Program} (w : World) (base : Nat) (t ty e : TypeId) (i : TypeInfo) (z : Value) (size bytes : Nat) (ht : P.underlying t = some (.slice e)) (hi : P.info? e = some i) (hz : i.zero = some z)
    (hsize : i.size = size) (hby : i.bytes = bytes) (hzs : z.cells.size = size) (hsz : 0 < size)
    (v : Value) (n : Nat) (xs : List Value) (hown : w.ownsRow base e size v n xs)
    (a : Addr) (m c : Nat) (news : List Value) (hl : news.length = m * size) (hnews : ∀ j u, news[j]? = some u → w.cell? (a.add j) = some u) (h1 : ∀ u ∈ news, u.oneCell' = true)
    (h63 : n + m ≤ maxLen) (hbytes : (n + m) * bytes ≤ 140737488355328) (hbase : base ≤ w.heap.size) :
    ∃ v' w', (Builtin.append_ #[t, t] ty #[v, .slice (some a) m c]).run P w = .ok v' w' ∧ w'.ownsRow base e size v' (n + m) (xs ++ news) ∧ w'.ownsRow base e size v n xs ∧ App w w' v v' := by
  rcases hown.2 with ⟨rfl, rfl⟩ | ⟨g, cap, cur, rfl, hbg, hg, hnc, hcm, hcs, htake⟩
  · have hx : xs = [] := List.eq_nil_of_length_eq_zero (by simpa using hown.1)
    subst hx
    obtain ⟨v', w', hrun, h2, h3, _, h5⟩ := run_append_own_at (P := P) w base t ty e i z size bytes ht hi hz hsize hby hzs hsz _ 0 [] hown a m c news hl hnews h1 h63 hbytes hbase
    refine ⟨v', w', hrun, h2, World.ownsRow_nil _ _ _ _, ⟨h3, ?_⟩⟩
    rcases h5 with h5 | h5
    · exact .inl h5
    · exact .inr ⟨_, h5, Nat.le_refl _⟩
  · by_cases hroom : n + m ≤ cap
    · subst hsize
      have hlen : (xs ++ news).length = (n + m) * i.size := by rw [List.length_append, hown.1, hl, Nat.add_mul]
      have hfit : n * i.size + news.length ≤ cur.size := by rw [hl, hcs, ← Nat.add_mul]; exact Nat.mul_le_mul_right _ hroom
      have hr := run_append_room (P := P) w t ty e i ht hi g n cap cur hg a m c news hl hnews h1 hroom hfit
      have hsz2 : (cur.toList.take (n * i.size) ++ news ++ cur.toList.drop (n * i.size + news.length)).length = cap * i.size := by
        simp only [List.length_append, List.length_take, List.length_drop, Array.length_toList]; omega
      have hh := setRow_heap w g cur (cur.toList.take (n * i.size) ++ news ++ cur.toList.drop (n * i.size + news.length)).toArray e (0, 0) hg
      refine ⟨_, _, hr, ⟨hlen, .inr ⟨g, cap, _, rfl, hbg, hh, hroom, hcm, by rw [List.size_toArray]; exact hsz2, ?_⟩⟩, ⟨hown.1, .inr ⟨g, cap, _, rfl, hbg, hh, hnc, hcm, by rw [List.size_toArray]; exact hsz2, ?_⟩⟩, ⟨⟨rfl, rfl, rfl, by simp, fun k _ hk => setRow_other w g k _ (fun e => hk (by simp [Value.ownBlock, e]))⟩, .inl rfl⟩⟩
      · show List.take _ (cur.toList.take (n * i.size) ++ news ++ _) = _
        rw [htake, ← hlen]
        exact List.take_left
      · show List.take _ (cur.toList.take (n * i.size) ++ news ++ _) = _
        rw [htake, ← hown.1, List.append_assoc]
        exact List.take_left
    · obtain ⟨v', w', hrun, r1, r2⟩ := run_append_arg_grows (P := P) w t ty e i z size bytes ht hi hz hsize hby hzs hsz ⟨g, 0, none⟩ n cap xs hown.1 (hown.cells (g := g) rfl) a m c news hl hnews (by omega) h63 hbytes
      have hlt := World.ownsRow.lt hown g rfl
      refine ⟨v', w', hrun, ?_, hown.kept r2 (.inr (by simp [Value.ownBlock])), ⟨⟨r2.os, r2.tape, r2.output, r2.size, fun k hk _ => r2.block k hk (by simp)⟩, ?_⟩⟩
      · refine ⟨r1.1, ?_⟩
        rcases r1.2 with h2 | ⟨g', cap', cur', hv', hb', r⟩
        · exact .inl h2
        · exact .inr ⟨g', cap', cur', hv', by omega, r⟩
      · rcases r1.2 with ⟨h2, h3⟩ | ⟨g', cap', cur', hv', hb', r⟩
        · omega
        · exact .inr ⟨g', by rw [hv']; rfl, hb'⟩

theorem OB.nil (w : World) (B : Nat) : OB w B (.slice none 0 0) [] := World.ownsRow_nil _ _ _ _
theorem OB.lt {w : World} {B : Nat} {v : Value} {l : List UInt8} (h : OB w B v l) {k : Nat} (hk : v.ownBlock = some k) : B ≤ k ∧ k < w.heap.size := World.ownsRow.lt h k hk
theorem OB.alloc {w : World} {B : Nat} {v : Value} {l : List UInt8} (h : OB w B v l) (o : Obj) : OB (w.alloc o) B v l := World.ownsRow.alloc h o
theorem OB.drew {w : World} {B : Nat} {v : Value} {l : List UInt8} (h : OB w B v l) : OB w.drew B v l := h
theorem OB.below {w w' : World} {B : Nat} {v v' : Value} {l : List UInt8} (h : OB w B v l) (ha : App w w' v v') (hB : B ≤ w.heap.size) : Below B w w' :=
  (Below.refl B w).grown ha.grown hB (fun k hk => (h.lt hk).1)
theorem OB.kept {w w' : World} {B : Nat} {v : Value} {l : List UInt8} {row : Option Nat} (h : OB w B v l) (hg : w.grownBy w' row) (hne : v.ownBlock = none ∨ v.ownBlock ≠ row) : OB w' B v l := World.ownsRow.kept h hg hne
theorem OB.mono {w : World} {B C : Nat} {v : Value} {l : List UInt8} (h : OB w B v l) (hC : C ≤ B) : OB w C v l := by
  obtain ⟨h1, h2⟩ := h
  refine ⟨h1, ?_⟩
  rcases h2 with h2 | ⟨g, cap, cur, hv, hg, r⟩
  · exact .inl h2
  · exact .inr ⟨g, cap, cur, hv, by omega, r⟩
/-- an owned row over a world in which its block is as it was -/
theorem OB.same {w w' : World} {B : Nat} {v : Value} {l : List UInt8} (h : OB w B v l) (hs : ∀ k, v.ownBlock = some k → w'.heap[k]? = w.heap[k]?) : OB w' B v l := by
  obtain ⟨h1, h2⟩ := h
  refine ⟨h1, ?_⟩
  rcases h2 with h2 | ⟨g, cap, cur, hv, hg, hh, r⟩
  · exact .inl h2
  · exact .inr ⟨g, cap, cur, hv, hg, by rw [hs g (by rw [hv]; rfl)]; exact hh, r⟩
/-- an owned row over a world that is as it was below a number above the row -/
theorem OB.past {w w' : World} {B C : Nat} {v : Value} {l : List UInt8} (h : OB w B v l) (hb : Below C w w') (hC : w.heap.size ≤ C) : OB w' B v l :=
  h.same fun k hk => hb.block k (by have := (h.lt hk).2; omega)

/-- v is read as the bytes l -/
def RB (w : World) (v : Value) (l : List UInt8) : Prop :=
  ∃ ao c, v = .slice ao l.length c ∧ l.length ≤ c ∧ (0 < l.length → ∃ b off, ao = some ⟨b, off, none⟩ ∧ ∀ j (h : j < l.length), w.cell? ⟨b, off + j, none⟩ = some (bv l[j]))

theorem OB.form {w : World} {B : Nat} {v : Value} {l : List UInt8} (h : OB w B v l) (hl : 0 < l.length) :
    ∃ g cap, v = .slice (some ⟨g, 0, none⟩) l.length cap ∧ B ≤ g ∧ g < w.heap.size ∧ l.length ≤ cap ∧ ∀ j (hj : j < l.length), w.cell? ⟨g, j, none⟩ = some (bv l[j]) := by
  rcases h.2 with ⟨_, h2⟩ | ⟨g, cap, cur, hv, hg, hh, hc, _, hcs, ht⟩
  · omega
  · refine ⟨g, cap, hv, hg, (Array.getElem?_eq_some_iff.1 hh).1, hc, fun j hj => ?_⟩
    have := World.ownsRow.cells h (g := g) (by rw [hv]; rfl) j (bv l[j]) (by simp [bvs, hj])
    have e : (⟨g, 0, none⟩ : Addr).add j = ⟨g, j, none⟩ := by unfold Addr.add; split <;> simp_all
    rwa [e] at this

theorem OB.reads {w : World} {B : Nat} {v : Value} {l : List UInt8} (h : OB w B v l) : RB w v l := by
  by_cases hl : 0 < l.length
  · obtain ⟨g, cap, hv, _, _, hc, hcell⟩ := h.form hl
    exact ⟨_, cap, hv, hc, fun _ => ⟨g, 0, rfl, fun j hj => by rw [Nat.zero_add]; exact hcell j hj⟩⟩
  · have hl0 : l = [] := List.eq_nil_of_length_eq_zero (by omega)
    subst hl0
    rcases h.2 with ⟨hv, _⟩ | ⟨g, cap, cur, hv, hg, hh, hc, _⟩
    · exact ⟨none, 0, hv, by simp, fun h => by simp at h⟩
    · exact ⟨_, cap, hv, hc, fun h => by simp at h⟩

theorem RB.nil (w : World) (a : Option Addr) (c : Nat) : RB w (.slice a 0 c) [] := ⟨a, c, rfl, by simp, fun h => by simp at h⟩
/-- what is read is read in any world in which its block is as it was -/
theorem RB.same {w w' : World} {v : Value} {l : List UInt8} (h : RB w v l) (hs : ∀ b off, b < w.heap.size → w.cell? ⟨b, off, none⟩ ≠ none → (∃ o n c, v = .slice (some ⟨b, o, none⟩) n c) → w'.heap[b]? = w.heap[b]?) : RB w' v l := by
  obtain ⟨ao, c, hv, hc, hr⟩ := h
  refine ⟨ao, c, hv, hc, fun hl => ?_⟩
  obtain ⟨b, off, hao, hcell⟩ := hr hl
  refine ⟨b, off, hao, fun j hj => ?_⟩
  have h1 := hcell j hj
  rw [← h1]
  exact World.cell?_of_block (w := w) (hs b (off + j) (World.block_lt_of_cell? w _ h1) (by rw [h1]; simp) ⟨off, _, _, by rw [hv, hao]⟩)
theorem RB.below {w w' : World} {v : Value} {l : List UInt8} (h : RB w v l) (hb : Below w.heap.size w w') : RB w' v l :=
  h.same fun b _ hlt _ _ => hb.block b hlt
theorem RB.alloc {w : World} {v : Value} {l : List UInt8} (h : RB w v l) (o : Obj) : RB (w.alloc o) v l := h.below ((Below.refl _ w).alloc (Nat.le_refl _) o)
theorem RB.drew {w : World} {v : Value} {l : List UInt8} (h : RB w v l) : RB w.drew v l := h
theorem RB.shape {w : World} {v : Value} {l : List UInt8} (h : RB w v l) : ∃ ao c, v = .slice ao l.length c ∧ l.length ≤ c := by
  obtain ⟨ao, c, hv, hc, _⟩ := h; exact ⟨ao, c, hv, hc⟩

theorem RB.len {w : World} {a : Option Addr} {n c : Nat} {l : List UInt8} (h : RB w (.slice a n c) l) : n = l.length := by
  obtain ⟨ao, c', hv, _⟩ := h; simp only [Value.slice.injEq] at hv; exact hv.2.1
theorem size_mk (l : List UInt8) : (⟨l.toArray⟩ : ByteArray).size = l.length := by simp [ByteArray.size]
theorem add_none (b off j : Nat) : (⟨b, off, none⟩ : Addr).add j = ⟨b, off + j, none⟩ := by unfold Addr.add; split <;> simp_all

/-- 'string(b)' -/
theorem RB.string {w : World} {v : Value} {l : List UInt8} (h : RB w v l) : (convert 45 9 v).run Try.prog w = .ok (.string ⟨l.toArray⟩) w := by
  obtain ⟨ao, c, rfl, hc, hr⟩ := h
  by_cases hl : 0 < l.length
  · obtain ⟨b, off, rfl, hcell⟩ := hr hl
    exact run_convert_bytes_back w _ _ _ _ c l Try.underlying45 Try.underlying5 Try.underlying9 (fun j hj => by rw [add_none]; exact hcell j hj)
  · have hl0 : l = [] := List.eq_nil_of_length_eq_zero (by omega)
    subst hl0
    cases ao with
    | none => exact run_convert_bytes_nil w _ _ Try.underlying45 Try.underlying5 0 c _ Try.underlying9
    | some a => exact run_convert_bytes_back w _ _ _ _ c [] Try.underlying45 Try.underlying5 Try.underlying9 (fun j hj => by simp at hj)

theorem infoU8 : (Try.prog.info? 5).map (fun i => (i.zero, i.size, i.bytes)) = some (some (.int .u8 0), 1, 1) := by kernel_rfl

/-- append to a row that the call owns, of bytes that lie anywhere -/
theorem wpList_appr {w : World} {ops : Array Oper} {rest : List Oper} {o : Oper} {a : Act} {Q : Exit → Act → World → Prop} (hgd : Region.wanted o (yielded ops a.tmps) = true) (s x : Operand)
    (ho : o.op = .call { callee := .builtin .append, args := #[s, x], argTypes := #[45, 45] })
    (base : Nat) (v : Value) (xs : List UInt8) (hs : a.eval s = v) (hown : OB w base v xs)
    (u : Value) (news : List UInt8) (hx : a.eval x = u) (hr : RB w u news)
    (hlen : xs.length + news.length ≤ 140737488355328) (hbase : base ≤ w.heap.size)
    (h : ∀ v' w', OB w' base v' (xs ++ news) → OB w' base v xs → App w w' v v' → wpList Try.prog ops Q rest (a.put o.dst v') w') : wpList Try.prog ops Q (o :: rest) a w := by
  obtain ⟨i0, hi, hz0, hz1, hz2⟩ := info_parts infoU8
  obtain ⟨ao, c, rfl, hc, hcells⟩ := hr
  cases ao with
  | none =>
    have hn0 : news = [] := by
      rcases Nat.eq_zero_or_pos news.length with h0 | h0
      · exact List.eq_nil_of_length_eq_zero h0
      · obtain ⟨b, off, hb, _⟩ := hcells h0; cases hb
    subst hn0
    have hrun := run_append_owned_none (P := Try.prog) w base 45 o.type 5 i0 1 Try.underlying45 hi v xs.length (bvs xs) hown
    refine BigFrame.wpList_want hgd fun K hK' => ?_
    have hrun' : (Builtin.append_ #[45, 45] o.type #[v, .slice none 0 c]).run Try.prog w = .ok v w := by
      have e : (Builtin.append_ #[45, 45] o.type #[v, .slice none 0 c]) = (Builtin.append_ #[45, 45] o.type #[v, .slice none 0 0]) := rfl
      rw [e]; exact hrun
    unfold Oper.wp execOp
    simp only [ho, resolve, invoke, builtin, Sem.run_bind, Sem.run_pure, Result.andThen_ok, List.map_toArray, List.map_cons, List.map_nil, hs, hx, List.length_nil, hrun']
    exact hK' _ _ (h v w (by simpa using hown) hown ⟨World.grownBy.refl _ _, .inl rfl⟩)
  | some ad =>
    have hc2 : ∀ j t, (bvs news)[j]? = some t → w.cell? (ad.add j) = some t := by
      intro j t hj
      have hjl : j < news.length := by have := (List.getElem?_eq_some_iff.1 hj).1; simpa [bvs] using this
      obtain ⟨b, off, hb, hcell⟩ := hcells (by omega)
      cases hb
      rw [add_none, hcell j hjl, ← hj]
      simp [bvs, hjl]
    obtain ⟨v', w', hrun, h2, h3, h5⟩ := run_app (P := Try.prog) w base 45 o.type 5 i0 (.int .u8 0) 1 1 Try.underlying45 hi hz0 hz1 hz2 rfl (by decide) v xs.length (bvs xs) hown ad news.length c (bvs news) (by simp [bvs]) hc2 (bvs_one _)
      (by unfold maxLen; omega) (by omega) hbase
    refine BigFrame.wpList_want hgd fun K hK' => ?_
    unfold Oper.wp execOp
    simp only [ho, resolve, invoke, builtin, Sem.run_bind, Sem.run_pure, Result.andThen_ok, List.map_toArray, List.map_cons, List.map_nil, hs, hx, hrun]
    exact hK' _ _ (h v' w' (by unfold OB; rw [List.length_append, bvs_append]; exact h2) h3 h5)

/-- a new row is read as what it holds -/
theorem RB.fresh (w : World) (news : List UInt8) (cs : Array Value) (e : TypeId) (fr : Nat × Nat) (m c : Nat) (hcs : cs = (bvs news).toArray) (hm : m = news.length) (hc : news.length ≤ c) :
    RB (w.alloc (.cells cs e fr)) (.slice (some ⟨w.heap.size, 0, none⟩) m c) news := by
  subst hcs; subst hm
  refine ⟨_, c, rfl, hc, fun _ => ⟨_, 0, rfl, fun j hj => ?_⟩⟩
  have hh : (w.alloc (.cells (bvs news).toArray e fr)).heap[w.heap.size]? = some (.cells (bvs news).toArray e fr) := heap_alloc_new w _
  rw [cell_of_row _ _ _ _ _ _ hh]
  simp [bvs, hj]

/-- append of one to some bytes that were laid just before: 'append(v, c)' -/
theorem wpList_appb {w : World} {ops : Array Oper} {rest : List Oper} {o : Oper} {a : Act} {Q : Exit → Act → World → Prop} (hgd : Region.wanted o (yielded ops a.tmps) = true) (s x : Operand)
    (ho : o.op = .call { callee := .builtin .append, args := #[s, x], argTypes := #[45, 45] })
    (base : Nat) (v : Value) (xs : List UInt8) (hs : a.eval s = v) (hown : OB w base v xs)
    (cs : Array Value) (m c : Nat) (news : List UInt8) (hx : a.eval x = .slice (some ⟨w.heap.size, 0, none⟩) m c) (hcs : cs = (bvs news).toArray) (hm : m = news.length) (hc : m ≤ c)
    (hlen : xs.length + news.length ≤ 140737488355328) (hbase : base ≤ w.heap.size)
    (h : ∀ v' w', OB w' base v' (xs ++ news) → App w w' v v' → wpList Try.prog ops Q rest (a.put o.dst v') w') :
    wpList Try.prog ops Q (o :: rest) a (w.alloc (.cells cs 5)) := by
  refine wpList_appr hgd s x ho base v xs hs (hown.alloc _) _ news hx (RB.fresh w news cs _ _ m c hcs hm (by omega)) hlen (by simp; omega) ?_
  intro v' w' h1 _ h2
  refine h v' w' h1 ⟨⟨h2.grown.os, h2.grown.tape, h2.grown.output, ?_, fun k hk hne => ?_⟩, ?_⟩
  · have := h2.grown.size; simp at this; omega
  · rw [h2.grown.block k (by simp; omega) hne]; exact Below.heap_alloc w _ k hk
  · rcases h2.lies with e | ⟨g, e1, e2⟩
    · exact .inl e
    · exact .inr ⟨g, e1, by simp at e2; omega⟩

/-! what is known of one world, in all that come behind it -/
theorem gen_wp {P : Program} {c : Code} {Q : Exit → Act → World → Prop} {a : Act} {w : World} (R : World → Prop) (hR : R w) (h : ∀ w', R w' → c.wp P Q a w') : c.wp P Q a w := h w hR
theorem cell_next {w0 : World} {a : Addr} {v : Value} (c : w0.cell? a = some v) : ∀ w', Below w0.heap.size w0 w' → w'.cell? a = some v :=
  fun _ h => (h.cell (World.block_lt_of_cell? w0 a c)).trans c
theorem bnext {w0 w1 w2 : World} (h : Below w0.heap.size w0 w1) (hb : Below w1.heap.size w1 w2) : Below w0.heap.size w0 w2 := h.trans (hb.mono h.size)
theorem bnext_grow {w0 w1 : World} (h : Below w0.heap.size w0 w1) : ∀ d os, Below w0.heap.size w0 (Go.Sort.grow (redrawn w1 d) os) := fun d os => bnext h (below_regrown w1 d os)
end Go.Proofs.Ytcgjkgcafkcgoaa
