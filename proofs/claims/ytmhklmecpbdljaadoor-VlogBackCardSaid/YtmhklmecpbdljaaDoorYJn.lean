/- Texts joined: Vb1, Vb2. -/
import Derived.Test.YtmhklmecpbdljaaDoorYJk
/- Chapter 14: VlogBack: the plain part. -/

namespace Go.Proofs.YtmhklmecpbdljaaDoor
open Go.RowKit Go.Shelf
set_option linter.unusedVariables false
set_option linter.unusedSimpArgs false

/-- a log over the zones 0, 1, ..: the records that stand in each -/
structure CB (D : Dv) (L : List (List (List UInt8))) : Prop where
  dn : D.n = 4
  ds : D.size = 400
  op : D.op = 4
  down : D.down = false
  left : D.left < 0
  len : L.length ≤ 4
  lenA : D.A.length = 4
  b : ∀ k (h : k < L.length) (h2 : k < D.A.length), D.A[k].b = flR L[k]
  e : ∀ k (h2 : k < D.A.length), L.length ≤ k → D.A[k] = ⟨0, [], 0⟩
  sm : ∀ K ∈ L, ∀ t ∈ K, t.length ≤ 1000000
theorem CB.new : CB (dv0 4 400 4) [] :=
  ⟨rfl, rfl, rfl, rfl, (by show (-1 : Int) < 0; decide), Nat.zero_le _, List.length_replicate, fun k h => absurd h (Nat.not_lt_zero _), fun k h2 _ => List.getElem_replicate _, fun K h => by simp at h⟩
section
variable {D : Dv} {L : List (List (List UInt8))}
theorem CB.grow (h : CB D L) (hn : L.length < 4) : CB D (L ++ [[]]) := by
  refine ⟨h.dn, h.ds, h.op, h.down, h.left, by simp; omega, h.lenA, fun k h1 h2 => ?_, fun k h2 h3 => h.e k h2 (by simp at h3; omega), fun K hK t ht => ?_⟩
  · by_cases hk : k < L.length
    · rw [h.b k hk h2, List.getElem_append_left hk]
    · have : k = L.length := by simp at h1; omega
      subst this
      rw [h.e _ h2 (Nat.le_refl _), List.getElem_append_right (Nat.le_refl _)]
      simp [flR]
  · rw [List.mem_append] at hK
    rcases hK with hK | hK
    · exact h.sm K hK t ht
    · obtain rfl : K = [] := by simpa using hK
      simp at ht
theorem CB.zst (h : CB D L) (hn : L.length < 4) : zst D (L.length : Nat) = 0 := by
  have h2 : L.length < D.A.length := by rw [h.lenA]; exact hn
  rw [zst_at _ h2, h.e _ h2 (Nat.le_refl _)]
  rfl
theorem CB.append {M : List (List (List UInt8))} {R : List (List UInt8)} (h : CB D (M ++ [R])) {t : List UInt8} (ht : t.length ≤ 1000000) (hr : ((frB t).length : Int) ≤ zrm D (M.length : Nat)) :
    ∃ D', zapp D (M.length : Nat) (frB t) = (D', 0) ∧ CB D' (M ++ [R ++ [t]]) ∧ D'.done = D.done + 1 ∧ zpt D (M.length : Nat) = ((flR R).length : Nat) ∧ zpt D' (M.length : Nat) = ((flR R).length + (frB t).length : Nat) ∧ (flR R).length + (frB t).length ≤ 400 := by
  have hlen : M.length < 4 := by have := h.len; simp at this; omega
  have hk : M.length < D.A.length := by rw [h.lenA]; exact hlen
  have hdn : M.length < D.n := by rw [h.dn]; exact hlen
  have hbk : D.A[M.length].b = flR R := by rw [h.b M.length (by simp) hk]; simp
  have hf5 := frB_pos t
  rw [zrm_at _ hk] at hr
  have hst : D.A[M.length].st ≠ 2 := fun e => by rw [if_pos e] at hr; omega
  rw [if_neg hst, hbk, h.ds] at hr
  have hfit : (flR R).length + (frB t).length ≤ 400 := by omega
  have hopn : ¬ (D.A[M.length].st = 0 ∧ D.op ≤ zopn D.A) := by
    rintro ⟨h0, h1⟩
    have hlt : zopn D.A < D.A.length := by
      unfold zopn
      have h2 := List.countP_le_length (p := fun z : Zn => z.st == 1) (l := D.A)
      rcases Nat.lt_or_ge (D.A.countP fun z => z.st == 1) D.A.length with h3 | h3
      · exact h3
      · have h4 : (D.A.countP fun z => z.st == 1) = D.A.length := by omega
        rw [List.countP_eq_length] at h4
        have := h4 _ (List.getElem_mem hk)
        rw [h0] at this
        simp at this
    rw [h.lenA] at hlt
    rw [h.op] at h1
    omega
  rw [zapp_in h.down hdn hk]
  unfold zappA
  rw [if_neg hst, if_neg hopn, if_neg (by rw [hbk, h.ds]; omega)]
  refine ⟨{ D with done := D.done + 1, A := D.A.set M.length ⟨if D.A[M.length].b.length + (frB t).length = D.size then 2 else 1, D.A[M.length].b ++ frB t, D.A[M.length].fl⟩ }, ?_, ?_, rfl, ?_, ?_, hfit⟩
  · rw [zcmd_free (by exact h.left)]
  · refine ⟨h.dn, h.ds, h.op, h.down, h.left, by have := h.len; simpa using this, by simp only [List.length_set]; exact h.lenA, fun k h1 h2 => ?_, fun k h2 h3 => ?_, fun K hK u hu => ?_⟩
    · simp only [List.length_set] at h2
      have h1' : k < M.length + 1 := by simpa using h1
      by_cases e : k = M.length
      · subst e
        simp only [List.getElem_set_self]
        rw [hbk]
        simp [flR_snoc]
      · simp only
        rw [List.getElem_set_ne (fun e2 => e e2.symm), h.b k (by simp; omega) h2]
        rw [List.getElem_append_left (by omega), List.getElem_append_left (by omega)]
    · simp only [List.length_set] at h2
      have h3' : M.length + 1 ≤ k := by simpa using h3
      simp only
      rw [List.getElem_set_ne (by omega)]
      exact h.e k h2 (by simp; omega)
    · rw [List.mem_append] at hK
      rcases hK with hK | hK
      · exact h.sm K (by simp [hK]) u hu
      · obtain rfl : K = R ++ [t] := by simpa using hK
        rw [List.mem_append] at hu
        rcases hu with hu | hu
        · exact h.sm R (by simp) u hu
        · obtain rfl : u = t := by simpa using hu
          exact ht
  · rw [zpt_at _ hk, hbk]
  · rw [zpt_at _ (by simp only [List.length_set]; exact hk)]
    simp only [List.getElem_set_self, List.length_append]
    rw [hbk]
theorem CB.at (h : CB D L) (k : Nat) (h2 : k < D.A.length) : D.A[k].b = flR (L.getD k []) := by
  by_cases hk : k < L.length
  · rw [h.b k hk h2]; simp [List.getD, hk]
  · rw [h.e k h2 (by omega)]
    have : L.getD k [] = [] := by simp [List.getD, hk]
    rw [this]; rfl
theorem CB.zone (h : CB D L) (hok : DvOk D) (k : Nat) (hk : k < 4) : zread D (k : Nat) 0 (zpt D (k : Nat)) = (flR (L.getD k []), 0) ∧ ScanIs (flR (L.getD k [])) (L.getD k []) ∧ (flR (L.getD k [])).length ≤ 400 := by
  have h2 : k < D.A.length := by rw [h.lenA]; exact hk
  have hb := h.at k h2
  have hz := (hok.zs _ (List.getElem_mem h2)).len
  rw [hb, h.ds] at hz
  refine ⟨?_, ⟨fun t ht => ?_, [], by rw [List.append_nil]; rfl, rfl⟩, hz⟩
  · rw [zpt_at k h2, zread_all h.down (by rw [h.dn]; exact hk) h2, hb]
  · by_cases hkl : k < L.length
    · have e : L.getD k [] = L[k] := by simp [List.getD, hkl]
      rw [e] at ht
      have := h.sm _ (List.getElem_mem hkl) t ht
      omega
    · have e : L.getD k [] = [] := by simp [List.getD, hkl]
      rw [e] at ht; simp at ht
theorem CB.lread (h : CB D L) {k : Nat} (hk : k < L.length) {A C : List (List UInt8)} {t : List UInt8} (he : L[k] = A ++ t :: C) (ht : t.length ≤ 65536) : Go.Proofs.YtmhklmecpbdljaaDoor.lread D (k : Nat) ((flR A).length : Nat) (t.length : Nat) = (t, 0) := by
  have h2 : k < D.A.length := by have := h.len; rw [h.lenA]; omega
  refine lread_whole (t := t) (I := frB t) ht ?_ ?_ rfl rfl
  · rw [zread_in h.down (by rw [h.dn]; have := h.len; omega) h2, h.b k hk h2, he, fsz_frB]
    have e : flR (A ++ t :: C) = flR A ++ (frB t ++ flR C) := by simp [flR]
    rw [e]
    unfold zrdb
    rw [if_neg (by simp only [List.length_append]; omega)]
    simp
  · have := ScanIs.one (t := t) (by omega) (r := []) rfl
    rwa [List.append_nil] at this
end
/-- the values of all zones -/
noncomputable def vpre (L : List (List (List UInt8))) (k : Nat) : List Vv := (List.range k).flatMap fun z : Nat => vlist (z : Int) 0 (L.getD z [])
theorem vpre_succ (L : List (List (List UInt8))) (k : Nat) : vpre L (k + 1) = vpre L k ++ vlist (k : Int) 0 (L.getD k []) := by
  unfold vpre; rw [List.range_succ, List.flatMap_append]; simp
theorem vpre_ge (L : List (List (List UInt8))) (d : Nat) : vpre L (L.length + d) = vpre L L.length := by
  induction d with
  | zero => rfl
  | succ d ih =>
    rw [← Nat.add_assoc, vpre_succ, ih]
    have e : L.getD (L.length + d) [] = [] := by simp [List.getD]
    rw [e]; simp [vlist]
theorem vpre_congr {L M : List (List (List UInt8))} {k : Nat} (h : ∀ z, z < k → L.getD z [] = M.getD z []) : vpre L k = vpre M k := by
  induction k with
  | zero => rfl
  | succ k ih => rw [vpre_succ, vpre_succ, ih (fun z hz => h z (by omega)), h k (by omega)]
theorem vpre_grow (L : List (List (List UInt8))) : vpre (L ++ [[]]) (L ++ [[]]).length = vpre L L.length := by
  rw [List.length_append, List.length_singleton, vpre_succ]
  have e : (L ++ [[]]).getD L.length [] = [] := by simp [List.getD]
  rw [e, vpre_congr (M := L) (fun z hz => by simp [List.getD, hz, List.getElem?_append_left hz])]
  simp [vlist]
theorem vpre_put (M : List (List (List UInt8))) (R : List (List UInt8)) {x : It} (hr : keyRight x.u x.s x.k = true) (hv : x.v.size ≤ 100000) :
    vpre (M ++ [R ++ [recB x.u x.s x.k x.v]]) (M.length + 1) = vpre (M ++ [R]) (M.length + 1) ++ [⟨x, (M.length : Nat), ((flR R).length : Nat), ((recB x.u x.s x.k x.v).length : Nat)⟩] := by
  have e1 : (M ++ [R ++ [recB x.u x.s x.k x.v]]).getD M.length [] = R ++ [recB x.u x.s x.k x.v] := by simp [List.getD]
  have e2 : (M ++ [R]).getD M.length [] = R := by simp [List.getD]
  have hvo : ∀ at', vone (M.length : Nat) at' (recB x.u x.s x.k x.v) = [⟨x, (M.length : Nat), (at' : Nat), ((recB x.u x.s x.k x.v).length : Nat)⟩] := fun at' => by unfold vone; rw [vdec_rec hr hv]
  rw [vpre_succ, vpre_succ, e1, e2, vpre_congr (M := M ++ [R]) (fun z hz => by simp [List.getD, List.getElem?_append_left hz]), vlist_append, vlist_one, hvo, Nat.zero_add, List.append_assoc]
/-- where a value stands -/
theorem vone_mem {z : Int} {at' : Nat} {t : List UInt8} {y : Vv} (h : y ∈ vone z at' t) : y.z = z ∧ y.a = (at' : Nat) ∧ y.n = (t.length : Nat) ∧ keyRight y.x.u y.x.s y.x.k = true ∧ t = recB y.x.u y.x.s y.x.k y.x.v := by
  unfold vone at h
  split at h
  · rename_i x hx
    obtain rfl := List.mem_singleton.1 h
    unfold vdec at hx
    split at hx
    · rename_i hex
      obtain ⟨h1, h2⟩ := Classical.choose_spec hex
      obtain rfl := Option.some.inj hx
      exact ⟨rfl, rfl, rfl, h1, h2⟩
    · cases hx
  · simp at h
theorem vlist_mem {z : Int} : ∀ {K : List (List UInt8)} {at' : Nat} {y : Vv}, y ∈ vlist z at' K → ∃ A t C, K = A ++ t :: C ∧ y ∈ vone z (at' + (flR A).length) t
  | [], _, _, h => by simp [vlist] at h
  | t :: K, at', y, h => by
    rcases List.mem_append.1 h with h | h
    · exact ⟨[], t, K, rfl, by simpa [flR] using h⟩
    · obtain ⟨A, u, C, rfl, hy⟩ := vlist_mem h
      refine ⟨t :: A, u, C, rfl, ?_⟩
      have e : (flR (t :: A)).length = (frB t).length + (flR A).length := by simp [flR]
      rw [e, ← Nat.add_assoc]
      exact hy
theorem CB.found {D : Dv} {L : List (List (List UInt8))} (h : CB D L) (hok : DvOk D) {y : Vv} (hy : y ∈ vpre L L.length) : keyRight y.x.u y.x.s y.x.k = true ∧ pchk y.z y.a y.n = true ∧ Go.Proofs.YtmhklmecpbdljaaDoor.lread D y.z y.a y.n = (recB y.x.u y.x.s y.x.k y.x.v, 0) := by
  unfold vpre at hy
  obtain ⟨k, hk, hy⟩ := List.mem_flatMap.1 hy
  have hk : k < L.length := List.mem_range.1 hk
  have e : L.getD k [] = L[k] := by simp [List.getD, hk]
  rw [e] at hy
  obtain ⟨A, t, C, hA, hy⟩ := vlist_mem hy
  obtain ⟨h1, h2, h3, h4, h5⟩ := vone_mem hy
  have h400 := (h.zone hok k (by have := h.len; omega)).2.2
  rw [e, hA] at h400
  have ef : flR (A ++ t :: C) = flR A ++ (frB t ++ flR C) := by simp [flR]
  rw [ef, List.length_append, List.length_append] at h400
  have hf := frB_len t
  have htp : 0 < t.length := by
    rw [h5]; unfold recB txtB
    have := num_pos (keyBytes y.x.u.data.toList y.x.s y.x.k).length
    simp only [List.length_append]; omega
  have hl := h.lread hk hA (by omega)
  rw [Nat.zero_add] at h2
  refine ⟨h4, ?_, ?_⟩
  · rw [h1, h2, h3]
    unfold pchk
    rw [decide_eq_true_eq]
    have := h.len
    omega
  · rw [h1, h2, h3, ← h5]
    exact hl
theorem VGet.other {D : Dv} {z a n : Int} {u : ByteArray} {s k : Int} {v x : ByteArray} {er : Int} (h : VGet D z a n u (s + 1) k v er) (hp : pchk z a n = true) (hl : Go.Proofs.YtmhklmecpbdljaaDoor.lread D z a n = (recB u s k x, 0)) (hr : keyRight u s k = true) (hx : x.size ≤ 100000) : er = 140 := by
  rcases h with ⟨h, _⟩ | ⟨_, h, _⟩ | ⟨_, _, _, h1, h2⟩ | ⟨_, _, h, _⟩
  · rw [hp] at h; cases h
  · rw [hl] at h; exact absurd rfl h
  · rw [hl] at h2
    have hv := recB_ge u (s + 1) k v
    have h3 : recB u s k x = recB u (s + 1) k v := h2
    rw [← h3] at hv
    have := recB_len hr x (by omega)
    have := (recB_inj hr h1 (by omega) (by omega) h3).1.2.1
    omega
  · exact h
/-- rows of unlike elements lie apart -/
theorem rows_apart {w : World} {B C n m sz tz : Nat} {e f : TypeId} {v u : Value} {xs ys : List Value} (h : w.ownsRow B e sz v n xs) (k : w.ownsRow C f tz u m ys) (hne : e ≠ f) : v.ownBlock = none ∨ v.ownBlock ≠ u.ownBlock := by
  rcases h.2 with ⟨rfl, _⟩ | ⟨g, cap, cur, rfl, _, hgb, _⟩
  · exact .inl rfl
  · refine .inr fun e1 => ?_
    rcases k.2 with ⟨rfl, _⟩ | ⟨g', cap', cur', rfl, _, hgb', _⟩
    · cases e1
    · have : g = g' := by simpa [Value.ownBlock] using e1
      subst this
      rw [hgb] at hgb'
      simp only [Option.some.injEq, Obj.cells.injEq] at hgb'
      exact hne hgb'.2.1
def Vv.pcells (y : Vv) : List Value := [.int .i64 y.z, .int .i64 y.a, .int .i64 y.n]
def pvs (l : List Vv) : List Value := l.flatMap Vv.pcells
theorem pvs_snoc (l : List Vv) (y : Vv) : pvs (l ++ [y]) = pvs l ++ y.pcells := by simp [pvs]
theorem pvs_at : ∀ (l : List Vv) (i : Nat) (h : i < l.length), (pvs l)[i * 3]? = some (.int .i64 l[i].z) ∧ (pvs l)[i * 3 + 1]? = some (.int .i64 l[i].a) ∧ (pvs l)[i * 3 + 2]? = some (.int .i64 l[i].n)
  | x :: l, 0, _ => ⟨rfl, rfl, rfl⟩
  | x :: l, i + 1, h => by
    have ih := pvs_at l i (by simpa using h)
    have e : pvs (x :: l) = .int .i64 x.z :: .int .i64 x.a :: .int .i64 x.n :: pvs l := rfl
    rw [e, show (i + 1) * 3 = i * 3 + 3 by omega]
    exact ih
theorem infoPt : (Tryd.prog.info? 25).map (fun i => (i.zero, i.size, i.bytes)) = some (some (.agg #[.int .i64 0, .int .i64 0, .int .i64 0]), 3, 24) := by kernel_rfl
theorem prow_at {w wr : World} {B : Nat} {a : Option Addr} {c : Nat} {l : List Vv} (h : w.ownsRow B 25 3 (.slice a l.length c) l.length (pvs l)) (hb : Below w.heap.size w wr) (i : Nat) (hi : i < l.length) : ∃ g, a = some ⟨g, 0, none⟩ ∧ wr.cell? ⟨g, i * 3, none⟩ = some (.int .i64 l[i].z) ∧ wr.cell? ⟨g, i * 3 + 1, none⟩ = some (.int .i64 l[i].a) ∧ wr.cell? ⟨g, i * 3 + 2, none⟩ = some (.int .i64 l[i].n) := by
  obtain ⟨ao, c', e, _, _, hg⟩ := row_shape h
  simp only [Value.slice.injEq] at e
  obtain ⟨rfl, _, rfl⟩ := e
  obtain ⟨g, rfl, _⟩ := hg (by omega)
  obtain ⟨x0, x1, x2⟩ := pvs_at l i hi
  have key : ∀ j v, (pvs l)[j]? = some v → wr.cell? ⟨g, j, none⟩ = some v := fun j v hv => by
    refine cell_next ?_ _ hb
    have := World.ownsRow.cells h (g := g) rfl j v hv
    rw [add_none] at this
    simpa using this
  exact ⟨g, rfl, key _ _ x0, key _ _ x1, key _ _ x2⟩
/-- append of a row of values to a row of values -/
theorem wpList_appV {w : World} {ops : Array Oper} {rest : List Oper} {o : Oper} {a : Act} {Q : Exit → Act → World → Prop} (hgd : Region.wanted o (yielded ops a.tmps) = true) (s x : Operand)
    (ho : o.op = .call { callee := .builtin .append, args := #[s, x], argTypes := #[65, 65] })
    (base : Nat) (v : Value) (n : Nat) (xs : List Value) (hs : a.eval s = v) (hown : w.ownsRow base 69 7 v n xs)
    (C : Nat) (u : Value) (P : List Vv) (hx : a.eval x = u) (hr : w.ownsRow C 69 7 u P.length (vvs P))
    (hlen : n + P.length ≤ 1000000000) (hbase : base ≤ w.heap.size)
    (h : ∀ v' w', w'.ownsRow base 69 7 v' (n + P.length) (xs ++ vvs P) → App w w' v v' → wpList Tryd.prog ops Q rest (a.put o.dst v') w') : wpList Tryd.prog ops Q (o :: rest) a w := by
  obtain ⟨i0, hi, hz0, hz1, hz2⟩ := info_parts infoVv
  rcases hr.2 with ⟨rfl, h0⟩ | ⟨g, cap, cur, rfl, hCg, hgb, hnc, hcm, hsz, htk⟩
  · have hn0 : P = [] := List.eq_nil_of_length_eq_zero h0
    subst hn0
    have hrun := run_append_owned_none (P := Tryd.prog) w base 65 o.type 69 i0 7 Tryd.underlying65 hi v n xs hown
    refine BigFrame.wpList_want hgd fun K hK' => ?_
    unfold Oper.wp execOp
    simp only [ho, resolve, invoke, builtin, Sem.run_bind, Sem.run_pure, Result.andThen_ok, List.map_toArray, List.map_cons, List.map_nil, hs, hx, hrun]
    exact hK' _ _ (h v w (by simpa [vvs] using hown) ⟨World.grownBy.refl _ _, .inl rfl⟩)
  · refine wpList_appG hgd s x 65 69 i0 (.agg #[.string ⟨#[]⟩, .int .i64 0, .int .i64 0, .string ⟨#[]⟩, .int .i64 0, .int .i64 0, .int .i64 0]) 7 72 Tryd.underlying65 hi hz0 hz1 hz2 rfl (by decide) ho base v n xs hs hown ⟨g, 0, none⟩ P.length cap (vvs P) hx (vvs_len P) ?_ ?_ (by unfold maxLen; omega) (by omega) hbase fun v' w' h1 _ h2 => h v' w' h1 h2
    · intro j y hj
      exact World.ownsRow.cells hr (g := g) rfl j y hj
    · intro y hy
      unfold vvs at hy
      obtain ⟨q, _, hq⟩ := List.mem_flatMap.1 hy
      unfold Vv.cells at hq
      simp only [List.mem_cons, List.not_mem_nil, or_false] at hq
      rcases hq with rfl | rfl | rfl | rfl | rfl | rfl | rfl <;> rfl
end Go.Proofs.YtmhklmecpbdljaaDoor
/- Chapter 14: VlogBack: its steps. -/

namespace Go.Proofs.YtmhklmecpbdljaaDoor
open Go.RowKit Go.Shelf
set_option linter.unusedVariables false
set_option linter.unusedSimpArgs false

theorem rng_snocB (M : List (List (List UInt8))) (R : List (List UInt8)) : List.range (M ++ [R]).length = List.range M.length ++ [M.length] := by
  rw [List.length_append, List.length_singleton, List.range_succ]
def BkI (w wr : World) (q p m : Nat) (v1 v2 : Value) (D : Dv) (F : Nat → Prop) (L : List (List (List UInt8))) (WL : List Vv) : Prop :=
  CB D L ∧ D.done ≤ m ∧ LI wr w.heap.size q p F D (List.range L.length) ∧ vpre L L.length = WL ∧ wr.ownsRow w.heap.size 37 4 v1 WL.length (itvs (WL.map Vv.x)) ∧ wr.ownsRow w.heap.size 25 3 v2 WL.length (pvs WL) ∧ (∀ x, v1.ownBlock = some x → ¬ F x) ∧ (∀ x, v2.ownBlock = some x → ¬ F x) ∧ WL.length ≤ m ∧ (∀ y ∈ WL, y.x.v.size ≤ 500) ∧ Below w.heap.size w wr
section
variable {w wr w' : World} {q p m m' : Nat} {v1 v2 : Value} {D D' : Dv} {F : Nat → Prop} {L L' : List (List (List UInt8))} {WL : List Vv}
theorem BkI.below (h : BkI w wr q p m v1 v2 D F L WL) (hb : Below wr.heap.size wr w') (hm : m ≤ m') : BkI w w' q p m' v1 v2 D F L WL := by
  obtain ⟨h1, h2, h3, h4, h5, h6, h7, h8, h9, h10, h11⟩ := h
  exact ⟨h1, by omega, h3.below hb, h4, row_past h5 hb (Nat.le_refl _), row_past h6 hb (Nat.le_refl _), h7, h8, by omega, h10, h11.trans (hb.mono h11.size)⟩
/-- the log has turned; the rows stay -/
theorem BkI.turn (h : BkI w wr q p m v1 v2 D F L WL) (zs : List Nat) (ho : LOut wr w.heap.size q p F D' zs w') : ∃ F', LI w' w.heap.size q p F' D' zs ∧ w'.ownsRow w.heap.size 37 4 v1 WL.length (itvs (WL.map Vv.x)) ∧ w'.ownsRow w.heap.size 25 3 v2 WL.length (pvs WL) ∧ (∀ x, v1.ownBlock = some x → ¬ F' x) ∧ (∀ x, v2.ownBlock = some x → ¬ F' x) ∧ (∀ x, F' x → F x ∨ wr.heap.size ≤ x) ∧ Below w.heap.size w w' := by
  obtain ⟨h1, h2, h3, h4, h5, h6, h7, h8, h9, h10, h11⟩ := h
  have hb := ho.below h3.ge h3.room
  obtain ⟨⟨F', hD', hF'⟩, hc'⟩ := ho
  refine ⟨F', hD', row_same h5 fun k hk => hc'.block k (World.ownsRow.lt h5 k hk).2 (h7 k hk), row_same h6 fun k hk => hc'.block k (World.ownsRow.lt h6 k hk).2 (h8 k hk), fun x hx hf => ?_, fun x hx hf => ?_, hF', h11.trans hb⟩
  · rcases hF' x hf with h | h
    · exact h7 x hx h
    · have := (World.ownsRow.lt h5 x hx).2; omega
  · rcases hF' x hf with h | h
    · exact h8 x hx h
    · have := (World.ownsRow.lt h6 x hx).2; omega
theorem BkI.room (h : BkI w wr q p m v1 v2 D F L WL) : ∃ r : Int, (L = [] → r = 0) ∧ (∀ M R, L = M ++ [R] → r = zrm D (M.length : Nat)) ∧ Calls Tryd.prog 31 #[.pointer (some ⟨q, 0, none⟩)] wr fun e w' => e = .returned (.int .i64 r) ∧ Below wr.heap.size wr w' := by
  obtain ⟨h1, h2, h3, _⟩ := h
  rcases List.eq_nil_or_concat L with rfl | ⟨M, R, rfl⟩
  · exact ⟨0, fun _ => rfl, fun M R e => by simp at e, LI.room_nil h3⟩
  · rw [List.concat_eq_append] at *
    rw [rng_snocB] at h3
    refine ⟨zrm D (M.length : Nat), fun e => by simp at e, fun M2 R2 e => ?_, h3.room_last (by have := h1.len; simp at this ⊢; omega)⟩
    obtain ⟨rfl, _⟩ := List.append_inj' e rfl
    rfl
/-- a value is put into the last zone -/
theorem CB.put {M : List (List (List UInt8))} {R : List (List UInt8)} (h : CB D (M ++ [R])) (hL : LI wr w.heap.size q p F D (List.range (M ++ [R]).length)) (hT : Tab9 wr) {u : ByteArray} {s k : Int} {v : ByteArray} (hr : keyRight u s k = true) (hv : v.size ≤ 500) (hdn : D.done < 4611686018427387904) :
    ∃ (D' : Dv) (zz aa nn er : Int), D'.done ≤ D.done + 1 ∧ ((er = 0 ∧ ((frB (recB u s k v)).length : Int) ≤ zrm D (M.length : Nat) ∧ zz = (M.length : Nat) ∧ aa = ((flR R).length : Nat) ∧ nn = ((recB u s k v).length : Nat) ∧ CB D' (M ++ [R ++ [recB u s k v]]) ∧ zpt D' (M.length : Nat) = ((flR R).length + (frB (recB u s k v)).length : Nat) ∧ (flR R).length + (frB (recB u s k v)).length ≤ 400) ∨ (er ≠ 0 ∧ zrm D (M.length : Nat) < ((frB (recB u s k v)).length : Int) ∧ zz = 0 ∧ aa = 0 ∧ nn = 0 ∧ D' = D)) ∧
      Calls Tryd.prog 13 #[.pointer (some ⟨q, 0, none⟩), .agg #[.string u, .int .i64 s, .int .i64 k], .string v] wr fun e w' => e = .returned (.tuple #[.agg #[.int .i64 zz, .int .i64 aa, .int .i64 nn], .int .i64 er]) ∧ LOut wr w.heap.size q p F D' (List.range (M ++ [R]).length) w' := by
  have hrl := recB_len hr v (by omega)
  have hm : (List.range M.length).length ≤ 1000 := by have := h.len; simp at this ⊢; omega
  have hL0 := hL
  rw [rng_snocB] at hL ⊢
  by_cases hfit : ((frB (recB u s k v)).length : Int) ≤ zrm D (M.length : Nat)
  · obtain ⟨D', hz, hD', hdn', hp1, hp2, h400⟩ := h.append (by omega) hfit
    refine ⟨D', (M.length : Nat), ((flR R).length : Nat), ((recB u s k v).length : Nat), 0, by omega, .inl ⟨rfl, hfit, rfl, rfl, rfl, hD', hp2, h400⟩, hL.put hr (by omega) (M.length : Nat) ((flR R).length : Nat) 0 _ _ _ (fun W ao c hW hR => ?_) (.inl ⟨rfl, rfl, rfl, rfl⟩)⟩
    have := (hL.below hW).append (er := 0) hm (hT.below hW) hR (by omega) (by rw [h.ds]; omega) hfit hdn hz rfl
    rw [hp1] at this
    exact this
  · by_cases h4 : 400 < (frB (recB u s k v)).length
    · exact ⟨D, 0, 0, 0, 201, Nat.le_succ _, .inr ⟨by decide, by omega, rfl, rfl, rfl, rfl⟩, hL.put hr (by omega) 0 0 201 0 0 0 (fun W ao c hW hR => ((hL.below hW).append_large (hT.below hW) hR (by omega) (by rw [h.ds]; exact h4)).mono fun e w' ⟨h1, h2⟩ => ⟨h1, LOut.same (hL.below hW) h2⟩) (.inr ⟨by decide, rfl, rfl, rfl⟩)⟩
    · exact ⟨D, 0, 0, 0, 73, Nat.le_succ _, .inr ⟨by decide, by omega, rfl, rfl, rfl, rfl⟩, hL.put hr (by omega) 0 0 73 0 0 0 (fun W ao c hW hR => ((hL.below hW).append_full hm (hT.below hW) hR (by omega) (by rw [h.ds]; omega) (by omega)).mono fun e w' ⟨h1, h2⟩ => ⟨h1, LOut.same (hL.below hW) h2⟩) (.inr ⟨by decide, rfl, rfl, rfl⟩)⟩
/-- the log and the two rows -/
def BkH (w wr : World) (q p : Nat) (v1 v2 : Value) (D : Dv) (F : Nat → Prop) (zs : List Nat) (l1 : List It) (l2 : List Vv) : Prop :=
  LI wr w.heap.size q p F D zs ∧ wr.ownsRow w.heap.size 37 4 v1 l1.length (itvs l1) ∧ wr.ownsRow w.heap.size 25 3 v2 l2.length (pvs l2) ∧ (∀ x, v1.ownBlock = some x → ¬ F x) ∧ (∀ x, v2.ownBlock = some x → ¬ F x) ∧ Below w.heap.size w wr
theorem BkH.below {zs : List Nat} {l1 : List It} {l2 : List Vv} (h : BkH w wr q p v1 v2 D F zs l1 l2) (hb : Below wr.heap.size wr w') : BkH w w' q p v1 v2 D F zs l1 l2 := by
  obtain ⟨h1, h2, h3, h4, h5, h6⟩ := h
  exact ⟨h1.below hb, row_past h2 hb (Nat.le_refl _), row_past h3 hb (Nat.le_refl _), h4, h5, h6.trans (hb.mono h6.size)⟩
theorem ne_it_ptr : (37 : TypeId) ≠ 25 := by decide
theorem BkH.app1 {zs : List Nat} {l1 : List It} {l2 : List Vv} {x : It} {v' : Value} (h : BkH w wr q p v1 v2 D F zs l1 l2) (hr : w'.ownsRow w.heap.size 37 4 v' (l1.length + 1) (itvs l1 ++ x.cells)) (ha : App wr w' v1 v') : BkH w w' q p v' v2 D F zs (l1 ++ [x]) l2 := by
  obtain ⟨h1, h2, h3, h4, h5, h6⟩ := h
  have hc := Chg.of_app ha
  refine ⟨h1.chg hc (fun k hk e => h4 k e hk), by rw [itvs_snoc, List.length_append]; exact hr, row_same h3 fun k hk => hc.block k (World.ownsRow.lt h3 k hk).2 (fun e => ?_), fun y hy hf => ?_, h5, h6.trans (hc.below (fun k hk => (World.ownsRow.lt h2 k hk).1) h6.size)⟩
  · rcases rows_apart h2 h3 ne_it_ptr with e1 | e1
    · rw [e1] at e; cases e
    · exact e1 (e.trans hk.symm)
  · rcases ha.lies with e | ⟨g, e, hg⟩
    · exact h4 y (by rw [← e]; exact hy) hf
    · rw [e] at hy; cases hy; have := (h1.ge _ hf).2; omega
theorem BkH.app2 {zs : List Nat} {l1 : List It} {l2 : List Vv} {x : Vv} {v' : Value} (h : BkH w wr q p v1 v2 D F zs l1 l2) (hr : w'.ownsRow w.heap.size 25 3 v' (l2.length + 1) (pvs l2 ++ x.pcells)) (ha : App wr w' v2 v') : BkH w w' q p v1 v' D F zs l1 (l2 ++ [x]) := by
  obtain ⟨h1, h2, h3, h4, h5, h6⟩ := h
  have hc := Chg.of_app ha
  refine ⟨h1.chg hc (fun k hk e => h5 k e hk), row_same h2 fun k hk => hc.block k (World.ownsRow.lt h2 k hk).2 (fun e => ?_), by rw [pvs_snoc, List.length_append]; exact hr, h4, fun y hy hf => ?_, h6.trans (hc.below (fun k hk => (World.ownsRow.lt h3 k hk).1) h6.size)⟩
  · rcases rows_apart h2 h3 ne_it_ptr with e1 | e1
    · rw [e1] at hk; cases hk
    · exact e1 (hk.trans e.symm)
  · rcases ha.lies with e | ⟨g, e, hg⟩
    · exact h5 y (by rw [← e]; exact hy) hf
    · rw [e] at hy; cases hy; have := (h1.ge _ hf).2; omega
theorem vset1 {t : Nat} {a b c : Value} {e : TypeId} (h : w.heap[t]? = some (.cells #[a, b, c] e (0, 0))) (s : Value) : (w.setCell ⟨t, 1, none⟩ s).heap[t]? = some (.cells #[a, s, c] e (0, 0)) := by
  simp only [World.setCell, Array.getElem?_modify, if_true, h]; rfl
theorem vpre_zero (L : List (List (List UInt8))) : vpre L 0 = [] := rfl
theorem vpre_more (L : List (List (List UInt8))) (k d : Nat) : (vpre L k).length ≤ (vpre L (k + d)).length := by
  induction d with
  | zero => exact Nat.le_refl _
  | succ d ih => rw [← Nat.add_assoc, vpre_succ, List.length_append]; omega
theorem vpre_four (h : L.length ≤ 4) : vpre L 4 = vpre L L.length := by
  have := vpre_ge L (4 - L.length)
  rwa [show L.length + (4 - L.length) = 4 by omega] at this
theorem vpre_le (h : L.length ≤ 4) {k : Nat} (hk : k ≤ 4) : (vpre L k).length ≤ (vpre L L.length).length := by
  rw [← vpre_four h]
  have := vpre_more L k (4 - k)
  rwa [show k + (4 - k) = 4 by omega] at this
theorem vvs_append (a b : List Vv) : vvs (a ++ b) = vvs a ++ vvs b := by simp [vvs]
end
end Go.Proofs.YtmhklmecpbdljaaDoor
