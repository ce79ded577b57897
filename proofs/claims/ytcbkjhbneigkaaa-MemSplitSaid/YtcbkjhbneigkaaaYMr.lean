/- Chapter 11: the document's entries: Put. -/
import Derived.Test.YtcbkjhbneigkaaaYMe
import Derived.Test.YtcbkjhbneigkaaaYMa
namespace Go.Proofs.Ytcbkjhbneigkaaa
open Go.RowKit
set_option linter.unusedVariables false
set_option linter.unusedSimpArgs false

/-- what is laid of the first i -/
def mout (M : List ME) (c : Nat) (x : ME) (i : Nat) : List ME := if i ≤ c then M.take i else M.take c ++ x :: (M.take i).drop c
theorem mout_low {M : List ME} {c : Nat} {x : ME} {i : Nat} (h : i ≤ c) : mout M c x i = M.take i := if_pos h
theorem mout_high {M : List ME} {c : Nat} {x : ME} {i : Nat} (h : c < i) : mout M c x i = M.take c ++ x :: (M.take i).drop c := if_neg (by omega)
theorem mout_step {M : List ME} {c : Nat} {x : ME} {i : Nat} (hi : i < M.length) (h : i ≠ c) (hc : c ≤ M.length) : mout M c x (i + 1) = mout M c x i ++ [M[i]] := by
  rcases Nat.lt_or_ge i c with h1 | h1
  · rw [mout_low (by omega), mout_low (by omega), List.take_succ_eq_append_getElem hi]
  · rw [mout_high (by omega), mout_high (by omega), List.take_succ_eq_append_getElem hi, List.drop_append_of_le_length (by rw [List.length_take]; omega)]
    simp
theorem mout_at {M : List ME} {c : Nat} {x : ME} (hc : c < M.length) : mout M c x (c + 1) = (mout M c x c ++ [x]) ++ [M[c]] := by
  rw [mout_high (by omega), mout_low (Nat.le_refl _), List.take_succ_eq_append_getElem hc, List.drop_append_of_le_length (by rw [List.length_take]; omega), List.drop_of_length_le (by rw [List.length_take]; omega)]
  simp
theorem mout_len {M : List ME} {c : Nat} {x : ME} {i : Nat} (hi : i ≤ M.length) : (mout M c x i).length = if i ≤ c then i else i + 1 := by
  by_cases h : i ≤ c
  · rw [mout_low h, if_pos h, List.length_take]; omega
  · rw [mout_high (by omega), if_neg h]
    simp only [List.length_append, List.length_cons, List.length_take, List.length_drop]; omega
theorem ref_info : (Try.prog.info? 49).map (fun i => (i.zero, i.size, i.bytes)) = some (some (.agg #[.string ⟨#[]⟩, .int .i64 0, .int .i64 0, .string ⟨#[]⟩]), 4, 48) := by kernel_rfl
/-- a row of the document's entries -/
def MR (w : World) (B : Nat) (v : Value) (M : List ME) : Prop := w.ownsRow B 49 4 v M.length (mrow M)
theorem MR.snoc {w : World} {B : Nat} {u : Value} {n : Nat} {A : List ME} {x : ME} (hn : n = A.length) (h : w.ownsRow B 49 4 u (n + 1) (mrow A ++ [.string x.u, .int .i64 x.s, .int .i64 x.k, .string x.v])) : MR w B u (A ++ [x]) := by
  unfold MR
  rw [mrow_append, List.length_append, List.length_singleton, ← hn]; exact h
theorem MR.below {w w' : World} {B : Nat} {v : Value} {M : List ME} (h : MR w B v M) (hb : Below w.heap.size w w') : MR w' B v M := row_past h hb (Nat.le_refl _)
theorem MR.mono {w : World} {B C : Nat} {v : Value} {M : List ME} (h : MR w B v M) (hC : C ≤ B) : MR w C v M := row_mono h hC
theorem MR.nil (w : World) (B : Nat) : MR w B (.slice none 0 0) [] := World.ownsRow_nil _ _ _ _
theorem MR.shape {w : World} {B : Nat} {v : Value} {M : List ME} (h : MR w B v M) : ∃ ao c, v = .slice ao M.length c := by
  obtain ⟨ao, c, e, _⟩ := row_shape h
  exact ⟨ao, c, e⟩
theorem MR.cells {w wr : World} {B : Nat} {ao : Option Addr} {n c : Nat} {M : List ME} (h : MR w B (.slice ao n c) M) (hb : Below w.heap.size w wr) (j : Nat) (hj : j < M.length) :
    ∃ g, ao = some ⟨g, 0, none⟩ ∧ wr.cell? ⟨g, j * 4, none⟩ = some (.string M[j].u) ∧ wr.cell? ⟨g, j * 4 + 1, none⟩ = some (.int .i64 M[j].s) ∧ wr.cell? ⟨g, j * 4 + 2, none⟩ = some (.int .i64 M[j].k) ∧ wr.cell? ⟨g, j * 4 + 3, none⟩ = some (.string M[j].v) := by
  obtain ⟨ao', c', e⟩ := h.shape
  cases e
  exact mrow_cells (h.below hb) j hj rfl
/-- the comparison that the document makes -/
theorem rcmp {x e : ME} (hx : x.u.size ≤ maxLen) (he : e.u.size ≤ maxLen) (p : Int) (hp : mcmp x e = p) (w : World) :
    Calls Try.prog 42 #[.agg #[.string x.u, .int .i64 x.s, .int .i64 x.k], .agg #[.string e.u, .int .i64 e.s, .int .i64 e.k]] w fun r w' => r = .returned (.int .i64 p) ∧ Below w.heap.size w w' := refcmp_any _ _ _ _ _ _ w hx he p hp
theorem mcmp_neg {x e : ME} (h : mcmp x e < 0) : mcmp x e = -1 := by
  rcases kcmp_range x.u e.u x.s e.s x.k e.k with h1 | h1 | h1 <;> unfold mcmp at h ⊢ <;> omega
theorem mcmp_pos {x e : ME} (h : mcmp e x < 0) : mcmp x e = 1 := by
  have := mcmp_anti e x
  have h2 := mcmp_neg h
  omega
theorem MOk.user {e : ME} (h : MOk e) : e.u.size ≤ maxLen := by
  have := right_facts h.1
  unfold maxLen; omega
def PutOut (w : World) (M : List ME) (e : Ending) (w' : World) : Prop := ∃ v, e = .returned v ∧ MR w' w.heap.size v M ∧ Below w.heap.size w w'
set_option maxRecDepth 100000 in
set_option maxHeartbeats 4000000 in
theorem refput {w : World} {B : Nat} {ao : Option Addr} {c : Nat} {M : List ME} {last : Int} (h : MR w B (.slice ao M.length c) M) (hi : MInv M last) (hl : M.length ≤ 99999) {x : ME} (hx : MOk x) (hs : last < x.s) :
    Calls Try.prog 33 #[.slice ao M.length c, .agg #[.string x.u, .int .i64 x.s, .int .i64 x.k, .string x.v]] w (PutOut w (mput M x)) := by
  have H := Lib.hid h
  have HLo : Hid (∀ j (hj : j < M.length), j < mcut (mkey x) M → mcmp x M[j] = 1) := Lib.hid fun j hj h => mcmp_pos (fresh_low hi hx j hj h)
  have HHi : Hid (∀ j (hj : j < M.length), mcut (mkey x) M ≤ j → mcmp x M[j] = -1) := Lib.hid fun j hj h => mcmp_neg (fresh_high hi hx hs j hj h)
  have HCm : Hid (∀ j (hj : j < M.length) (p : Int), mcmp x M[j] = p → ∀ W, Calls Try.prog 42 #[.agg #[.string x.u, .int .i64 x.s, .int .i64 x.k], .agg #[.string M[j].u, .int .i64 M[j].s, .int .i64 M[j].k]] W fun r w' => r = .returned (.int .i64 p) ∧ Below W.heap.size W w') := Lib.hid fun j hj p hp W => rcmp hx.user (hi.ok _ (List.getElem_mem hj)).user p hp W
  have hcl := mcut_le (mkey x) M
  have HP : Hid (mput M x = M.take (mcut (mkey x) M) ++ x :: M.drop (mcut (mkey x) M)) := Lib.hid rfl
  generalize mput M x = M1 at *
  generalize mcut (mkey x) M = n at *
  obtain ⟨i0, hi, hz0, hz1, hz2⟩ := info_parts ref_info
  have Hi := Lib.hid hi
  have Hz0 := Lib.hid hz0
  have Hz3 := Lib.hid hz1
  have Hzb := Lib.hid hz2
  clear hi hz0 hz1 hz2 h hs hx
  obtain ⟨xu, xs, xk, xv⟩ := x
  generalize hX : (⟨xu, xs, xk, xv⟩ : ME) = x at *
  have HX : Hid (x.u = xu ∧ x.s = xs ∧ x.k = xk ∧ x.v = xv) := Lib.hid (by subst hX; exact ⟨rfl, rfl, rfl, rfl⟩)
  clear hX
  simp only [HX.out.1, HX.out.2.1, HX.out.2.2.1, HX.out.2.2.2] at HCm ⊢
  go_enter Try.func33, Try.ntmps33
  go_upto_region 1 with (fail)
  refine gen_wp (fun w' => Below w.heap.size w w' ∧ w'.heap[w.heap.size]? = some (.cells #[.string xu, .int .i64 xs, .int .i64 xk, .string xv] 49 (0, 0))) ⟨(Below.refl _ w).alloc (Nat.le_refl _) _, heap_alloc_new w _⟩ ?_
  rintro w1 ⟨hb1, b1⟩
  obtain ⟨x0, x1, x2, x3, _⟩ := mcell_four b1
  have hz1 := blk_lt b1
  have H1 := Lib.hid (H.out.below hb1)
  have HB1 := Lib.hid hb1
  clear b1 hb1
  go_wp2
  go_loopw [5, 6, 7] (fun u pu i wr => ∃ j : Nat, j ≤ M.length ∧ i = .int .i64 j ∧ pu = .bool (decide (n < j)) ∧ MR wr w1.heap.size u (mout M n x j) ∧ Below w1.heap.size w1 wr) (fun _ _ i _ => M.length - (intOf i).toNat)
  case atStart => exact ⟨0, Nat.zero_le _, rfl, rfl, by rw [mout_low (Nat.zero_le _)]; exact World.ownsRow_nil _ _ _ _, Below.refl _ _⟩
  case round =>
    obtain ⟨j, hj, rfl, rfl, hrow, hbr⟩ := hrel
    have HRow := Lib.hid hrow
    have hol : (mout M n x j).length ≤ M.length + 1 := by rw [mout_len (c := n) (x := x) hj]; split <;> omega
    have hz := hbr.size
    have y0 := cell_next x0 wr hbr
    have y1 := cell_next x1 wr hbr
    have y2 := cell_next x2 wr hbr
    have y3 := cell_next x3 wr hbr
    have HBr := Lib.hid hbr
    clear hrow
    by_cases hlt : j < M.length
    · have htk := fun hne hcl => mout_step (M := M) (c := n) (x := x) hlt hne hcl
      have hat := fun e : j = n => mout_at (M := M) (c := n) (x := x) (by omega)
      have HTK := Lib.hid htk
      have HAT := Lib.hid hat
      obtain ⟨g, hg1, d0, d1, d2, d3⟩ := H1.out.cells hbr j hlt
      have HG1 : Hid (w1.cell? ⟨g, j * 4, none⟩ = some (.string M[j].u)) := Lib.hid (by
        obtain ⟨g', hg2, q0, _⟩ := H1.out.cells (Below.refl _ _) j hlt
        rw [hg1] at hg2
        cases hg2
        exact q0)
      subst hg1
      have hcm := HCm.out j hlt
      have hlo := HLo.out j hlt
      have hhi := HHi.out j hlt
      clear htk hat hbr
      generalize hEl : M[j] = E at *
      obtain ⟨Eu, Es, Ek, Ev⟩ := E
      simp only at d0 d1 d2 d3 hcm
      rcases Nat.lt_trichotomy j n with hjn | hjn | hjn
      · have hc1 := hcm 1 (hlo hjn)
        have HC1 := Lib.hid hc1
        rw [show decide (n < j) = false from decide_eq_false (by omega)]
        have Hnx : Hid (mout M n x (j + 1) = mout M n x j ++ [⟨Eu, Es, Ek, Ev⟩]) := Lib.hid (HTK.out (by omega) hcl)
        have hd : Hid (decide (n < j + 1) = false) := Lib.hid (decide_eq_false (by omega))
        generalize mout M n x j = A at *
        generalize hAl : A.length = al at *
        have HAl := Lib.hid hAl
        have t0 := cell_next d0
        have t1 := cell_next d1
        have t2 := cell_next d2
        have t3 := cell_next d3
        have s0 := cell_next y0
        have s1 := cell_next y1
        have s2 := cell_next y2
        have s3 := cell_next y3
        have Bg := bnext_grow (Below.refl wr.heap.size wr)
        clear hcm hlo hhi hEl hAl hc1 hjn
        go_upto_region 6 with (fail)
        refine wp_region_quiet_below (by kernel_rfl) (by kernel_rfl) ?_; (repeat (go_big_quiet_step ((go_at_call 42; (with_reducible refine Calls.regrown_of (HC1.out _)))))); refine wpQuiet_nil ?_; rintro _ ⟨pq, rfl⟩
        go_upto_region 9 with (fail)
        refine gen_wp (fun w' => Below wr.heap.size wr w') (Bg _ _) ?_
        rintro w2 hb2
        have d0 := t0 _ hb2
        have d1 := t1 _ hb2
        have d2 := t2 _ hb2
        have d3 := t3 _ hb2
        have y0 := s0 _ hb2
        have y1 := s1 _ hb2
        have y2 := s2 _ hb2
        have y3 := s3 _ hb2
        have HRow2 := Lib.hid (HRow.out.below hb2)
        have HB2 := Lib.hid (HBr.out.trans (hb2.mono HBr.out.size))
        have hz2 : w1.heap.size ≤ w2.heap.size := HB2.out.size
        clear t0 t1 t2 t3 s0 s1 s2 s3 Bg hb2
        go_wp2_with (at_builtin; go_loud (refine wpList_appN rfl (.tmp 31) (.tmp 36) 42 49 i0 (.agg #[.string ⟨#[]⟩, .int .i64 0, .int .i64 0, .string ⟨#[]⟩]) 4 48 Try.underlying42 Hi.out Hz0.out Hz3.out Hzb.out rfl (by decide) rfl w1.heap.size u5 (al) (mrow A) rfl (by rw [← HAl.out]; exact HRow2.out) #[.string Eu, .int .i64 Es, .int .i64 Ek, .string Ev] 1 1 (by first | rfl | (simp; done) | (simp; rfl)) rfl (by intro u hu; simp at hu; rcases hu with rfl | rfl | rfl | rfl <;> rfl) (by unfold maxLen; omega) (by omega) (by first | exact hz2 | (simp; omega)) ?_); intro v2 w3 ho3 hold3 ha3)
        go_roundw
        case rel => exact ⟨j + 1, by omega, by go_num, by rw [hd.out], by rw [Hnx.out]; exact MR.snoc HAl.out.symm ho3, HB2.out.trans ((Chg.of_app ha3).below (fun q hq => (World.ownsRow.lt HRow2.out q hq).1) hz2)⟩
        case measure => simp [intOf]; omega
      · have hc1 := hcm (-1) (hhi (by omega))
        have HC1 := Lib.hid hc1
        rw [show decide (n < j) = false from decide_eq_false (by omega)]
        have Hnx : Hid (mout M n x (j + 1) = (mout M n x j ++ [x]) ++ [⟨Eu, Es, Ek, Ev⟩]) := Lib.hid (by
          have h := HAT.out hjn
          subst hjn
          rw [h, hEl])
        have hd : Hid (decide (n < j + 1) = true) := Lib.hid (decide_eq_true (by omega))
        generalize mout M n x j = A at *
        generalize hAl : A.length = al at *
        have HAl := Lib.hid hAl
        have t0 := cell_next d0
        have t1 := cell_next d1
        have t2 := cell_next d2
        have t3 := cell_next d3
        have s0 := cell_next y0
        have s1 := cell_next y1
        have s2 := cell_next y2
        have s3 := cell_next y3
        have Bg := bnext_grow (Below.refl wr.heap.size wr)
        clear hcm hlo hhi hEl hAl hc1 hjn
        go_upto_region 6 with (fail)
        refine wp_region_quiet_below (by kernel_rfl) (by kernel_rfl) ?_; (repeat (go_big_quiet_step ((go_at_call 42; (with_reducible refine Calls.regrown_of (HC1.out _)))))); refine wpQuiet_nil ?_; rintro _ ⟨pq, rfl⟩
        go_upto_region 7 with (fail)
        refine gen_wp (fun w' => Below wr.heap.size wr w') (Bg _ _) ?_
        rintro w2 hb2
        have d0 := t0 _ hb2
        have d1 := t1 _ hb2
        have d2 := t2 _ hb2
        have d3 := t3 _ hb2
        have y0 := s0 _ hb2
        have y1 := s1 _ hb2
        have y2 := s2 _ hb2
        have y3 := s3 _ hb2
        have HRow2 := Lib.hid (HRow.out.below hb2)
        have HB2 := Lib.hid (HBr.out.trans (hb2.mono HBr.out.size))
        have hz2 : w1.heap.size ≤ w2.heap.size := HB2.out.size
        clear t0 t1 t2 t3 s0 s1 s2 s3 Bg hb2
        have HXk : Hid (∀ (v2 : Value) (w3 : World), App w2 w3 u5 v2 → w3.ownsRow w1.heap.size 49 4 v2 (al + 1) (mrow A ++ [.string xu, .int .i64 xs, .int .i64 xk, .string xv]) → ∃ a2 c2, v2 = .slice a2 (al + 1) c2 ∧ MR w3 w1.heap.size (.slice a2 (al + 1) c2) (A ++ [x]) ∧ Below w1.heap.size w1 w3 ∧ w1.heap.size ≤ w3.heap.size ∧
            (w3.cell? ⟨g, j * 4, none⟩ = some (.string Eu) ∧ w3.cell? ⟨g, j * 4 + 1, none⟩ = some (.int .i64 Es) ∧ w3.cell? ⟨g, j * 4 + 2, none⟩ = some (.int .i64 Ek) ∧ w3.cell? ⟨g, j * 4 + 3, none⟩ = some (.string Ev))) := Lib.hid fun v2 w3 ha ho => by
          obtain ⟨e1, e2, e3, e4⟩ := HX.out
          rw [← e1, ← e2, ← e3, ← e4] at ho
          have hr := MR.snoc HAl.out.symm ho
          obtain ⟨a2, c2, ev⟩ := hr.shape
          subst ev
          have hal : (A ++ [x]).length = al + 1 := by rw [List.length_append, HAl.out]; rfl
          rw [hal] at hr ⊢
          have hg1 : ¬ u5.ownBlock = some g := fun e => by
            have q1 := (World.ownsRow.lt HRow2.out g e).1
            have q2 : g < w1.heap.size := World.block_lt_of_cell? w1 _ HG1.out
            omega
          have hb3 := HB2.out.trans ((Chg.of_app ha).below (fun q hq => (World.ownsRow.lt HRow2.out q hq).1) hz2)
          exact ⟨a2, c2, rfl, hr, hb3, hb3.size, mcell_chg d0 (Chg.of_app ha) hg1, mcell_chg d1 (Chg.of_app ha) hg1, mcell_chg d2 (Chg.of_app ha) hg1, mcell_chg d3 (Chg.of_app ha) hg1⟩
        go_wp2_with (first
          | (at_builtin; go_loud (refine wpList_appN rfl (.tmp 27) (.tmp 29) 42 49 i0 (.agg #[.string ⟨#[]⟩, .int .i64 0, .int .i64 0, .string ⟨#[]⟩]) 4 48 Try.underlying42 Hi.out Hz0.out Hz3.out Hzb.out rfl (by decide) rfl w1.heap.size u5 (al) (mrow A) rfl (by rw [← HAl.out]; exact HRow2.out) #[.string xu, .int .i64 xs, .int .i64 xk, .string xv] 1 1 (by first | rfl | (simp; done) | (simp; rfl)) rfl (by intro u hu; simp at hu; rcases hu with rfl | rfl | rfl | rfl <;> rfl) (by unfold maxLen; omega) (by omega) (by first | exact hz2 | (simp; omega)) ?_); intro v2 w3 ho3 hold3 ha3; obtain ⟨a2, c2, rfl, r2, r4, r5, d0, d1, d2, d3⟩ := HXk.out v2 w3 ha3 ho3; have HR2 := Lib.hid r2; have HR4 := Lib.hid r4; clear r2 r4 ho3 hold3 ha3)
          | (at_builtin; go_loud (refine wpList_appN rfl (.tmp 31) (.tmp 36) 42 49 i0 (.agg #[.string ⟨#[]⟩, .int .i64 0, .int .i64 0, .string ⟨#[]⟩]) 4 48 Try.underlying42 Hi.out Hz0.out Hz3.out Hzb.out rfl (by decide) rfl w1.heap.size _ (al + 1) (mrow (A ++ [x])) rfl (by have h := HR2.out; unfold MR at h; rw [List.length_append, HAl.out] at h; exact h) #[.string Eu, .int .i64 Es, .int .i64 Ek, .string Ev] 1 1 (by first | rfl | (simp; done) | (simp; rfl)) rfl (by intro u hu; simp at hu; rcases hu with rfl | rfl | rfl | rfl <;> rfl) (by unfold maxLen; omega) (by omega) (by first | exact r5 | (simp; omega)) ?_); intro v4 w4 ho4 hold4 ha4))
        go_roundw
        case rel => exact ⟨j + 1, by omega, by go_num, by rw [hd.out], by rw [Hnx.out]; exact MR.snoc (by rw [List.length_append, HAl.out]; rfl) ho4, HR4.out.trans ((Chg.of_app ha4).below (fun q hq => (World.ownsRow.lt HR2.out q hq).1) r5)⟩
        case measure => simp [intOf]; omega
      · have Hnx : Hid (mout M n x (j + 1) = mout M n x j ++ [⟨Eu, Es, Ek, Ev⟩]) := Lib.hid (HTK.out (by omega) hcl)
        rw [show decide (n < j) = true from decide_eq_true hjn]
        have hd : Hid (decide (n < j + 1) = true) := Lib.hid (decide_eq_true (by omega))
        generalize mout M n x j = A at *
        generalize hAl : A.length = al at *
        have HAl := Lib.hid hAl
        have t0 := cell_next d0
        have t1 := cell_next d1
        have t2 := cell_next d2
        have t3 := cell_next d3
        have s0 := cell_next y0
        have s1 := cell_next y1
        have s2 := cell_next y2
        have s3 := cell_next y3
        have Bg := bnext_grow (Below.refl wr.heap.size wr)
        clear hcm hlo hhi hEl hAl hjn
        go_upto_region 6 with (fail)
        refine wp_region_quiet_below (by kernel_rfl) (by kernel_rfl) ?_; (repeat (go_big_quiet_step ((fail)))); refine wpQuiet_nil ?_; rintro _ ⟨pq, rfl⟩
        go_upto_region 9 with (fail)
        refine gen_wp (fun w' => Below wr.heap.size wr w') (Bg _ _) ?_
        rintro w2 hb2
        have d0 := t0 _ hb2
        have d1 := t1 _ hb2
        have d2 := t2 _ hb2
        have d3 := t3 _ hb2
        have y0 := s0 _ hb2
        have y1 := s1 _ hb2
        have y2 := s2 _ hb2
        have y3 := s3 _ hb2
        have HRow2 := Lib.hid (HRow.out.below hb2)
        have HB2 := Lib.hid (HBr.out.trans (hb2.mono HBr.out.size))
        have hz2 : w1.heap.size ≤ w2.heap.size := HB2.out.size
        clear t0 t1 t2 t3 s0 s1 s2 s3 Bg hb2
        go_wp2_with (at_builtin; go_loud (refine wpList_appN rfl (.tmp 31) (.tmp 36) 42 49 i0 (.agg #[.string ⟨#[]⟩, .int .i64 0, .int .i64 0, .string ⟨#[]⟩]) 4 48 Try.underlying42 Hi.out Hz0.out Hz3.out Hzb.out rfl (by decide) rfl w1.heap.size u5 (al) (mrow A) rfl (by rw [← HAl.out]; exact HRow2.out) #[.string Eu, .int .i64 Es, .int .i64 Ek, .string Ev] 1 1 (by first | rfl | (simp; done) | (simp; rfl)) rfl (by intro u hu; simp at hu; rcases hu with rfl | rfl | rfl | rfl <;> rfl) (by unfold maxLen; omega) (by omega) (by first | exact hz2 | (simp; omega)) ?_); intro v2 w3 ho3 hold3 ha3)
        go_roundw
        case rel => exact ⟨j + 1, by omega, by go_num, by rw [hd.out], by rw [Hnx.out]; exact MR.snoc HAl.out.symm ho3, HB2.out.trans ((Chg.of_app ha3).below (fun q hq => (World.ownsRow.lt HRow2.out q hq).1) hz2)⟩
        case measure => simp [intOf]; omega
    · have hjl : j = M.length := by omega
      have hzw : w.heap.size ≤ w1.heap.size := Nat.le_of_lt hz1
      rcases Nat.lt_or_ge n M.length with hnl | hnl
      · have Ho : Hid (mout M n x j = M1) := Lib.hid (by rw [hjl, mout_high hnl, HP.out, List.take_of_length_le (Nat.le_refl _)])
        rw [show decide (n < j) = true from decide_eq_true (by omega)]
        rw [Ho.out] at HRow
        clear hjl hnl hol hbr
        go_wp2
        go_ret
        exact ⟨_, rfl, HRow.out.mono hzw, HB1.out.trans (HBr.out.mono hzw)⟩
      · have hnL : n = M.length := by omega
        have Ho : Hid (mout M n x j = M) := Lib.hid (by rw [hjl, mout_low hnl, List.take_of_length_le (Nat.le_refl _)])
        have Hp : Hid (M1 = M ++ [x]) := Lib.hid (by rw [HP.out, hnL, List.take_of_length_le (Nat.le_refl _), List.drop_of_length_le (Nat.le_refl _)])
        rw [show decide (n < j) = false from decide_eq_false (by omega)]
        rw [Ho.out] at HRow
        clear hjl hnl hol hnL hbr
        go_wp2_with (at_builtin; go_loud (refine wpList_appN rfl (.tmp 40) (.tmp 42) 42 49 i0 (.agg #[.string ⟨#[]⟩, .int .i64 0, .int .i64 0, .string ⟨#[]⟩]) 4 48 Try.underlying42 Hi.out Hz0.out Hz3.out Hzb.out rfl (by decide) rfl w1.heap.size u5 (M.length) (mrow M) rfl HRow.out #[.string xu, .int .i64 xs, .int .i64 xk, .string xv] 1 1 (by first | rfl | (simp; done) | (simp; rfl)) rfl (by intro u hu; simp at hu; rcases hu with rfl | rfl | rfl | rfl <;> rfl) (by unfold maxLen; omega) (by omega) (by first | exact hz | (simp; omega)) ?_); intro v2 w3 ho3 hold3 ha3; obtain ⟨e1, e2, e3, e4⟩ := HX.out; rw [← e1, ← e2, ← e3, ← e4] at ho3; have hr5 := MR.snoc (x := x) rfl ho3; have hb5 : Below w1.heap.size w1 w3 := HBr.out.trans ((Chg.of_app ha3).below (fun q hq => (World.ownsRow.lt HRow.out q hq).1) hz); have HR5 := Lib.hid hr5; have HB5 := Lib.hid hb5; clear hr5 hb5 ho3 hold3 ha3 e1 e2 e3 e4)
        go_ret
        exact ⟨_, rfl, by rw [Hp.out]; exact HR5.out.mono hzw, HB1.out.trans (HB5.out.mono hzw)⟩
end Go.Proofs.Ytcbkjhbneigkaaa
