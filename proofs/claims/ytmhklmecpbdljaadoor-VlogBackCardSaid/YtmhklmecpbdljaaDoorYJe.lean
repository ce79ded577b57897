/- Texts joined: Rl1, Rl2, Rl3, Rl4, Rl5, Rl6, Rl7, Rl8. -/
import Derived.Test.YtmhklmecpbdljaaDoorYRlT
import Derived.Test.YtmhklmecpbdljaaDoorYLess
import Derived.Lib.SlBytesConst
import Derived.Test.YtmhklmecpbdljaaDoorYInts
/- Chapter 09: awake; ReclogFrames. -/

namespace Go.Proofs.YtmhklmecpbdljaaDoor
open Go.RowKit Go.Shelf
set_option linter.unusedVariables false
set_option linter.unusedSimpArgs false

/-- what is told is what the bytes are -/
theorem ScanIs.one {t : List UInt8} (h : t.length < 9223372036854775808) {r : List UInt8} (hr : oneP r = none) : ScanIs (frB t ++ r) [t] :=
  ⟨fun u hu => by rw [List.mem_singleton] at hu; rw [hu]; exact h, r, by simp, hr⟩
theorem ScanOut.one {w w' : World} {b t : List UInt8} {e : Ending} (h : ScanOut w b e w') (k : ScanIs b [t]) : ∃ (g c oc : Nat) (oa : Option Addr), e = .returned (.tuple #[.slice (some ⟨g, 0, none⟩) 1 c, .int .i64 ((frB t).length : Nat)]) ∧ w'.cell? ⟨g, 0, none⟩ = some (.slice oa t.length oc) ∧ OB w' w.heap.size (.slice oa t.length oc) t ∧ oc ≤ maxLen ∧ Below w.heap.size w w' := by
  obtain ⟨xs, u, h1, h2, ⟨h3, h4⟩, h5⟩ := h
  have e1 := h1.uniq k
  match xs, e1 with
  | [x], e1 =>
    obtain rfl : x.l = t := by simpa using e1
    obtain ⟨ao, c, hu, _, _, hg⟩ := row_shape h3
    obtain ⟨g, rfl, _⟩ := hg (by simp)
    subst hu
    have hc := World.ownsRow.cells h3 (g := g) rfl 0 (.slice x.ao x.l.length x.c) (by simp [rxs, RX.v])
    rw [add_none] at hc
    obtain ⟨h6, h7⟩ := h4 x (List.mem_singleton_self x)
    exact ⟨g, c, x.c, x.ao, by rw [h2]; simp [flR], hc, h6, h7, h5⟩
theorem scan_n {w : World} {ao : Option Addr} {n c : Nat} {b : List UInt8} (hT : Tab9 w) (h : RB w (.slice ao n c) b) (hl : n ≤ 100000000000) :
    Calls Tryd.prog 54 #[.slice ao n c] w (ScanOut w b) := by
  obtain rfl := h.len
  exact scan_any hT h hl
theorem frB_abc : (frB [97, 98, 99]).length = 8 := by rw [frB_len]; decide
theorem str_abc {w : World} {B oc : Nat} {oa : Option Addr} (h : OB w B (.slice oa ([97, 98, 99] : List UInt8).length oc) [97, 98, 99]) : (convert 23 9 (.slice oa 3 oc)).run Tryd.prog w = .ok (.string ⟨#[97, 98, 99]⟩) w := h.reads.string
theorem num200 : (num 200).length = 2 := by decide
theorem oneP1 : oneP [1] = none := by unfold oneP; rfl
end Go.Proofs.YtmhklmecpbdljaaDoor
/- Chapter 09: ReclogFrames. -/

namespace Go.Proofs.YtmhklmecpbdljaaDoor
open Go.RowKit Go.Shelf
set_option linter.unusedVariables false
set_option linter.unusedSimpArgs false

theorem oneP0 : oneP [] = none := by unfold oneP; rfl
theorem ScanIs.whole {t : List UInt8} (h : t.length < 9223372036854775808) : ScanIs (frB t) [t] := by
  have := ScanIs.one h oneP0
  rwa [List.append_nil] at this
end Go.Proofs.YtmhklmecpbdljaaDoor
/- Chapter 09: same, small. -/

namespace Go.Proofs.YtmhklmecpbdljaaDoor
open Go.RowKit Go.Shelf
set_option linter.unusedVariables false
set_option linter.unusedSimpArgs false

theorem RowR.bss {W : World} {B : Nat} {u : Value} {xs : List RX} (h : RowR W B u xs) : ∃ ao c, u = .slice ao xs.length c ∧ c ≤ maxLen ∧ BSs W ao (xs.map fun x => (x.v, x.l)) := by
  obtain ⟨h1, h2⟩ := h
  obtain ⟨ao, c, rfl, h3, hm, hg⟩ := row_shape h1
  refine ⟨ao, c, rfl, hm, fun hl => ?_, fun x hx => ?_⟩
  · obtain ⟨g, rfl, _⟩ := hg (by simpa using hl)
    refine ⟨g, 0, rfl, fun i hi => ?_⟩
    rw [List.length_map] at hi
    have := World.ownsRow.cells h1 (g := g) rfl i (xs[i]).v (by simp [rxs, hi])
    rw [add_none] at this
    simpa using this
  · obtain ⟨y, hy, rfl⟩ := List.mem_map.1 hx
    obtain ⟨h4, h5⟩ := h2 y hy
    have h6 := h4.reads
    have := h6.capl
    exact ⟨h6, by show y.l.length ≤ maxLen; omega⟩
end Go.Proofs.YtmhklmecpbdljaaDoor
/- Chapter 09: lists of records in memory: append of a list to a list; what rows are read as. -/

namespace Go.Proofs.YtmhklmecpbdljaaDoor
open Go.RowKit Go.Shelf
set_option linter.unusedVariables false
set_option linter.unusedSimpArgs false

theorem rb_takeAny {w : World} {a : Option Addr} {c : Nat} {l : List UInt8} {n : Nat} (h : RB w (.slice a l.length c) l) (hn : n ≤ l.length) : RB w (.slice a n c) (l.take n) := by
  obtain ⟨ao, c2, hv, hc2, hr⟩ := h
  simp only [Value.slice.injEq] at hv
  obtain ⟨rfl, _, rfl⟩ := hv
  have hl : (l.take n).length = n := by rw [List.length_take]; omega
  refine ⟨_, c, by rw [hl], by rw [hl]; omega, fun hp => ?_⟩
  rw [hl] at hp
  obtain ⟨b2, off2, hb, hcell⟩ := hr (by omega)
  refine ⟨b2, off2, hb, fun j hj => ?_⟩
  rw [hl] at hj
  rw [hcell j (by omega)]
  simp
theorem bss_of_row {w : World} {B n : Nat} {v : Value} {P : List (Value × List UInt8)} (h : w.ownsRow B 23 1 v n (P.map (·.1))) (hn : n = P.length) (hp : ∀ x ∈ P, RB w x.1 x.2 ∧ x.2.length ≤ maxLen) : ∃ ao c, v = .slice ao P.length c ∧ c ≤ maxLen ∧ BSs w ao P := by
  subst hn
  obtain ⟨ao, c, rfl, h3, hm, hg⟩ := row_shape h
  refine ⟨ao, c, rfl, hm, fun hl => ?_, hp⟩
  obtain ⟨g, rfl, _⟩ := hg hl
  refine ⟨g, 0, rfl, fun i hi => ?_⟩
  have := World.ownsRow.cells h (g := g) rfl i (P[i]).1 (by simp [hi])
  rw [add_none] at this
  simpa using this
theorem bss_one {w : World} {ao : Option Addr} {P : List (Value × List UInt8)} (h : BSs w ao P) : ∀ u ∈ P.map (·.1), u.oneCell' = true := by
  intro u hu
  obtain ⟨x, hx, rfl⟩ := List.mem_map.1 hu
  obtain ⟨a, c, e, _⟩ := (h.2 x hx).1.shape
  rw [e]; rfl
/-- append of a list of byte slices to such a list that the call owns -/
theorem wpList_appS {w : World} {ops : Array Oper} {rest : List Oper} {o : Oper} {a : Act} {Q : Exit → Act → World → Prop} (hgd : Region.wanted o (yielded ops a.tmps) = true) (s x : Operand)
    (ho : o.op = .call { callee := .builtin .append, args := #[s, x], argTypes := #[62, 62] })
    (base : Nat) (v : Value) (n : Nat) (xs : List Value) (hs : a.eval s = v) (hown : w.ownsRow base 23 1 v n xs)
    (ao : Option Addr) (c : Nat) (P : List (Value × List UInt8)) (hx : a.eval x = .slice ao P.length c) (hr : BSs w ao P)
    (hlen : n + P.length ≤ 1000000000) (hbase : base ≤ w.heap.size)
    (h : ∀ v' w', w'.ownsRow base 23 1 v' (n + P.length) (xs ++ P.map (·.1)) → App w w' v v' → wpList Tryd.prog ops Q rest (a.put o.dst v') w') : wpList Tryd.prog ops Q (o :: rest) a w := by
  obtain ⟨i0, hi, hz0, hz1, hz2⟩ := info_parts infoSl9
  cases ao with
  | none =>
    have hn0 : P = [] := by
      rcases Nat.eq_zero_or_pos P.length with h0 | h0
      · exact List.eq_nil_of_length_eq_zero h0
      · obtain ⟨b, off, hb, _⟩ := hr.1 h0; cases hb
    subst hn0
    have hrun := run_append_owned_none (P := Tryd.prog) w base 62 o.type 23 i0 1 Tryd.underlying62 hi v n xs hown
    refine BigFrame.wpList_want hgd fun K hK' => ?_
    have hrun' : (Builtin.append_ #[62, 62] o.type #[v, .slice none 0 c]).run Tryd.prog w = .ok v w := by
      have e : (Builtin.append_ #[62, 62] o.type #[v, .slice none 0 c]) = (Builtin.append_ #[62, 62] o.type #[v, .slice none 0 0]) := rfl
      rw [e]; exact hrun
    unfold Oper.wp execOp
    simp only [ho, resolve, invoke, builtin, Sem.run_bind, Sem.run_pure, Result.andThen_ok, List.map_toArray, List.map_cons, List.map_nil, hs, hx, List.length_nil, hrun']
    exact hK' _ _ (h v w (by simpa using hown) ⟨World.grownBy.refl _ _, .inl rfl⟩)
  | some ad =>
    refine wpList_appG hgd s x 62 23 i0 (.slice none 0 0) 1 24 Tryd.underlying62 hi hz0 hz1 hz2 rfl (by decide) ho base v n xs hs hown ad P.length c (P.map (·.1)) hx (by simp) ?_ (bss_one hr) (by unfold maxLen; omega) (by omega) hbase fun v' w' h1 _ h2 => h v' w' h1 h2
    intro j u hj
    have hjl : j < P.length := by have := (List.getElem?_eq_some_iff.1 hj).1; simpa using this
    obtain ⟨b, off, hb, hcell⟩ := hr.1 (by omega)
    cases hb
    rw [add_none, hcell j hjl, ← hj]
    simp [hjl]
end Go.Proofs.YtmhklmecpbdljaaDoor
/- Chapter 09: ReclogJoins. -/

namespace Go.Proofs.YtmhklmecpbdljaaDoor
open Go.RowKit Go.Shelf
set_option linter.unusedVariables false
set_option linter.unusedSimpArgs false

theorem flR_append (L M : List (List UInt8)) : flR (L ++ M) = flR L ++ flR M := by simp [flR]
theorem flR_small : ∀ (L : List (List UInt8)), (∀ x ∈ L, x.length ≤ 300) → (flR L).length ≤ 400 * L.length
  | [], _ => by simp [flR]
  | t :: L, h => by
    have h1 := flR_small L (fun x hx => h x (List.mem_cons_of_mem _ hx))
    have h2 := h t (List.mem_cons_self ..)
    have h3 := frB_len t
    have h4 := num_len9 (n := t.length) (by omega)
    have e : (flR (t :: L)).length = (frB t).length + (flR L).length := by simp [flR]
    rw [e, List.length_cons]; omega
theorem ScanIs.flat {b : List UInt8} {L : List (List UInt8)} (h : ScanIs b L) : (flR L).length ≤ b.length ∧ b.take (flR L).length = flR L := by
  obtain ⟨_, r, rfl, _⟩ := h
  exact ⟨by rw [List.length_append]; exact Nat.le_add_right _ _, by rw [show L.flatMap frB = flR L from rfl, List.take_left]⟩
theorem ScanIs.all {L : List (List UInt8)} (h : ∀ t ∈ L, t.length < 9223372036854775808) : ScanIs (flR L) L := ⟨h, [], by simp [flR], oneP0⟩
theorem RowR.bss2 {W : World} {B : Nat} {u : Value} {xs : List RX} (h : RowR W B u xs) : ∃ (P : List (Value × List UInt8)) (ao : Option Addr) (c : Nat), P.map (·.2) = xs.map RX.l ∧ u = .slice ao P.length c ∧ c ≤ maxLen ∧ BSs W ao P := by
  obtain ⟨ao, c, h1, h2, h3⟩ := h.bss
  exact ⟨_, ao, c, by simp, by rw [h1]; simp, h2, h3⟩
theorem take_map_succ {L : List (Value × List UInt8)} {k : Nat} (h : k < L.length) : (L.take (k + 1)).map (·.2) = (L.take k).map (·.2) ++ [(L[k]).2] := by
  rw [List.take_succ_eq_append_getElem h, List.map_append]; rfl
theorem flR_bound {K : List (List UInt8)} {L : List (Value × List UInt8)} (hK : (flR K).length ≤ 2000) (hL : L.length ≤ 20) (h : ∀ x ∈ L, x.2.length ≤ 300) (k : Nat) : (flR (K ++ (L.take k).map (·.2))).length ≤ 10000 := by
  have h1 := flR_small ((L.take k).map (·.2)) (fun x hx => by
    obtain ⟨y, hy, rfl⟩ := List.mem_map.1 hx
    exact h y (List.mem_of_mem_take hy))
  rw [flR_append, List.length_append]
  rw [List.length_map, List.length_take] at h1
  omega
end Go.Proofs.YtmhklmecpbdljaaDoor
/- Chapter 09: ReclogCut. -/

namespace Go.Proofs.YtmhklmecpbdljaaDoor
open Go.RowKit Go.Shelf
set_option linter.unusedVariables false
set_option linter.unusedSimpArgs false

theorem one_part {t s q : List UInt8} (ht : t.length < 9223372036854775808) (h : frB t = s ++ q) (hq : q ≠ []) : oneP s = none := by
  cases e : oneP s with
  | none => rfl
  | some x =>
    obtain ⟨u, k⟩ := x
    obtain ⟨_, hu, r, rfl⟩ := one_is e
    have e1 := one_of ht []
    rw [List.append_nil, h, List.append_assoc, one_of hu, Option.some.injEq, Prod.mk.injEq] at e1
    obtain ⟨rfl, _⟩ := e1
    rw [List.append_assoc] at h
    have h2 := congrArg List.length h
    rw [List.length_append, List.length_append] at h2
    exact absurd (List.eq_nil_of_length_eq_zero (by omega)) hq
theorem flR_take_succ {K : List (List UInt8)} {n : Nat} (h : n < K.length) : flR (K.take (n + 1)) = flR (K.take n) ++ frB K[n] := by
  rw [List.take_succ_eq_append_getElem h, flR_snoc]
/-- records that are cut off are told as far as they are whole -/
theorem ScanIs.cut {K : List (List UInt8)} (hK : ∀ t ∈ K, t.length < 9223372036854775808) {n cut : Nat} (hn : n ≤ K.length) (h1 : (flR (K.take n)).length ≤ cut) (h2 : ∀ h : n < K.length, cut < (flR (K.take (n + 1))).length) (hc : cut ≤ (flR K).length) : ScanIs ((flR K).take cut) (K.take n) := by
  refine ⟨fun t ht => hK t (List.mem_of_mem_take ht), ((flR K).drop (flR (K.take n)).length).take (cut - (flR (K.take n)).length), ?_, ?_⟩
  · have e : flR K = flR (K.take n) ++ flR (K.drop n) := by rw [← flR_append, List.take_append_drop]
    show (flR K).take cut = flR (K.take n) ++ _
    rw [e, List.drop_left, List.take_append, List.take_of_length_le h1]
  · by_cases hlt : n < K.length
    · have h3 := h2 hlt
      have e : flR K = flR (K.take n) ++ (frB K[n] ++ flR (K.drop (n + 1))) := by rw [← List.append_assoc, ← flR_take_succ hlt, ← flR_append, List.take_append_drop]
      rw [e, List.drop_left]
      rw [flR_take_succ hlt, List.length_append] at h3
      rw [List.take_append_of_le_length (by omega)]
      refine one_part (hK _ (List.getElem_mem hlt)) (List.take_append_drop _ _).symm fun e0 => ?_
      have := congrArg List.length e0
      rw [List.length_drop, List.length_nil] at this
      omega
    · obtain rfl : n = K.length := by omega
      have e : K.take K.length = K := List.take_of_length_le (Nat.le_refl _)
      rw [e, List.drop_of_length_le (Nat.le_refl _), List.take_nil]
      exact oneP0
def eds (K : List (List UInt8)) (k : Nat) : List Value := (List.range k).map fun i => Value.int .i64 ((flR (K.take (i + 1))).length : Nat)
theorem eds_len (K : List (List UInt8)) (k : Nat) : (eds K k).length = k := by simp [eds]
theorem eds_succ (K : List (List UInt8)) (k : Nat) : eds K (k + 1) = eds K k ++ [Value.int .i64 ((flR (K.take (k + 1))).length : Nat)] := by
  unfold eds; rw [List.range_succ, List.map_append]; rfl
theorem eds_at (K : List (List UInt8)) {k i : Nat} (h : i < k) : (eds K k)[i]? = some (Value.int .i64 ((flR (K.take (i + 1))).length : Nat)) := by simp [eds, h]
theorem ob_rowI {W : World} {B C : Nat} {v u : Value} {l : List UInt8} {n : Nat} {xs : List Value} (h : OB W B v l) (k : W.ownsRow C 3 1 u n xs) : v.ownBlock = none ∨ v.ownBlock ≠ u.ownBlock := by
  rcases h.2 with ⟨rfl, _⟩ | ⟨g, cap, cur, rfl, _, hgb, _⟩
  · exact .inl rfl
  · refine .inr fun e => ?_
    rcases k.2 with ⟨rfl, _⟩ | ⟨g', cap', cur', rfl, _, hgb', _⟩
    · cases e
    · have : g = g' := by simpa [Value.ownBlock] using e
      subst this
      rw [hgb] at hgb'
      simp at hgb'
theorem rowI_ob {W : World} {B C : Nat} {v u : Value} {l : List UInt8} {n : Nat} {xs : List Value} (k : W.ownsRow C 3 1 u n xs) (h : OB W B v l) : u.ownBlock = none ∨ u.ownBlock ≠ v.ownBlock := by
  rcases ob_rowI h k with e | e
  · by_cases hu : u.ownBlock = none
    · exact .inl hu
    · exact .inr (by rw [e]; exact hu)
  · exact .inr (fun e2 => e e2.symm)
theorem rb_takeCap {w : World} {a : Option Addr} {c : Nat} {l : List UInt8} {n m : Nat} (h : RB w (.slice a n c) l) (hm : m ≤ l.length) : RB w (.slice a m m) (l.take m) := by
  obtain ⟨ao, c2, hv, hc2, hr⟩ := h
  simp only [Value.slice.injEq] at hv
  obtain ⟨rfl, rfl, rfl⟩ := hv
  have hl : (l.take m).length = m := by rw [List.length_take]; omega
  refine ⟨_, m, by rw [hl], by rw [hl]; exact Nat.le_refl _, fun hp => ?_⟩
  rw [hl] at hp
  obtain ⟨b2, off2, hb, hcell⟩ := hr (by omega)
  refine ⟨b2, off2, hb, fun j hj => ?_⟩
  rw [hl] at hj
  rw [hcell j (by omega)]
  simp
theorem bss_take {w : World} {ao : Option Addr} {L : List (Value × List UInt8)} (h : BSs w ao L) (n : Nat) : BSs w ao (L.take n) := by
  refine ⟨fun hl => ?_, fun x hx => h.2 x (List.mem_of_mem_take hx)⟩
  rw [List.length_take] at hl
  obtain ⟨b, off, e, hc⟩ := h.1 (by omega)
  refine ⟨b, off, e, fun i hi => ?_⟩
  rw [List.length_take] at hi
  rw [hc i (by omega)]
  simp
theorem infoInt9 : (Tryd.prog.info? 3).map (fun i => (i.zero, i.size, i.bytes)) = some (some (.int .i64 0), 1, 8) := by kernel_rfl
end Go.Proofs.YtmhklmecpbdljaaDoor
/- Chapter 09: the document's Scan. -/

namespace Go.Proofs.YtmhklmecpbdljaaDoor
open Go.RowKit Go.Shelf
set_option linter.unusedVariables false
set_option linter.unusedSimpArgs false

theorem one_same {rest t r : List UInt8} (e : rdText (rest.drop 4) = some (t, r)) (h : rest.take (rest.length - r.length) = frB t) : oneP rest = some (t, rest.length - r.length) := by
  obtain ⟨m, q, h1, h2, h3, h5⟩ := rdText_some e
  obtain ⟨h6, h7, _⟩ := rdNum_is 9 true _ m q h1
  have ht : t.length < 9223372036854775808 := by rw [h3, List.length_take]; omega
  have hr : rest = frB t ++ rest.drop (rest.length - r.length) := by rw [← h, List.take_append_drop]
  have hl := congrArg List.length h
  rw [List.length_take] at hl
  have e1 := one_of ht (rest.drop (rest.length - r.length))
  rw [← hr] at e1
  rw [e1]
  congr 2
  omega
theorem one_other {rest t r : List UInt8} (e : rdText (rest.drop 4) = some (t, r)) (h : rest.take (rest.length - r.length) ≠ frB t) : oneP rest = none := by
  cases e1 : oneP rest with
  | none => rfl
  | some x =>
    obtain ⟨u, k⟩ := x
    obtain ⟨_, hu, r', rfl⟩ := one_is e1
    obtain ⟨_, h4⟩ := frB_apart u r'
    rw [h4, show rdText (txtB u ++ r') = some (u, r') from rdText_num u r' hu, Option.some.injEq, Prod.mk.injEq] at e
    obtain ⟨rfl, rfl⟩ := e
    exact absurd (by rw [List.length_append, Nat.add_sub_cancel, List.take_left]) h
theorem rdText_of {l q : List UInt8} {n : Nat} (h : rdNum 9 true l = some (n, q)) : rdText l = if n ≤ q.length then some (q.take n, q.drop n) else none := by unfold rdText; rw [h]
theorem rdText_no {l : List UInt8} (h : rdNum 9 true l = none) : rdText l = none := by unfold rdText; rw [h]
def RefOut (w : World) (b : List UInt8) (e : Ending) (w' : World) : Prop :=
  ∃ (xs : List RX) (u : Value), ScanIs b (xs.map RX.l) ∧ e = .returned (.tuple #[u, .int .i64 ((flR (xs.map RX.l)).length : Nat)]) ∧ RowR w' w.heap.size u xs ∧ Below w.heap.size w w'
end Go.Proofs.YtmhklmecpbdljaaDoor
/- Chapter 09: ReclogScans. -/

namespace Go.Proofs.YtmhklmecpbdljaaDoor
open Go.RowKit Go.Shelf
set_option linter.unusedVariables false
set_option linter.unusedSimpArgs false

theorem flR_mem : ∀ {K : List (List UInt8)} {x : List UInt8}, x ∈ K → (frB x).length ≤ (flR K).length
  | t :: K, x, h => by
    have e : (flR (t :: K)).length = (frB t).length + (flR K).length := by simp [flR]
    rw [e]
    rcases List.mem_cons.1 h with rfl | h
    · omega
    · have := flR_mem h; omega
theorem flR_take_le (K : List (List UInt8)) (k : Nat) : (flR (K.take k)).length ≤ (flR K).length := by
  have e : flR K = flR (K.take k) ++ flR (K.drop k) := by rw [← flR_append, List.take_append_drop]
  rw [e, List.length_append]; omega
end Go.Proofs.YtmhklmecpbdljaaDoor
