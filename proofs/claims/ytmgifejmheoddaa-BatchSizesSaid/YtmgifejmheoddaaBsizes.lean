/- BatchSizes: its walk. -/
import Derived.Test.YtmgifejmheoddaaBaw
import Derived.Test.YtmgifejmheoddaaOpRow
import Derived.Deep.RegionHeld3
namespace Go.Proofs.Ytmgifejmheoddaa
open Go.RowKit
set_option linter.unusedVariables false

theorem cell_same {w w' : World} {b o : Nat} (h : w'.heap[b]? = w.heap[b]?) : w'.cell? ⟨b, o, none⟩ = w.cell? ⟨b, o, none⟩ := by
  unfold World.cell?; simp only [h]
theorem OPs.chg {F : Nat → Prop} {w w' : World} {b : Nat} {off : Nat} {l : List OpD} (h : OPs w (some ⟨b, off, none⟩) l) (hc : Chg F w w') (hn : ¬ F b) : OPs w' (some ⟨b, off, none⟩) l := by
  refine ⟨fun hl => ?_, h.2⟩
  obtain ⟨b', off', e, hcell⟩ := h.1 hl
  cases e
  refine ⟨b, off, rfl, fun i hi => ?_⟩
  obtain ⟨h0, h1, h2⟩ := hcell i hi
  have hb := World.block_lt_of_cell? w _ h0
  have hh := hc.block b hb hn
  exact ⟨by rw [cell_same hh]; exact h0, by rw [cell_same hh]; exact h1, by rw [cell_same hh]; exact h2⟩
theorem heap_at_new {w : World} {o : Obj} {g : Nat} (h : g = w.heap.size) : (w.alloc o).heap[g]? = some o := by subst h; exact heap_alloc_new w o
theorem blk_drew {w : World} {q : Nat} {o : Obj} (h : w.heap[q]? = some o) : w.drew.heap[q]? = some o := h
theorem own_lit {w : World} {g B : Nat} (h : w.heap[g]? = some (.cells #[] 26 (0, 0))) (hb : B ≤ g) : w.ownsRow B 26 3 (.slice (some ⟨g, 0, none⟩) 0 0) 0 [] :=
  ⟨rfl, .inr ⟨g, 0, #[], rfl, hb, h, Nat.le_refl _, by decide, rfl, rfl⟩⟩
theorem op_blk {w : World} {g : Nat} {x : OpD} (h : w.heap[g]? = some (.cells #[.int .i64 x.kind, .string x.key, .string x.val] 26 (0, 0))) : ∀ j u, (opRow [x])[j]? = some u → w.cell? ((⟨g, 0, none⟩ : Addr).add j) = some u := by
  obtain ⟨c0, c1, c2, _⟩ := cell_three h
  intro j u hj
  have hlt : j < (opRow [x]).length := (List.getElem?_eq_some_iff.1 hj).1
  rw [add_none, Nat.zero_add]
  match j, hlt with
  | 0, _ => cases hj; exact c0
  | 1, _ => cases hj; exact c1
  | 2, _ => cases hj; exact c2

/- the plain law -/
theorem any_reverse (p : OpD → Bool) : ∀ l : List OpD, l.reverse.any p = l.any p := fun l => by simp
theorem batRight_rev (seq : Int) (l : List OpD) : batRight seq l.reverse = batRight seq l := by
  unfold batRight; rw [List.length_reverse, any_reverse]
theorem opsB_append (l m : List OpD) : opsB (l ++ m) = opsB l ++ opsB m := by unfold opsB; rw [List.flatMap_append]
theorem opsB_rev : ∀ l : List OpD, (opsB l.reverse).length = (opsB l).length
  | [] => rfl
  | x :: l => by
    rw [List.reverse_cons, opsB_append, List.length_append, opsB_rev l]
    have e1 : opsB [x] = opB x := by simp [opsB]
    have e2 : opsB (x :: l) = opB x ++ opsB l := by simp [opsB]
    rw [e1, e2, List.length_append]; omega
theorem batSize_rev (seq : Int) (l : List OpD) : batSize seq l.reverse = batSize seq l := by
  unfold batSize; rw [batRight_rev]
  cases batRight seq l with
  | false => rfl
  | true => simp only [if_true]; unfold batB; rw [List.length_append, List.length_append, List.length_append, List.length_append, List.length_reverse, opsB_rev]
theorem batLast_rev (seq : Int) (l : List OpD) : batLast seq l.reverse = batLast seq l := by
  unfold batLast; rw [batRight_rev, List.length_reverse]
theorem num_small1 {n : Nat} (h : n < 128) : (num n).length = 1 := by rw [num_small (by omega)]; rfl
theorem batRight_snoc {seq : Int} {l : List OpD} {x : OpD} (h : batRight seq (l ++ [x]) = true) : opRight x = true := (batRight_all h).1 x (by simp)
theorem opB_big {x : OpD} (h : opRight x = true) : x.key.size + x.val.size < (opB x).length := by
  unfold opRight at h
  simp only [decide_eq_true_eq] at h
  obtain ⟨h1, h2, _, _, _, h6⟩ := h
  unfold opB
  rw [List.length_append, List.length_cons, List.length_append, dataLen]
  split
  · rw [List.length_append, dataLen]; omega
  · have := h6 (by omega); simp only [List.length_nil]; omega
theorem batSize_snoc {seq : Int} {l : List OpD} {x : OpD} (h : batRight seq (l ++ [x]) = true) (h' : batRight seq l = true) : batSize seq l + x.key.size + x.val.size < batSize seq (l ++ [x]) := by
  unfold batSize
  rw [h, h', if_pos rfl, if_pos rfl]
  obtain ⟨_, _, h2, _⟩ := batRight_all h
  obtain ⟨_, _, h2', _⟩ := batRight_all h'
  have hx := opB_big (batRight_snoc h)
  unfold batB
  have e : opsB (l ++ [x]) = opsB l ++ opB x := by rw [opsB_append]; simp [opsB]
  rw [e]
  have e1 : (num (l ++ [x]).length).length = 1 := num_small1 (by omega)
  have e2 : (num l.length).length = 1 := num_small1 (by omega)
  generalize num (l ++ [x]).length = N1 at *
  generalize num l.length = N2 at *
  rw [List.length_append, List.length_append, List.length_append, List.length_append, List.length_append]
  omega
theorem batSize_le {seq : Int} {l : List OpD} : batSize seq l ≤ 400000 := by
  unfold batSize
  split
  · rename_i h
    obtain ⟨h1, h2, h3, h4, h5⟩ := batRight_all h
    unfold batB
    have := opsB_len l h1 l.length (Nat.le_refl _)
    rw [List.take_length] at this
    have hn : (num seq.toNat).length ≤ 9 := num_len9 (by omega)
    rw [List.length_append, List.length_append, num_small1 (n := l.length) (by omega)]
    omega
  · omega

theorem wrap_i64 {z : Int} (h1 : -9223372036854775808 ≤ z) (h2 : z ≤ 9223372036854775807) : IntKind.i64.wrap z = z := by
  simp only [IntKind.wrap, IntKind.bits, IntKind.signed]
  simp
  omega
theorem batsize_ok {w : World} {a : Option Addr} {c : Nat} {l : List OpD} (h : OPs w a l) (hl : l.length ≤ maxLen) (seq : Int) (z : Int) (hz : (batSize seq l : Int) = z) :
    Calls Try.prog 12 #[.agg #[.int .i64 seq, .slice a l.length c]] w fun e w' => e = .returned (.int .i64 z) ∧ Below w.heap.size w w' := by
  subst hz; exact batsize h hl seq
theorem batlast_z {w : World} {a : Option Addr} {c : Nat} {l : List OpD} (h : OPs w a l) (hl : l.length ≤ maxLen) (seq : Int) (z : Int) (hz : batLast seq l = z) :
    Calls Try.prog 13 #[.agg #[.int .i64 seq, .slice a l.length c]] w fun e w' => e = .returned (.int .i64 z) ∧ Below w.heap.size w w' := by
  subst hz; exact batlast h hl seq

theorem row_ne24 {W : World} {B n q : Nat} {v : Value} {xs : List Value} {cs : Array Value} (ho : W.ownsRow B 26 3 v n xs) (b : W.heap[q]? = some (.cells cs 24 (0, 0))) : v.ownBlock ≠ some q := by
  rcases ho.2 with ⟨rfl, _⟩ | ⟨g, cap, cur, rfl, _, hh, _⟩
  · intro e; cases e
  · intro e
    have e' : g = q := by simpa [Value.ownBlock] using e
    subst e'
    rw [hh] at b
    simp at b
theorem blk_app24 {W w4 : World} {B n q : Nat} {v v' : Value} {xs : List Value} {cs : Array Value} (ho : W.ownsRow B 26 3 v n xs) (ha : App W w4 v v') (b : W.heap[q]? = some (.cells cs 24 (0, 0))) : w4.heap[q]? = some (.cells cs 24 (0, 0)) :=
  blk_chg b (Chg.of_app ha) (row_ne24 ho b)
theorem ops_set {X : World} {B n p : Nat} {ao : Option Addr} {n' cc : Nat} {m : List OpD} {cs : Array Value} {u u' : Value} (hn : n = m.length) (ho : X.ownsRow B 26 3 (.slice ao n' cc) n (opRow m)) (hok : ∀ x ∈ m, OpOk x) (b : X.heap[p]? = some (.cells cs 24 (0, 0))) :
    OPs ((X.setCell ⟨p, 0, none⟩ u).setCell ⟨p, 1, none⟩ u') ao m := by
  have hne := row_ne24 ho b
  obtain ⟨a', c', e, h⟩ := ops_of_row hn ho hok
  cases e
  have hc : Chg (fun k => k = p) X ((X.setCell ⟨p, 0, none⟩ u).setCell ⟨p, 1, none⟩ u') := (Chg.set X p 0 u).trans (Chg.set _ p 1 u')
  by_cases hl : 0 < m.length
  · obtain ⟨b', off', rfl, _⟩ := h.1 hl
    exact h.chg hc (fun e => hne (by rw [e]; rfl))
  · exact ⟨fun h => absurd h hl, hok⟩

theorem row_set {w : World} {B n p : Nat} {v u : Value} {xs : List Value} {cs : Array Value} (ho : w.ownsRow B 26 3 v n xs) (b : w.heap[p]? = some (.cells cs 24 (0, 0))) (j : Nat) : (w.setCell ⟨p, j, none⟩ u).ownsRow B 26 3 v n xs :=
  row_same ho fun k hk => (Chg.set w p j u).block k (World.ownsRow.lt ho k hk).2 (fun e => row_ne24 ho b (by rw [hk, e]))

def MoreOk (w0 : World) (B : Nat) (seq : Int) (m : List OpD) (r : Value) (wx : World) : Prop :=
  ∃ p ao cc, r = .pointer (some ⟨p, 0, none⟩) ∧ B ≤ p ∧ wx.cell? ⟨p, 0, none⟩ = some (.int .i64 seq) ∧ wx.cell? ⟨p, 1, none⟩ = some (.slice ao m.length cc) ∧ OPs wx ao m ∧ Below w0.heap.size w0 wx
def TurnRel (seq : Int) (l : List OpD) (p : Nat) (k : Nat) (wr : World) : Prop :=
  ∃ v, wr.heap[p]? = some (.cells #[.int .i64 seq, v] 24 (0, 0)) ∧ wr.ownsRow (p + 1) 26 3 v k (opRow (l.reverse.take k))

theorem sz_alloc {w : World} {B : Nat} (h : B ≤ w.heap.size) (o : Obj) : B ≤ (w.alloc o).heap.size := by simp; omega
theorem sz_drew {w : World} {B : Nat} (h : B ≤ w.heap.size) : B ≤ w.drew.heap.size := h
theorem below_alloc' {w w' : World} {B : Nat} (h : Below B w w') (hB : B ≤ w.heap.size) (o : Obj) : Below B w (w'.alloc o) := h.alloc (Nat.le_trans hB h.size) o
theorem more_leaf {w0 w2 X : World} {seq : Int} {m : List OpD} {p n n' cc : Nat} {ao : Option Addr} {u0 u1 : Value} (hz0 : w0.heap.size ≤ w2.heap.size) (hn : n = m.length) (hB2 : Below w0.heap.size w0 w2) (hok : ∀ x ∈ m, OpOk x) (hp : w2.heap.size ≤ p)
    (b : X.heap[p]? = some (.cells #[u0, u1] 24 (0, 0))) (ho : X.ownsRow w2.heap.size 26 3 (.slice ao n' cc) n (opRow m)) (hb : Below w2.heap.size w2 X) :
    MoreOk w0 w2.heap.size seq m (.pointer (some ⟨p, 0, none⟩)) ((X.setCell ⟨p, 0, none⟩ (.int .i64 seq)).setCell ⟨p, 1, none⟩ (.slice ao n' cc)) := by
  have hn' : n' = m.length := by
    obtain ⟨a', c', e, _⟩ := ops_of_row hn ho hok
    cases e; rfl
  have b1 := heap_set_row (heap_set_row b 0 (.int .i64 seq)) 1 (.slice ao n' cc)
  obtain ⟨q0, q1, _, _⟩ := cell_two b1
  refine ⟨p, ao, cc, rfl, hp, q0, ?_, ops_set hn ho hok b, ?_⟩
  · rw [q1, hn']
  · exact hB2.trans (((hb.setCell hp _).setCell hp _).mono hz0)

theorem more_leaf0 {w0 w2 X : World} {seq : Int} {m : List OpD} {n n' cc : Nat} {ao : Option Addr} (hz0 : w0.heap.size ≤ w2.heap.size) (hn : n = m.length) (hB2 : Below w0.heap.size w0 w2) (hok : ∀ x ∈ m, OpOk x)
    (ho : X.ownsRow w2.heap.size 26 3 (.slice ao n' cc) n (opRow m)) (hb : Below w2.heap.size w2 X) :
    MoreOk w0 w2.heap.size seq m (.pointer (some ⟨X.heap.size, 0, none⟩)) (X.alloc (.cells #[.int .i64 seq, .slice ao n' cc] 24)) := by
  obtain ⟨q0, q1, _, _⟩ := cell_two (heap_alloc_new X (.cells #[.int .i64 seq, .slice ao n' cc] 24))
  have ho' := World.ownsRow.alloc ho (.cells #[.int .i64 seq, .slice ao n' cc] 24)
  obtain ⟨a', c', e, h⟩ := ops_of_row hn ho' hok
  cases e
  exact ⟨_, _, _, rfl, hb.size, q0, q1, h, hB2.trans ((hb.alloc hb.size _).mono hz0)⟩
theorem kc_drew {w : World} {a : Addr} {v : Value} (h : w.cell? a = some v) : w.drew.cell? a = some v := h
theorem kc_alloc {w : World} {b j : Nat} {v : Value} (h : w.cell? ⟨b, j, none⟩ = some v) (o : Obj) : (w.alloc o).cell? ⟨b, j, none⟩ = some v := (World.cell?_alloc_some w _ o (by rw [h]; rfl)).trans h
theorem kc_set {w : World} {b j p i : Nat} {v u : Value} (h : w.cell? ⟨b, j, none⟩ = some v) (hne : b ≠ p) : (w.setCell ⟨p, i, none⟩ u).cell? ⟨b, j, none⟩ = some v := by
  rw [cell_same (Below.heap_setCell _ _ _ _ hne)]; exact h
set_option maxRecDepth 100000 in
set_option maxHeartbeats 40000000 in
theorem bsizes_yes {w : World} {a : Option Addr} {c : Nat} {l : List OpD} (h : OPs w a l) (hl : l.length ≤ maxLen) (seq : Int) (o : OpD) (hok : OpOk o) :
    Calls Try.prog 3 #[.agg #[.int .i64 seq, .slice a l.length c], .agg #[.int .i64 o.kind, .string o.key, .string o.val]] w fun e w' => e = .returned (.bool true) ∧ Below w.heap.size w w' := by
  have H := Lib.hid h
  have hl' := hl
  unfold maxLen at hl'
  obtain ⟨ok1, ok2, ok3, ok4⟩ := hok
  have Hok := Lib.hid (show OpOk o from ⟨ok1, ok2, ok3, ok4⟩)
  unfold maxLen at ok3 ok4
  clear h
  go_enter Try.func3, Try.ntmps3
  go_upto_region 1 with (fail)
  refine gen_wp (fun w' => Below w.heap.size w w' ∧ w'.cell? ⟨w.heap.size, 0, none⟩ = some (.int .i64 seq) ∧ w'.cell? ⟨w.heap.size, 1, none⟩ = some (.slice a l.length c) ∧ w'.cell? ⟨w.heap.size + 1, 0, none⟩ = some (.int .i64 o.kind) ∧ w'.cell? ⟨w.heap.size + 1, 1, none⟩ = some (.string o.key) ∧ w'.cell? ⟨w.heap.size + 1, 2, none⟩ = some (.string o.val)) ?_ ?_
  · refine ⟨?_, ?_, ?_, ?_, ?_, ?_⟩
    · (repeat first | exact Below.refl _ _ | refine Below.drew ?_ | refine Below.alloc ?_ (by simp <;> omega) _ | refine Below.setCell ?_ (by simp <;> omega) _)
    all_goals go_simp
  rintro w0 ⟨hb0, c0, c1, c2, c3, c4⟩
  have s0 := cell_next c0
  have s1 := cell_next c1
  have s2 := cell_next c2
  have s3 := cell_next c3
  have s4 := cell_next c4
  have HO : Hid (∀ w', Below w0.heap.size w0 w' → OPs w' a l) := by
    have h0 := H.out.below (hb0.mono (Nat.le_refl _))
    exact Lib.hid fun w' hb => h0.below hb
  have B0 := Below.refl w0.heap.size w0
  clear c0 c1 c2 c3 c4
  have hsm := bsmall_any (c := c) (HO.out _ B0) hl seq
  have Hsm := Lib.hid hsm
  clear hsm
  cases hs : small10 l with
  | false =>
    rw [hs] at Hsm
    clear hs
    go_wp2_with fail; (with_reducible refine (Hsm.out).mono ?_); rintro e w1 ⟨rfl, hb1⟩
    go_wp2_with fail; (with_reducible refine (awake_any _).mono ?_); rintro e w2 ⟨rfl, hb2⟩
    go_wp2
    go_ret
    exact ⟨rfl, hb0.trans ((bnext hb1 hb2).mono hb0.size)⟩
  | true =>
    rw [hs] at Hsm
    clear hs
    go_wp2_with fail; (with_reducible refine (Hsm.out).mono ?_); rintro e w1 ⟨rfl, hb1⟩
    have e0 := s0 _ hb1
    have e1 := s1 _ hb1
    have e2 := s2 _ hb1
    have e3 := s3 _ hb1
    have e4 := s4 _ hb1
    by_cases hk5 : o.key.size ≤ 5000
    case neg =>
      have hk5 : 5000 < o.key.size := by omega
      go_wp2_with fail; (with_reducible refine (awake_any _).mono ?_); rintro e w2 ⟨rfl, hb2⟩
      go_wp2
      go_ret
      exact ⟨rfl, hb0.trans ((bnext hb1 hb2).mono hb0.size)⟩
    by_cases hv5 : o.val.size ≤ 5000
    case neg =>
      have hv5 : 5000 < o.val.size := by omega
      go_wp2_with fail; (with_reducible refine (awake_any _).mono ?_); rintro e w2 ⟨rfl, hb2⟩
      go_wp2
      go_ret
      exact ⟨rfl, hb0.trans ((bnext hb1 hb2).mono hb0.size)⟩
    cases hr : batRight seq l with
    | false =>
      have hc := batcheck (c := c) (HO.out _ hb1) hl seq 100 (by rw [hr, if_neg (by decide)])
      have Hc := Lib.hid hc
      clear hc hr
      go_wp2_with fail; (with_reducible refine (Hc.out).mono ?_); rintro e w2 ⟨rfl, hb2⟩
      go_wp2_with fail; (with_reducible refine (awake_any _).mono ?_); rintro e w3 ⟨rfl, hb3⟩
      go_wp2
      go_ret
      exact ⟨rfl, hb0.trans ((bnext (bnext hb1 hb2) hb3).mono hb0.size)⟩
    | true =>
      have Hr := Lib.hid hr
      obtain ⟨_, h1, h2, h3, h4⟩ := batRight_all hr
      have hc := batcheck (c := c) (HO.out _ hb1) hl seq 0 (by rw [hr, if_pos rfl])
      have Hc := Lib.hid hc
      clear hc hr
      go_wp2_with fail; (with_reducible refine (Hc.out).mono ?_); rintro e w2 ⟨rfl, hb2⟩
      have B2 := bnext hb1 hb2
      clear e0 e1 e2 e3 e4 hb2 hb1 Hc Hsm
      have e0 := s0 _ B2
      have e1 := s1 _ B2
      have e2 := s2 _ B2
      have e3 := s3 _ B2
      have e4 := s4 _ B2
      have hO2 := HO.out _ B2
      obtain ⟨ba, off, rfl, _⟩ := hO2.1 (by omega)
      have HO2 := Lib.hid hO2
      have Hinf := Lib.hid opInfo
      obtain ⟨i0, hi, hz0, hz3, hzb⟩ := info_parts Hinf.out
      have Hi := Lib.hid hi
      have Hz0 := Lib.hid hz0
      have Hz3 := Lib.hid hz3
      have Hzb := Lib.hid hzb
      clear hi hz0 hz3 hzb hO2 Hinf
      have hz2 : w.heap.size + 1 < w2.heap.size := World.block_lt_of_cell? w2 _ e2
      have hz20 : w.heap.size < w2.heap.size := by omega
      have hz0 : w0.heap.size ≤ w2.heap.size := B2.size
      go_upto_region 3 with fail
      go_cut [5] from 29 to 38 (fun r wx => MoreOk w0 w2.heap.size seq (l ++ [o]) r wx)
      case first =>
        have A7 : (opRow l).length = l.length * 3 := opRow_len l
        have A8 : ∀ u ∈ opRow l, u.oneCell' = true := opRow_one
        have A5 : 0 + l.length ≤ maxLen := by unfold maxLen; omega
        have A6 : (0 + l.length) * 40 ≤ 140737488355328 := by omega
        have C7 : (opRow [o]).length = 1 * 3 := rfl
        have C8 : ∀ u ∈ opRow [o], u.oneCell' = true := opRow_one
        have C5 : l.length + 1 ≤ maxLen := by unfold maxLen; omega
        have C6 : (l.length + 1) * 40 ≤ 140737488355328 := by omega
        have HN : Hid (l.length + 1 = (l ++ [o]).length) := Lib.hid (by rw [List.length_append]; rfl)
        have HRo : Hid (opRow l ++ opRow [o] = opRow (l ++ [o])) := Lib.hid (opRow_append l [o]).symm
        have HOK : Hid (∀ x ∈ l ++ [o], OpOk x) := Lib.hid (by
          intro x hx
          rcases List.mem_append.1 hx with h | h
          · exact H.out.2 x h
          · rw [List.mem_singleton] at h; rw [h]; exact Hok.out)
        go_region_held3 (fun w' => w'.cell? ⟨w.heap.size, 0, none⟩ = some (.int .i64 seq) ∧ w'.cell? ⟨w.heap.size, 1, none⟩ = some (.slice (some ⟨ba, off, none⟩) l.length c) ∧ w'.cell? ⟨w.heap.size + 1, 0, none⟩ = some (.int .i64 o.kind) ∧ w'.cell? ⟨w.heap.size + 1, 1, none⟩ = some (.string o.key) ∧ w'.cell? ⟨w.heap.size + 1, 2, none⟩ = some (.string o.val)) (refine ⟨?_, ?_, ?_, ?_, ?_⟩ <;> (repeat (first | with_reducible assumption | with_reducible refine kc_drew ?_ | with_reducible refine kc_alloc ?_ _ | (with_reducible refine kc_set ?_ ?nb; (case nb => omega))))) (first
          | (refine step_appG (by rfl) (.tmp 31) (.tmp 33) 22 26 i0 (.agg #[.int .i64 0, .string ⟨#[]⟩, .string ⟨#[]⟩]) 3 40 Try.underlying22 Hi.out Hz0.out Hz3.out Hzb.out rfl (by decide) (by rfl) w2.heap.size (.slice (some ⟨_, 0, none⟩) 0 0) 0 [] (by rfl) (own_lit ?_ ?_) ⟨ba, off, none⟩ l.length c (opRow l) (by rfl) A7 (ops_cells (HO2.out.below ?_)) A8 A5 A6 ?_ ?_
             · (repeat (first | (with_reducible refine heap_at_new ?_; (first | (with_reducible rfl) | (simp; done))) | with_reducible refine blk_drew ?_ | with_reducible refine blk_alloc ?_ _ | (with_reducible refine blk_chg ?_ (Chg.of_app (by assumption)) ?nb; (case nb => (simp [Value.ownBlock] <;> omega)))))
             · (repeat (first | with_reducible exact Nat.le_refl _ | omega | with_reducible assumption | with_reducible refine sz_drew ?_ | with_reducible refine sz_alloc ?_ _))
             · (repeat (first | with_reducible exact Below.refl _ _ | with_reducible assumption | with_reducible refine Below.drew ?_ | with_reducible refine below_alloc' ?_ (Nat.le_refl _) _))
             · (repeat (first | with_reducible exact Nat.le_refl _ | omega | with_reducible assumption | with_reducible refine sz_drew ?_ | with_reducible refine sz_alloc ?_ _))
             intro v3 w3 ho3 ha3
             have hb3 : Below w2.heap.size w2 w3 := by
               refine Below.trans ?_ (Chg.below (Chg.of_app ha3) ?_ ?_)
               · (repeat (first | with_reducible exact Below.refl _ _ | with_reducible assumption | with_reducible refine Below.drew ?_ | with_reducible refine below_alloc' ?_ (Nat.le_refl _) _))
               · intro k hk; simp [Value.ownBlock] at hk; omega
               · (repeat (first | with_reducible exact Nat.le_refl _ | omega | with_reducible assumption | with_reducible refine sz_drew ?_ | with_reducible refine sz_alloc ?_ _))
             have hz3 := hb3.size
             have f0 := cell_next e0 _ hb3
             have f1 := cell_next e1 _ hb3
             have f2 := cell_next e2 _ hb3
             have f3 := cell_next e3 _ hb3
             have f4 := cell_next e4 _ hb3
             rw [Nat.zero_add, List.nil_append] at ho3
             obtain ⟨ao3, cc3, rfl, _⟩ := row_shape ho3)
          | (refine step_appG (by rfl) (.tmp 34) (.tmp 36) 22 26 i0 (.agg #[.int .i64 0, .string ⟨#[]⟩, .string ⟨#[]⟩]) 3 40 Try.underlying22 Hi.out Hz0.out Hz3.out Hzb.out rfl (by decide) (by rfl) w2.heap.size (.slice ao3 l.length cc3) l.length (opRow l) (by rfl) ?_ ⟨_, 0, none⟩ 1 1 (opRow [o]) (by rfl) C7 (op_blk ?_) C8 C5 C6 ?_ ?_
             · (repeat (first | with_reducible exact ho3 | with_reducible refine World.ownsRow.drew ?_ | with_reducible refine World.ownsRow.alloc ?_ _))
             · (repeat (first | (with_reducible refine heap_at_new ?_; (first | (with_reducible rfl) | (simp; done))) | with_reducible refine blk_drew ?_ | with_reducible refine blk_alloc ?_ _ | (with_reducible refine blk_chg ?_ (Chg.of_app (by assumption)) ?nb; (case nb => (simp [Value.ownBlock] <;> omega)))))
             · (repeat (first | with_reducible exact Nat.le_refl _ | omega | with_reducible assumption | with_reducible refine sz_drew ?_ | with_reducible refine sz_alloc ?_ _))
             intro v4 w4 ho4 ha4
             have hb4 : Below w2.heap.size w2 w4 := by
               refine Below.trans ?_ (Chg.below (Chg.of_app ha4) ?_ ?_)
               · (repeat (first | with_reducible exact Below.refl _ _ | with_reducible assumption | with_reducible refine Below.drew ?_ | with_reducible refine below_alloc' ?_ (Nat.le_refl _) _))
               · exact fun q hq => (World.ownsRow.lt ho3 q hq).1
               · (repeat (first | with_reducible exact Nat.le_refl _ | omega | with_reducible assumption | with_reducible refine sz_drew ?_ | with_reducible refine sz_alloc ?_ _))
             have hz4 := hb4.size
             have k0 := cell_next e0 _ hb4
             have k1 := cell_next e1 _ hb4
             have k2 := cell_next e2 _ hb4
             have k3 := cell_next e3 _ hb4
             have k4 := cell_next e4 _ hb4
             try (first
               | (refine (have b5 : w4.heap[w2.heap.size]? = some (.cells #[.int .i64 0, .slice none 0 0] 24 (0, 0)) := ?_; ?_); (focus (refine blk_app24 (B := w2.heap.size) (n := l.length) (xs := opRow l) ?hr1 ha4 ?_; (case hr1 => ((repeat (first | with_reducible exact ho3 | with_reducible refine World.ownsRow.drew ?_ | with_reducible refine World.ownsRow.alloc ?_ _)); done)); (repeat (first | (with_reducible refine heap_at_new ?_; (first | (with_reducible rfl) | (simp; done))) | with_reducible refine blk_drew ?_ | with_reducible refine blk_alloc ?_ _ | (with_reducible refine blk_chg ?_ (Chg.of_app (by assumption)) ?nb; (case nb => (simp [Value.ownBlock] <;> omega))))); done)); have B5 := Lib.hid b5; obtain ⟨x0, x1, x2, x3⟩ := cell_two b5; clear b5)
               | (refine (have b5 : w4.heap[w2.heap.size + 1]? = some (.cells #[.int .i64 0, .slice none 0 0] 24 (0, 0)) := ?_; ?_); (focus (refine blk_app24 (B := w2.heap.size) (n := l.length) (xs := opRow l) ?hr1 ha4 ?_; (case hr1 => ((repeat (first | with_reducible exact ho3 | with_reducible refine World.ownsRow.drew ?_ | with_reducible refine World.ownsRow.alloc ?_ _)); done)); (repeat (first | (with_reducible refine heap_at_new ?_; (first | (with_reducible rfl) | (simp; done))) | with_reducible refine blk_drew ?_ | with_reducible refine blk_alloc ?_ _ | (with_reducible refine blk_chg ?_ (Chg.of_app (by assumption)) ?nb; (case nb => (simp [Value.ownBlock] <;> omega))))); done)); have B5 := Lib.hid b5; obtain ⟨x0, x1, x2, x3⟩ := cell_two b5; clear b5)
               | (refine (have b5 : w4.heap[w2.heap.size + 1 + 1]? = some (.cells #[.int .i64 0, .slice none 0 0] 24 (0, 0)) := ?_; ?_); (focus (refine blk_app24 (B := w2.heap.size) (n := l.length) (xs := opRow l) ?hr1 ha4 ?_; (case hr1 => ((repeat (first | with_reducible exact ho3 | with_reducible refine World.ownsRow.drew ?_ | with_reducible refine World.ownsRow.alloc ?_ _)); done)); (repeat (first | (with_reducible refine heap_at_new ?_; (first | (with_reducible rfl) | (simp; done))) | with_reducible refine blk_drew ?_ | with_reducible refine blk_alloc ?_ _ | (with_reducible refine blk_chg ?_ (Chg.of_app (by assumption)) ?nb; (case nb => (simp [Value.ownBlock] <;> omega))))); done)); have B5 := Lib.hid b5; obtain ⟨x0, x1, x2, x3⟩ := cell_two b5; clear b5)
               | (refine (have b5 : w4.heap[w3.heap.size]? = some (.cells #[.int .i64 0, .slice none 0 0] 24 (0, 0)) := ?_; ?_); (focus (refine blk_app24 (B := w2.heap.size) (n := l.length) (xs := opRow l) ?hr1 ha4 ?_; (case hr1 => ((repeat (first | with_reducible exact ho3 | with_reducible refine World.ownsRow.drew ?_ | with_reducible refine World.ownsRow.alloc ?_ _)); done)); (repeat (first | (with_reducible refine heap_at_new ?_; (first | (with_reducible rfl) | (simp; done))) | with_reducible refine blk_drew ?_ | with_reducible refine blk_alloc ?_ _ | (with_reducible refine blk_chg ?_ (Chg.of_app (by assumption)) ?nb; (case nb => (simp [Value.ownBlock] <;> omega))))); done)); have B5 := Lib.hid b5; obtain ⟨x0, x1, x2, x3⟩ := cell_two b5; clear b5)
               | (refine (have b5 : w4.heap[w3.heap.size + 1]? = some (.cells #[.int .i64 0, .slice none 0 0] 24 (0, 0)) := ?_; ?_); (focus (refine blk_app24 (B := w2.heap.size) (n := l.length) (xs := opRow l) ?hr1 ha4 ?_; (case hr1 => ((repeat (first | with_reducible exact ho3 | with_reducible refine World.ownsRow.drew ?_ | with_reducible refine World.ownsRow.alloc ?_ _)); done)); (repeat (first | (with_reducible refine heap_at_new ?_; (first | (with_reducible rfl) | (simp; done))) | with_reducible refine blk_drew ?_ | with_reducible refine blk_alloc ?_ _ | (with_reducible refine blk_chg ?_ (Chg.of_app (by assumption)) ?nb; (case nb => (simp [Value.ownBlock] <;> omega))))); done)); have B5 := Lib.hid b5; obtain ⟨x0, x1, x2, x3⟩ := cell_two b5; clear b5))
             obtain ⟨ao4, cc4, rfl, _⟩ := row_shape ho4))
        all_goals
          go_wp2_with fail
          go_meet
          rw [HRo.out] at ho4
          first
            | exact more_leaf0 hz0 HN.out B2 HOK.out ho4 hb4
            | exact more_leaf hz0 HN.out B2 HOK.out (by omega) B5.out ho4 hb4
      case rest =>
        obtain ⟨M, hM⟩ : ∃ M, M = l ++ [o] := ⟨_, rfl⟩
        rw [← hM] at hcut
        have HMe := Lib.hid hM
        clear hM
        obtain ⟨p5, ao, cc, rfl, hp5, m0, m1, hmo, BM⟩ := hcut
        have n0 := cell_next m0
        have n1 := cell_next m1
        have HM := Lib.hid hmo
        have e0 := s0 _ BM
        clear m0 m1 hmo e1 e2 e3 e4
        go_upto_region 5 with fail
        refine gen_wp (fun w' => w'.heap[wc.heap.size]? = some (.cells #[.int .i64 seq, .slice none 0 0] 24 (0, 0)) ∧ Below wc.heap.size wc w') ?_ ?_
        · refine ⟨?_, ?_⟩
          · exact heap_at_new rfl
          · (repeat first | exact Below.refl _ _ | refine Below.drew ?_ | refine Below.alloc ?_ (by simp <;> omega) _ | refine Below.setCell ?_ (by simp <;> omega) _)
        rintro wA ⟨bA, hbA⟩
        have e1 := s1 _ (bnext BM hbA)
        go_wp2
        go_loopw [45] (fun i wr => ∃ k : Nat, k ≤ l.length ∧ i = .int .i64 k ∧ TurnRel seq l wc.heap.size k wr ∧ Below wc.heap.size wc wr) (fun i _ => l.length - (intOf i).toNat)
        case atStart => exact ⟨0, Nat.zero_le _, rfl, ⟨_, bA, World.ownsRow_nil _ _ _ _⟩, hbA⟩
        case round =>
          obtain ⟨k, hk, rfl, ⟨v, hb, hrow⟩, hbr⟩ := hrel
          have BR := bnext BM hbr
          have Hb := Lib.hid hb
          have Hrow := Lib.hid hrow
          obtain ⟨q0, q1, y0, y1⟩ := cell_two hb
          have hzr : wc.heap.size < wr.heap.size := blk_lt hb
          have hz5 : w.heap.size < wr.heap.size := World.block_lt_of_cell? wr _ (s1 _ BR)
          clear hb hrow
          by_cases hlt : k < l.length
          · obtain ⟨m, hm⟩ : ∃ m : Nat, l.length = k + 1 + m := ⟨l.length - (k + 1), by omega⟩
            have hmi : IntKind.i64.wrap (IntKind.i64.wrap ((l.length : Int) - 1) - k) = (m : Int) := by
              rw [wrap_i64 (z := (l.length : Int) - 1) (by omega) (by omega), wrap_i64 (by omega) (by omega)]; omega
            have hmi1 : (m : Int) < (l.length : Int) := by omega
            have hml : m < l.length := by omega
            obtain ⟨b', off', e, d0, d1, d2⟩ := (HO.out _ BR).cells (Below.refl _ wr) m hml
            cases e
            have hx : OpOk l[m] := H.out.2 _ (List.getElem_mem hml)
            have HT : Hid (opRow (l.reverse.take (k + 1)) = opRow (l.reverse.take k) ++ opRow [l[m]]) := Lib.hid (by
              have hk' : k < l.reverse.length := by rw [List.length_reverse]; exact hlt
              rw [List.take_succ_eq_append_getElem hk', opRow_append]
              have e2 : l.reverse[k] = l[m] := by rw [List.getElem_reverse]; congr 1; omega
              rw [e2])
            generalize l[m] = x at *
            generalize opRow (l.reverse.take k) = T0 at *
            generalize hT1 : opRow (l.reverse.take (k + 1)) = T1 at HT
            have HT1 := Lib.hid hT1
            clear hT1 hm
            have g0 := s0 _ BR
            have g1 := s1 _ BR
            go_upto_region 8 with fail
            obtain ⟨OB, hOB⟩ : ∃ OB, OB = Obj.cells #[.int .i64 x.kind, .string x.key, .string x.val] 26 := ⟨_, rfl⟩
            have A1 : (wr.alloc (.cells #[.int .i64 x.kind, .string x.key, .string x.val] 26)).drew.ownsRow (wc.heap.size + 1) 26 3 v k T0 := World.ownsRow.alloc Hrow.out _
            have A2 : ∀ j u, (opRow [x])[j]? = some u → (wr.alloc (.cells #[.int .i64 x.kind, .string x.key, .string x.val] 26)).drew.cell? ((⟨wr.heap.size, 0, none⟩ : Addr).add j) = some u := op_blk (heap_alloc_new wr _)
            have A3 : (wr.alloc (.cells #[.int .i64 x.kind, .string x.key, .string x.val] 26)).drew.heap[wc.heap.size]? = some (.cells #[.int .i64 seq, v] 24 (0, 0)) := blk_alloc Hb.out _
            have A4 : wc.heap.size + 1 ≤ (wr.alloc (.cells #[.int .i64 x.kind, .string x.key, .string x.val] 26)).drew.heap.size := by simp; omega
            have A5 : k + 1 ≤ maxLen := by unfold maxLen; omega
            have A6 : (k + 1) * 40 ≤ 140737488355328 := by omega
            have A7 : (opRow [x]).length = 1 * 3 := rfl
            have A8 : ∀ u ∈ opRow [x], u.oneCell' = true := opRow_one
            have A1 := Lib.hid A1
            have A2 := Lib.hid A2
            have A3 := Lib.hid A3
            have A4 := Lib.hid A4
            clear hOB OB
            go_region_law (refine step_appG (by rfl) (.tmp 49) (.tmp 60) 22 26 i0 (.agg #[.int .i64 0, .string ⟨#[]⟩, .string ⟨#[]⟩]) 3 40 Try.underlying22 Hi.out Hz0.out Hz3.out Hzb.out rfl (by decide) (by rfl) (wc.heap.size + 1) v k T0 (by rfl) A1.out ⟨wr.heap.size, 0, none⟩ 1 1 (opRow [x]) (by rfl) A7 A2.out A8 A5 A6 A4.out ?_; intro v2 w2' ho2 ha2; have b6 := blk_app24 A1.out ha2 A3.out; have B6 := Lib.hid b6; obtain ⟨x0, x1, x2, x3⟩ := cell_two b6; clear b6; obtain ⟨a2, c2, rfl, _⟩ := row_shape ho2)
            all_goals
              go_wp2
              go_roundw
              case rel => exact ⟨k + 1, by omega, by go_num, ⟨_, heap_set1 B6.out, by rw [HT1.out, HT.out]; exact row_set ho2 B6.out 1⟩, ((hbr.alloc hbr.size (.cells #[.int .i64 x.kind, .string x.key, .string x.val] 26)).drew.trans (Chg.below (B := wc.heap.size) (Chg.of_app ha2) (fun q hq => by have := (World.ownsRow.lt A1.out q hq).1; omega) (by simp; omega))).setCell (by simp) _⟩
              case measure => simp [intOf]; omega
          · obtain rfl : k = l.length := by omega
            have hrl : l.reverse.length = l.length := List.length_reverse
            obtain ⟨a', c', hv, hT⟩ := ops_of_row (l := l.reverse) (n := l.length) hrl.symm (by have := Hrow.out; rw [List.take_of_length_le (by omega)] at this; exact this) (fun x hx => H.out.2 x (List.mem_reverse.1 hx))
            subst hv
            have hml : l.reverse.length ≤ maxLen := by rw [hrl]; exact hl
            have hZl := batSize_le (seq := seq) (l := l)
            obtain ⟨Z, hZ⟩ : ∃ Z : Int, (batSize seq l : Int) = Z := ⟨_, rfl⟩
            have hZ0 : 0 ≤ Z ∧ Z ≤ 400000 := by omega
            obtain ⟨Lz, hLz⟩ : ∃ Z : Int, batLast seq l = Z := ⟨_, rfl⟩
            have hLv : batLast seq l = seq + l.length - 1 := by unfold batLast; rw [Hr.out, if_pos rfl]
            have hL0 : 0 ≤ Lz ∧ Lz ≤ 1099511627776 := by omega
            have hS1 : ∀ w', Below wr.heap.size wr w' → Calls Try.prog 12 #[.agg #[.int .i64 seq, .slice a' l.reverse.length c']] w' fun e w'' => e = .returned (.int .i64 Z) ∧ Below w'.heap.size w' w'' := fun w' hb => batsize_ok (hT.below hb) hml seq Z (by rw [batSize_rev]; exact hZ)
            have hS2 : ∀ w', Below wr.heap.size wr w' → Calls Try.prog 12 #[.agg #[.int .i64 seq, .slice (some ⟨ba, off, none⟩) l.length c]] w' fun e w'' => e = .returned (.int .i64 Z) ∧ Below w'.heap.size w' w'' := fun w' hb => batsize_ok (HO.out _ (bnext BR hb)) hl seq Z hZ
            have hL1 : ∀ w', Below wr.heap.size wr w' → Calls Try.prog 13 #[.agg #[.int .i64 seq, .slice a' l.reverse.length c']] w' fun e w'' => e = .returned (.int .i64 Lz) ∧ Below w'.heap.size w' w'' := fun w' hb => batlast_z (hT.below hb) hml seq Lz (by rw [batLast_rev]; exact hLz)
            have hL2 : ∀ w', Below wr.heap.size wr w' → Calls Try.prog 13 #[.agg #[.int .i64 seq, .slice (some ⟨ba, off, none⟩) l.length c]] w' fun e w'' => e = .returned (.int .i64 Lz) ∧ Below w'.heap.size w' w'' := fun w' hb => batlast_z (HO.out _ (bnext BR hb)) hl seq Lz hLz
            rw [hrl] at hS1 hL1
            have HS1 := Lib.hid hS1
            have HS2 := Lib.hid hS2
            have HL1 := Lib.hid hL1
            have HL2 := Lib.hid hL2
            have HZ := Lib.hid hZ
            have HLz := Lib.hid hLz
            have t0 := cell_next q0
            have t1 := cell_next q1
            have t2 := cell_next (s0 _ BR)
            have t3 := cell_next (s1 _ BR)
            have t4 := cell_next (s3 _ BR)
            have t5 := cell_next (s4 _ BR)
            have t6 := cell_next (n0 _ hbr)
            have t7 := cell_next (n1 _ hbr)
            have Bg := bnext_grow (Below.refl wr.heap.size wr)
            clear hS1 hS2 hL1 hL2 hZ hLz hLv hrl q0 q1 y0 y1 s0 s1 s2 s3 s4 n0 n1 e0 e1 hT
            go_upto_region 10 with fail
            refine wp_region_quiet_below (by kernel_rfl) (by kernel_rfl) ?_; (repeat (go_big_quiet_step ((first
              | (go_at_call 12; (with_reducible refine Calls.regrown_of (HS1.out _ (Bg _ _))))
              | (go_at_call 12; (with_reducible refine Calls.regrown_of (HS2.out _ (Bg _ _))))
              | (go_at_call 13; (with_reducible refine Calls.regrown_of (HL1.out _ (Bg _ _))))
              | (go_at_call 13; (with_reducible refine Calls.regrown_of (HL2.out _ (Bg _ _)))))))); refine wpQuiet_nil ?_; rintro _ ⟨pq, rfl⟩
            go_upto_region 12 with fail
            refine gen_wp (fun w' => Below wr.heap.size wr w') (Bg _ _) ?_
            intro wD BD
            have u0 := t6 _ BD
            have u1 := t7 _ BD
            have mlen : M.length ≤ maxLen := by rw [HMe.out, List.length_append]; unfold maxLen; simp; omega
            have HM2 : Hid (OPs wr ao M) := Lib.hid (HM.out.below hbr)
            cases hrm : batRight seq M with
            | false =>
              have hc := batcheck (c := cc) (HM2.out.below BD) mlen seq 100 (by rw [hrm, if_neg (by decide)])
              have Hc := Lib.hid hc
              clear hc
              go_wp2_with fail; (with_reducible refine (Hc.out).mono ?_); rintro e w3 ⟨rfl, hb3⟩
              have B3 := bnext BD hb3
              have u0 := t6 _ B3
              have u1 := t7 _ B3
              have hs := batsize_ok (c := cc) (HM2.out.below B3) mlen seq 0 (by unfold batSize; rw [hrm]; rfl)
              have Hs := Lib.hid hs
              clear hs hrm
              go_wp2_with fail; (with_reducible refine (Hs.out).mono ?_); rintro e w4 ⟨rfl, hb4⟩
              go_wp2_with fail; (with_reducible refine (awake_any _).mono ?_); rintro e w5 ⟨rfl, hb5⟩
              go_wp2
              go_ret
              exact ⟨rfl, hb0.trans ((bnext BR (bnext (bnext B3 hb4) hb5)).mono hb0.size)⟩
            | true =>
              have hc := batcheck (c := cc) (HM2.out.below BD) mlen seq 0 (by rw [hrm, if_pos rfl])
              have Hc := Lib.hid hc
              clear hc
              go_wp2_with fail; (with_reducible refine (Hc.out).mono ?_); rintro e w3 ⟨rfl, hb3⟩
              have B3 := bnext BD hb3
              have Bh := bnext_grow B3
              have hbig := batSize_snoc (by rw [← HMe.out]; exact hrm) Hr.out
              rw [← HMe.out] at hbig
              obtain ⟨Zm, hZm⟩ : ∃ Z : Int, (batSize seq M : Int) = Z := ⟨_, rfl⟩
              have hle := batSize_le (seq := seq) (l := M)
              have hgt : Z + (o.key.size : Int) + (o.val.size : Int) < Zm := by have := HZ.out; omega
              have hZm0 : Zm ≤ 400000 := by omega
              have hS3 : ∀ w', Below wr.heap.size wr w' → Calls Try.prog 12 #[.agg #[.int .i64 seq, .slice ao M.length cc]] w' fun e w'' => e = .returned (.int .i64 Zm) ∧ Below w'.heap.size w' w'' := fun w' hb => batsize_ok (HM2.out.below hb) mlen seq Zm hZm
              have hL3 : ∀ w', Below wr.heap.size wr w' → Calls Try.prog 13 #[.agg #[.int .i64 seq, .slice ao M.length cc]] w' fun e w'' => e = .returned (.int .i64 (Lz + 1)) ∧ Below w'.heap.size w' w'' := fun w' hb => batlast_z (HM2.out.below hb) mlen seq (Lz + 1) (by
                have := HLz.out
                unfold batLast at this ⊢
                rw [Hr.out, if_pos rfl] at this
                rw [hrm, if_pos rfl, HMe.out, List.length_append]
                simp only [List.length_cons, List.length_nil]
                omega)
              have HS3 := Lib.hid hS3
              have HL3 := Lib.hid hL3
              clear hS3 hL3 hZm hbig hle hrm u0 u1 Bg
              go_upto_region 14 with fail
              refine wp_region_quiet_below (by kernel_rfl) (by kernel_rfl) ?_; (repeat (go_big_quiet_step ((first
                | (go_at_call 12; (with_reducible refine Calls.regrown_of (HS3.out _ (Bh _ _))))
                | (go_at_call 12; (with_reducible refine Calls.regrown_of (HS2.out _ (Bh _ _))))
                | (go_at_call 13; (with_reducible refine Calls.regrown_of (HL3.out _ (Bh _ _))))
                | (go_at_call 13; (with_reducible refine Calls.regrown_of (HL2.out _ (Bh _ _))))
                | (go_at_call 11; (with_reducible refine Calls.regrown_of (awake_any _))))))); refine wpQuiet_nil ?_; rintro _ ⟨pq, rfl⟩
              go_wp2
              go_ret
              exact ⟨rfl, hb0.trans ((bnext BR (Bh _ _)).mono hb0.size)⟩
end Go.Proofs.Ytmgifejmheoddaa
