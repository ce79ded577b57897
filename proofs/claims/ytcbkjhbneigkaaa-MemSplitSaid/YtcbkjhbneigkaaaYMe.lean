/- Chapter 11: Entries, Users. -/
import Derived.Test.YtcbkjhbneigkaaaYMg
namespace Go.Proofs.Ytcbkjhbneigkaaa
open Go.RowKit
set_option linter.unusedVariables false
set_option linter.unusedSimpArgs false

def mrow (M : List ME) : List Value := M.flatMap fun e => [.string e.u, .int .i64 e.s, .int .i64 e.k, .string e.v]
theorem mrow_cons (x : ME) (L : List ME) : mrow (x :: L) = .string x.u :: .int .i64 x.s :: .int .i64 x.k :: .string x.v :: mrow L := rfl
theorem mrow_append (l m : List ME) : mrow (l ++ m) = mrow l ++ mrow m := by unfold mrow; rw [List.flatMap_append]
theorem mrow_len : ∀ l : List ME, (mrow l).length = l.length * 4
  | [] => rfl
  | x :: l => by rw [mrow_cons, List.length_cons, List.length_cons, List.length_cons, List.length_cons, mrow_len l, List.length_cons]; omega
theorem mrow_at : ∀ (l : List ME) (k : Nat) (h : k < l.length), (mrow l)[k * 4]? = some (.string l[k].u) ∧ (mrow l)[k * 4 + 1]? = some (.int .i64 l[k].s) ∧ (mrow l)[k * 4 + 2]? = some (.int .i64 l[k].k) ∧ (mrow l)[k * 4 + 3]? = some (.string l[k].v)
  | x :: l, 0, _ => ⟨rfl, rfl, rfl, rfl⟩
  | x :: l, k + 1, h => by
    obtain ⟨h1, h2, h3, h4⟩ := mrow_at l k (by simpa using h)
    rw [mrow_cons, show (k + 1) * 4 = k * 4 + 4 by omega]
    exact ⟨h1, h2, h3, h4⟩
theorem mrow_take {M : List ME} {k : Nat} (h : k < M.length) : mrow (M.take (k + 1)) = mrow (M.take k) ++ [.string M[k].u, .int .i64 M[k].s, .int .i64 M[k].k, .string M[k].v] := by
  rw [List.take_succ_eq_append_getElem h, mrow_append]; rfl
/-- what is read of a row of entries -/
theorem mrow_cells {w : World} {B : Nat} {T : TypeId} {ao : Option Addr} {n c : Nat} {M : List ME} (h : w.ownsRow B T 4 (.slice ao n c) n (mrow M)) (j : Nat) (hj : j < M.length) (hn : n = M.length) :
    ∃ g, ao = some ⟨g, 0, none⟩ ∧ w.cell? ⟨g, j * 4, none⟩ = some (.string M[j].u) ∧ w.cell? ⟨g, j * 4 + 1, none⟩ = some (.int .i64 M[j].s) ∧ w.cell? ⟨g, j * 4 + 2, none⟩ = some (.int .i64 M[j].k) ∧ w.cell? ⟨g, j * 4 + 3, none⟩ = some (.string M[j].v) := by
  subst hn
  obtain ⟨ao', c', e, _, _, h3⟩ := row_shape h
  cases e
  obtain ⟨g, rfl, _⟩ := h3 (by omega)
  obtain ⟨h1, h2, h3, h4⟩ := mrow_at M j hj
  refine ⟨g, rfl, ?_, ?_, ?_, ?_⟩
  · rw [World.ownsRow.cellAt h _ (by omega)]; exact h1
  · rw [World.ownsRow.cellAt h _ (by omega)]; exact h2
  · rw [World.ownsRow.cellAt h _ (by omega)]; exact h3
  · rw [World.ownsRow.cellAt h _ (by omega)]; exact h4
theorem ment_info : (Try.prog.info? 36).map (fun i => (i.zero, i.size, i.bytes)) = some (some (.agg #[.string ⟨#[]⟩, .int .i64 0, .int .i64 0, .string ⟨#[]⟩]), 4, 48) := by kernel_rfl
/-- the list's keys, told of the table's entries -/
theorem keys_row {w : World} {B p : Nat} {F : Nat → Prop} {L : List (E3 ByteArray ByteArray)} {M : List ME} (h : ss.LI w B p F L) (hs : Same11 L M) (hl : M.length ≤ 999999) :
    Calls Try.prog 40 #[.pointer (some ⟨p, 0, none⟩)] w fun e w' => ∃ u, e = .returned u ∧ w'.ownsRow w.heap.size 9 1 u M.length (ss.evs (M.map mkey)) ∧ Below w.heap.size w w' := by
  have hle := hs.len
  have e : L.map E3.k = M.map mkey := by
    have := congrArg (List.map Prod.fst) hs
    rw [List.map_map, List.map_map] at this
    exact this
  refine (ss.LI.keys h (by omega)).mono fun e' w' ⟨u, h1, h2, h3⟩ => ⟨u, h1, ?_, h3⟩
  rw [← e, ← hle]; exact h2
theorem evs_at (l : List ByteArray) (i : Nat) (h : i < l.length) : (ss.evs l)[i]? = some (.string l[i]) := by
  unfold ss.evs
  rw [List.getElem?_map, List.getElem?_eq_getElem h]; rfl
theorem srow_cell {w : World} {B : Nat} {ao : Option Addr} {n c : Nat} {l : List ByteArray} (h : w.ownsRow B 9 1 (.slice ao n c) n (ss.evs l)) (j : Nat) (hj : j < l.length) (hn : n = l.length) : ∃ g, ao = some ⟨g, 0, none⟩ ∧ w.cell? ⟨g, j, none⟩ = some (.string l[j]) := by
  subst hn
  obtain ⟨ao', c', e, _, _, h3⟩ := row_shape h
  cases e
  obtain ⟨g, rfl, _⟩ := h3 (by omega)
  refine ⟨g, rfl, ?_⟩
  rw [World.ownsRow.cellAt h _ (by omega)]; exact evs_at l j hj
def EntsOut (w : World) (M : List ME) (e : Ending) (w' : World) : Prop :=
  ∃ v, e = .returned v ∧ w'.ownsRow w.heap.size 36 4 v M.length (mrow M) ∧ Below w.heap.size w w'
set_option maxRecDepth 100000 in
set_option maxHeartbeats 4000000 in
theorem TB.entries {w : World} {B t p : Nat} {F : Nat → Prop} {M : List ME} {last : Int} (h : TB w B t p F M last) (hl : M.length ≤ 99999) :
    Calls Try.prog 17 #[.pointer (some ⟨t, 0, none⟩)] w (EntsOut w M) := by
  have HT := Lib.hid h
  obtain ⟨L, hL, hs⟩ := h.list
  have c0 := h.c0
  have HKs := Lib.hid (keys_row hL hs (by omega))
  have htw := blk_lt h.box
  obtain ⟨i0, hi, hz0, hz1, hz2⟩ := info_parts ment_info
  have Hi := Lib.hid hi
  have Hz0 := Lib.hid hz0
  have Hz3 := Lib.hid hz1
  have Hzb := Lib.hid hz2
  clear hi hz0 hz1 hz2 h hL hs
  go_enter Try.func17, Try.ntmps17
  go_wp2_with fail; (with_reducible refine (HKs.out).mono ?_); rintro e w1 ⟨u, rfl, ho1, hb1⟩
  obtain ⟨ao, c, rfl, _, _, _⟩ := row_shape ho1
  have HO := Lib.hid ho1
  have hz1 := hb1.size
  clear ho1 HKs
  go_wp2
  go_loopw [3, 14] (fun v i wr => ∃ k : Nat, k ≤ M.length ∧ i = .int .i64 k ∧ wr.ownsRow w1.heap.size 36 4 v k (mrow (M.take k)) ∧ Below w1.heap.size w1 wr) (fun _ i _ => M.length - (intOf i).toNat)
  case atStart => exact ⟨0, Nat.zero_le _, rfl, World.ownsRow_nil _ _ _ _, Below.refl _ _⟩
  case round =>
    obtain ⟨k, hk, rfl, hown, hbr⟩ := hrel
    have Hown := Lib.hid hown
    have hz := hbr.size
    have BR := hb1.trans (hbr.mono hb1.size)
    have HBR := Lib.hid BR
    have Hbr := Lib.hid hbr
    clear hown
    by_cases hlt : k < M.length
    · have hT := HT.out.below BR
      obtain ⟨L, hL, hs⟩ := hT.list
      have cr := hT.c0
      obtain ⟨g, rfl, d0⟩ := srow_cell (row_past HO.out hbr (Nat.le_refl _)) k (by simpa using hlt) (by simp)
      rw [List.getElem_map] at d0
      have hok := hT.inv.ok _ (List.getElem_mem hlt)
      have HGt := Lib.hid (get_key hL hs (by omega) hT.inv.ok hT.inv.rise k hlt)
      have HEn := Lib.hid fun W => mentry hok.1 (M[k]).v W
      have HM := Lib.hid (mrow_take hlt)
      clear hT hL hs hok hbr BR
      generalize hR1 : mrow (M.take (k + 1)) = R1 at *
      have HR1 := Lib.hid hR1
      clear hR1
      generalize mrow (M.take k) = R0 at *
      generalize M[k] = x at *
      go_wp2_with fail; (with_reducible refine (HGt.out).mono ?_); rintro e w2 ⟨rfl, hb2⟩
      have HB2 := Lib.hid hb2
      go_wp2_with fail; (with_reducible refine (HEn.out _).mono ?_); rintro e w3 ⟨rfl, hb3⟩
      have HB3 := Lib.hid (bnext hb2 hb3)
      have Hown3 := Lib.hid (row_past Hown.out HB3.out (Nat.le_refl _))
      have hz3 : w1.heap.size ≤ w3.heap.size := Nat.le_trans hz HB3.out.size
      clear hb2 hb3
      go_wp2_with (at_builtin; go_loud (refine wpList_appN rfl (.tmp 27) (.tmp 31) 52 36 i0 (.agg #[.string ⟨#[]⟩, .int .i64 0, .int .i64 0, .string ⟨#[]⟩]) 4 48 Try.underlying52 Hi.out Hz0.out Hz3.out Hzb.out rfl (by decide) rfl w1.heap.size u3 k R0 rfl Hown3.out #[.string x.u, .int .i64 x.s, .int .i64 x.k, .string x.v] 1 1 (by first | rfl | (simp; done) | (simp; rfl)) rfl (by intro u hu; simp at hu; rcases hu with rfl | rfl | rfl | rfl <;> rfl) (by unfold maxLen; omega) (by omega) (by first | exact hz3 | (simp; omega)) ?_); intro v2 w4 ho4 hold4 ha4)
      go_roundw
      case rel => exact ⟨k + 1, by omega, by go_num, by rw [HR1.out, HM.out]; exact ho4, (Hbr.out.trans (HB3.out.mono Hbr.out.size)).trans ((Chg.of_app ha4).below (fun q hq => (World.ownsRow.lt Hown3.out q hq).1) hz3)⟩
      case measure => simp [intOf]; omega
    · obtain rfl : k = M.length := by omega
      go_wp2
      go_ret
      refine ⟨_, rfl, ?_, HBR.out⟩
      have := Hown.out
      rw [List.take_of_length_le (Nat.le_refl _)] at this
      exact row_mono this hz1
/-- a row of strings -/
def svs (l : List ByteArray) : List Value := l.map Value.string
theorem svs_snoc (l : List ByteArray) (x : ByteArray) : svs (l ++ [x]) = svs l ++ [.string x] := by simp [svs]
theorem mstr_info : (Try.prog.info? 9).map (fun i => (i.zero, i.size, i.bytes)) = some (some (.string ⟨#[]⟩), 1, 16) := by kernel_rfl
def UsersOut (w : World) (l : List ByteArray) (e : Ending) (w' : World) : Prop :=
  ∃ v, e = .returned v ∧ w'.ownsRow w.heap.size 9 1 v l.length (svs l) ∧ Below w.heap.size w w'
set_option maxRecDepth 100000 in
set_option maxHeartbeats 4000000 in
theorem TB.users {w : World} {B t p : Nat} {F : Nat → Prop} {M : List ME} {last : Int} (h : TB w B t p F M last) (hl : M.length ≤ 99999) (at' : Int) :
    Calls Try.prog 21 #[.pointer (some ⟨t, 0, none⟩), .int .i64 at'] w (UsersOut w (musers at' M)) := by
  have HIv := Lib.hid h.inv
  have HEs := Lib.hid (h.entries hl)
  obtain ⟨i0, hi, hz0, hz1, hz2⟩ := info_parts mstr_info
  have Hi := Lib.hid hi
  have Hz0 := Lib.hid hz0
  have Hz3 := Lib.hid hz1
  have Hzb := Lib.hid hz2
  clear hi hz0 hz1 hz2 h
  go_enter Try.func21, Try.ntmps21
  go_wp2_with fail; (with_reducible refine (HEs.out).mono ?_); rintro e w1 ⟨u, rfl, ho1, hb1⟩
  obtain ⟨ao, c, rfl, _, _, _⟩ := row_shape ho1
  have HO := Lib.hid ho1
  have hz1 := hb1.size
  clear ho1 HEs
  go_wp2
  go_loopw [5, 6, 12] (fun v lst i wr => ∃ k : Nat, k ≤ M.length ∧ i = .int .i64 k ∧ lst = .string (mlast at' M k) ∧ wr.ownsRow w1.heap.size 9 1 v (musersN at' M k).length (svs (musersN at' M k)) ∧ Below w1.heap.size w1 wr) (fun _ _ i _ => M.length - (intOf i).toNat)
  case atStart => exact ⟨0, Nat.zero_le _, rfl, rfl, World.ownsRow_nil _ _ _ _, Below.refl _ _⟩
  case round =>
    obtain ⟨k, hk, rfl, rfl, hown, hbr⟩ := hrel
    have Hown := Lib.hid hown
    have hz := hbr.size
    have HBR := Lib.hid (hb1.trans (hbr.mono hb1.size))
    have Hbr := Lib.hid hbr
    clear hown
    by_cases hlt : k < M.length
    · obtain ⟨g, rfl, d0, d1, d2, d3⟩ := mrow_cells (row_past HO.out hbr (Nat.le_refl _)) k hlt rfl
      have hlu := musersN_le at' M k
      have hnu := @users_unseen M at' k hlt
      have hna := @users_again M last HIv.out at' k hlt
      have hnn := @users_new M last HIv.out at' k hlt
      have HNu := Lib.hid hnu
      have HNa := Lib.hid hna
      have HNn := Lib.hid hnn
      clear hnu hna hnn hbr
      generalize M[k] = x at *
      obtain ⟨xu, xs, xk, xv⟩ := x
      simp only at d0 d1 d2 d3 HNu HNa HNn
      go_upto_region 6 with (fail)
      refine gen_wp (fun w' => Below wr.heap.size wr w' ∧ w'.heap[wr.heap.size]? = some (.cells #[.string xu, .int .i64 xs, .int .i64 xk, .string xv] 36 (0, 0))) ⟨(Below.refl _ wr).alloc (Nat.le_refl _) _, heap_alloc_new wr _⟩ ?_
      rintro w2 ⟨hb2, b2⟩
      obtain ⟨e0, e1, e2, e3, _⟩ := mcell_four b2
      have hq := blk_lt b2
      have HB2 := Lib.hid hb2
      have t0 := cell_next e0
      have t2 := cell_next e2
      have hse := sees_any xu xs xk at' w2
      clear hb2 d0 d1 d2 d3
      by_cases hs : xs ≤ at'
      · rw [decide_eq_true hs] at hse
        have Hse := Lib.hid hse
        have Hs := Lib.hid hs
        clear hse hs
        go_wp2_with fail; (with_reducible refine (Hse.out).mono ?_); rintro e w3 ⟨rfl, hb3⟩
        have e4 := t0 _ hb3
        have e5 := t2 _ hb3
        have HB3 := Lib.hid (bnext HB2.out hb3)
        have hz3 : w1.heap.size ≤ w3.heap.size := Nat.le_trans hz HB3.out.size
        have Hown3 := Lib.hid (row_past Hown.out HB3.out (Nat.le_refl _))
        have HBn := Lib.hid (Hbr.out.trans (HB3.out.mono Hbr.out.size))
        clear hb3 e0 e1 e2 e3 b2 t0 t2
        by_cases hu : xu = mlast at' M k
        · have hq2 := str_eq hu
          obtain ⟨n1, n2⟩ := HNa.out Hs.out hu
          have N1 := Lib.hid n1
          have N2 := Lib.hid n2
          clear n1 n2 hu
          go_wp2
          go_roundw
          case rel => exact ⟨k + 1, by omega, by go_num, by rw [N2.out], by rw [N1.out]; exact Hown3.out, HBn.out⟩
          case measure => simp [intOf]; omega
        · have hq2 := str_ne hu
          obtain ⟨n1, n2, n3⟩ := HNn.out Hs.out hu
          have N1 := Lib.hid n1
          clear n1 hu
          by_cases hk1 : xk = 1
          · have N2 := Lib.hid (n2 hk1)
            have hk2 : (xk == 1) = true := by rw [beq_iff_eq]; exact hk1
            clear n2 n3 hk1
            go_wp2_with (at_builtin; go_loud (refine wpList_appN rfl (.tmp 35) (.tmp 37) 22 9 i0 (.string ⟨#[]⟩) 1 16 Try.underlying22 Hi.out Hz0.out Hz3.out Hzb.out rfl (by decide) rfl w1.heap.size u5 (musersN at' M k).length (svs (musersN at' M k)) rfl Hown3.out #[.string xu] 1 1 (by first | rfl | (simp; done) | (simp; rfl)) rfl (by intro u hu; simp at hu; subst hu; rfl) (by unfold maxLen; omega) (by omega) (by first | exact hz3 | (simp; omega)) ?_); intro v2 w4 ho4 hold4 ha4)
            go_roundw
            case rel => exact ⟨k + 1, by omega, by go_num, by rw [N1.out], by rw [N2.out, svs_snoc, List.length_append]; exact ho4, HBn.out.trans ((Chg.of_app ha4).below (fun q hq => (World.ownsRow.lt Hown3.out q hq).1) hz3)⟩
            case measure => simp [intOf]; omega
          · have N2 := Lib.hid (n3 hk1)
            have hk2 : (xk == 1) = false := by rw [beq_eq_false_iff_ne]; exact hk1
            clear n2 n3 hk1
            go_wp2
            go_roundw
            case rel => exact ⟨k + 1, by omega, by go_num, by rw [N1.out], by rw [N2.out]; exact Hown3.out, HBn.out⟩
            case measure => simp [intOf]; omega
      · rw [decide_eq_false hs] at hse
        have Hse := Lib.hid hse
        obtain ⟨n1, n2⟩ := HNu.out hs
        have N1 := Lib.hid n1
        have N2 := Lib.hid n2
        clear hse hs n1 n2
        go_wp2_with fail; (with_reducible refine (Hse.out).mono ?_); rintro e w3 ⟨rfl, hb3⟩
        have HB3 := Lib.hid (bnext HB2.out hb3)
        have Hown3 := Lib.hid (row_past Hown.out HB3.out (Nat.le_refl _))
        have HBn := Lib.hid (Hbr.out.trans (HB3.out.mono Hbr.out.size))
        clear hb3 e0 e1 e2 e3 b2 t0 t2
        go_wp2
        go_roundw
        case rel => exact ⟨k + 1, by omega, by go_num, by rw [N2.out], by rw [N1.out]; exact Hown3.out, HBn.out⟩
        case measure => simp [intOf]; omega
    · obtain rfl : k = M.length := by omega
      go_wp2
      go_ret
      exact ⟨_, rfl, row_mono Hown.out hz1, HBR.out⟩
end Go.Proofs.Ytcbkjhbneigkaaa
