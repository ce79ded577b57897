/- The contract of the document's Build. -/
import Derived.Test.YtebnllpcagkkbaaBs12
import Derived.Test.YtebnllpcagkkbaaBk3
import Derived.Test.YtebnllpcagkkbaaRef2
namespace Go.Proofs.Ytebnllpcagkkbaa
open Go.RowKit
set_option linter.unusedVariables false
set_option linter.unusedSimpArgs false

def ivsN (l : List Nat) : List Value := l.map fun n : Nat => Value.int .i64 ((n : Nat) : Int)
theorem ivsN_append (l m : List Nat) : ivsN (l ++ m) = ivsN l ++ ivsN m := by simp [ivsN]
theorem infoInt12 : (Try.prog.info? 3).map (fun i => (i.zero, i.size, i.bytes)) = some (some (.int .i64 0), 1, 8) := by kernel_rfl
theorem row_apart {w w' : World} {B1 B2 s1 s2 n1 n2 : Nat} {e1 e2 : TypeId} {v1 v1' v2 : Value} {xs1 xs2 : List Value} (h1 : w.ownsRow B1 e1 s1 v1 n1 xs1) (h2 : w.ownsRow B2 e2 s2 v2 n2 xs2) (hne : e1 ≠ e2) (ha : App w w' v1 v1') : w'.ownsRow B2 e2 s2 v2 n2 xs2 := by
  refine row_same h2 fun k hk => ha.grown.block k (World.ownsRow.lt h2 k hk).2 fun e => ?_
  rcases h1.2 with ⟨rfl, _⟩ | ⟨g, cap, cur, rfl, _, hh, _⟩
  · cases e
  · rcases h2.2 with ⟨rfl, _⟩ | ⟨g', cap', cur', rfl, _, hh', _⟩
    · cases hk
    · simp only [Value.ownBlock, Option.some.injEq] at e hk
      subst e; subst hk
      rw [hh] at hh'
      simp only [Option.some.injEq, Obj.cells.injEq] at hh'
      exact hne hh'.2.1
/-- the bytes so far, the starts so far -/
def RSt (w : World) (sv : Value) (st : List Nat) (v : Value) (A : List UInt8) (wr : World) : Prop :=
  OB wr w.heap.size v A ∧ wr.ownsRow w.heap.size 3 1 sv st.length (ivsN st) ∧ Below w.heap.size w wr
section
variable {w wr wx : World} {sv sv' v v' : Value} {st st' : List Nat} {A A' : List UInt8}
theorem RSt.below (h : RSt w sv st v A wr) (hb : Below wr.heap.size wr wx) : RSt w sv st v A wx :=
  ⟨h.1.past hb (Nat.le_refl _), row_past h.2.1 hb (Nat.le_refl _), bnext h.2.2 hb⟩
theorem RSt.app (h : RSt w sv st v A wr) (ho : OB wx w.heap.size v' A') (ha : App wr wx v v') : RSt w sv st v' A' wx :=
  ⟨ho, row_apart h.1 h.2.1 (by decide) ha, h.2.2.trans (h.1.below ha h.2.2.size)⟩
theorem RSt.appS (h : RSt w sv st v A wr) (ho : wx.ownsRow w.heap.size 3 1 sv' st'.length (ivsN st')) (ha : App wr wx sv sv') : RSt w sv' st' v A wx :=
  ⟨row_apart h.2.1 h.1 (by decide) ha, ho, h.2.2.trans ((Chg.of_app ha).below (fun k hk => (World.ownsRow.lt h.2.1 k hk).1) h.2.2.size)⟩
end
theorem bvs_index (c : UInt8) : (#[.int .u8 (c.toNat : Int)] : Array Value) = (bvs [c]).toArray := rfl

set_option maxHeartbeats 1000000 in
theorem refword_any (n : Nat) (w : World) (hn : n < 4294967296) :
    Calls Try.prog 37 #[.int .i64 n] w fun e w' => ∃ v, e = .returned v ∧ RB w' v (word4 n) ∧ Below w.heap.size w w' := by
  go_enter Try.func37, Try.ntmps37
  go_wp2
  go_ret
  exact ⟨_, rfl, RB.fresh w (word4 n) _ _ _ 4 4 (word_cells n hn) rfl (Nat.le_refl 4), (Below.refl _ _).alloc (Nat.le_refl _) _⟩

set_option maxRecDepth 100000 in
set_option maxHeartbeats 8000000 in
theorem refbuild_any {w : World} {a : Option Addr} {c : Nat} {l : List PairD} (h : PRs w a l) (every : Nat) (he1 : 1 ≤ every) (he2 : every ≤ 64) (hl : l.length ≤ 1000000) (hsz : ∀ x ∈ l, x.key.size ≤ 1000000 ∧ x.val.size ≤ 1000000) (hbl : (bodyB every l l.length).length < 4294967296) :
    Calls Try.prog 22 #[.slice a l.length c, .int .i64 every] w fun e w' => ∃ v, e = .returned v ∧ RB w' v (buildB every l) ∧ Below w.heap.size w w' := by
  have H := Lib.hid h
  have Hbl := Lib.hid hbl
  have Hsz := Lib.hid hsz
  have hinf := infoInt12
  obtain ⟨i0, hi, hzo, hz3, hzb⟩ := info_parts hinf
  have Hi := Lib.hid hi
  have Hz0 := Lib.hid hzo
  have Hz3 := Lib.hid hz3
  have Hzb := Lib.hid hzb
  have H0 : Hid (RSt w (.slice none 0 0) (starts every l 0) (.slice none 0 0) (bodyB every l 0) w) := Lib.hid ⟨OB.nil _ _, World.ownsRow_nil _ _ _ _, Below.refl _ _⟩
  clear h hbl hsz hi hzo hz3 hzb hinf
  go_enter Try.func22, Try.ntmps22
  go_wp2
  go_loopw [5, 6, 7] (fun v sv i wr => ∃ k : Nat, k ≤ l.length ∧ i = .int .i64 k ∧ RSt w sv (starts every l k) v (bodyB every l k) wr) (fun _ _ i _ => l.length - (intOf i).toNat)
  case atStart => exact ⟨0, Nat.zero_le _, rfl, H0.out⟩
  case round =>
    obtain ⟨k, hk, rfl, hS⟩ := hrel
    have HS := Lib.hid hS
    have hsl := starts_le every l k
    have hbk := bodyB_mono every l hk
    have hbl2 := Hbl.out
    have hbk2 : (bodyB every l k).length < 4294967296 := by omega
    have hzw := hS.2.2.size
    clear hS hbk hbl2 H0
    by_cases hlt : k < l.length
    case neg =>
      obtain rfl : k = l.length := by omega
      have hss := starts_small every l l.length
      have Hss := Lib.hid hss
      have hS0 := HS.out
      obtain ⟨ao6, c6, rfl, hs61, hs62, hs63⟩ := row_shape hS0.2.1
      unfold maxLen at hs62
      have Hs63 := Lib.hid hs63
      have HSS := Lib.hid hS0
      have hTail : Hid (buildB every l = bodyB every l l.length ++ (starts every l l.length).flatMap word4 ++ word4 (starts every l l.length).length ++ [UInt8.ofNat every]) := Lib.hid (by
        unfold buildB tailB; rw [List.flatMap_append]; simp)
      generalize hst1 : starts every l l.length = st at *
      generalize hA : bodyB every l l.length = A at *
      clear hS0 hs63 hss hst1 hA HS Hbl
      go_wp2
      go_loopw [5, 11] (fun v i wx => ∃ j : Nat, j ≤ st.length ∧ i = .int .i64 j ∧ RSt w (.slice ao6 st.length c6) st v (A ++ (st.take j).flatMap word4) wx) (fun _ i _ => st.length - (intOf i).toNat)
      case atStart => exact ⟨0, Nat.zero_le _, rfl, by rw [List.take_zero]; simpa using HSS.out⟩
      case round =>
        obtain ⟨j, hj, rfl, hS3⟩ := hrel
        have HS3 := Lib.hid hS3
        clear hS3
        have hl3 : (A ++ (st.take j).flatMap word4).length ≤ A.length + 4 * st.length := by
          rw [List.length_append, word4_len, List.length_take]; omega
        by_cases hlt3 : j < st.length
        · obtain ⟨g, rfl, _, _⟩ := Hs63.out (by omega)
          have hcell := World.ownsRow.cellAt HS3.out.2.1 j (by omega)
          have hcj : wr.cell? ⟨g, j, none⟩ = some (.int .i64 (st[j] : Nat)) := by
            rw [hcell]; simp [ivsN, hlt3]
          have h32 : st[j] < 4294967296 := by have := Hss.out _ (List.getElem_mem hlt3); omega
          have Hwd : Hid (∀ W, Calls Try.prog 37 #[.int .i64 (st[j] : Nat)] W fun e w' => ∃ v, e = .returned v ∧ RB w' v (word4 st[j]) ∧ Below W.heap.size W w') := Lib.hid fun W => refword_any _ W h32
          have Hfin : Hid ((st.take (j + 1)).flatMap word4 = (st.take j).flatMap word4 ++ word4 st[j]) := Lib.hid (by
            rw [List.take_succ_eq_append_getElem hlt3, List.flatMap_append]; simp)
          have hw4 : (word4 st[j]).length = 4 := rfl
          generalize hW : word4 st[j] = W4 at *
          generalize st[j] = y at *
          clear hcell
          go_wp2_with fail; (with_reducible refine (Hwd.out _).mono ?_); rintro e w4 ⟨v4, rfl, hr4, hb4⟩
          have HS4 := Lib.hid (HS3.out.below hb4)
          have HO4 := Lib.hid HS4.out.1
          have Hr4 := Lib.hid hr4
          have hz4 := HS4.out.2.2.size
          generalize hA3 : A ++ (st.take j).flatMap word4 = A3 at *
          have HA3 := Lib.hid hA3
          clear hr4 hb4 hcj hA3
          go_wp2_with (at_builtin; go_loud (refine wpList_appr rfl (.tmp 110) (.tmp 115) rfl w.heap.size _ A3 rfl HO4.out _ W4 rfl Hr4.out ?_ hz4 ?_); (omega); intro v5 w5 ho5 hold5 ha5)
          go_roundw
          case rel => exact ⟨j + 1, by omega, by go_num, by rw [Hfin.out, ← List.append_assoc, HA3.out]; exact HS4.out.app ho5 ha5⟩
          case measure => simp [intOf]; omega
        · obtain rfl : j = st.length := by omega
          have htk : st.take st.length = st := List.take_of_length_le (Nat.le_refl _)
          rw [htk] at HS3 hl3
          have Hwd : Hid (∀ W, Calls Try.prog 37 #[.int .i64 st.length] W fun e w' => ∃ v, e = .returned v ∧ RB w' v (word4 st.length) ∧ Below W.heap.size W w') := Lib.hid fun W => refword_any _ W (by omega)
          have hw4 : (word4 st.length).length = 4 := rfl
          have hby : (#[.int .u8 (every : Int)] : Array Value) = (bvs [UInt8.ofNat every]).toArray := bvs_small every (by omega)
          have Hby := Lib.hid hby
          generalize hW : word4 st.length = W4 at *
          generalize hA3 : A ++ st.flatMap word4 = A3 at *
          have HA3 := Lib.hid hA3
          clear hA3 htk hby
          go_wp2_with fail; (with_reducible refine (Hwd.out _).mono ?_); rintro e w4 ⟨v4, rfl, hr4, hb4⟩
          have HS4 := Lib.hid (HS3.out.below hb4)
          have HO4 := Lib.hid HS4.out.1
          have Hr4 := Lib.hid hr4
          have hz4 := HS4.out.2.2.size
          clear hr4 hb4
          go_upto_region 26 with (at_builtin; go_loud (refine wpList_appr rfl (.tmp 117) (.tmp 120) rfl w.heap.size _ A3 rfl HO4.out _ W4 rfl Hr4.out ?_ hz4 ?_); (omega); intro v5 w5 ho5 hold5 ha5)
          have HS5 := Lib.hid (HS4.out.app ho5 ha5)
          have HO5 := Lib.hid HS5.out.1
          have hz5 := HS5.out.2.2.size
          have hl5 : (A3 ++ W4).length ≤ 140737488355327 := by rw [List.length_append]; omega
          generalize hA5 : A3 ++ W4 = A5 at *
          have HA5 := Lib.hid hA5
          clear ho5 hold5 ha5 HS4 HO4 Hr4 hA5
          go_wp2_with (at_builtin; go_loud (refine wpList_appb rfl (.tmp 122) (.tmp 125) rfl w.heap.size _ A5 rfl HO5.out #[.int .u8 (every : Int)] 1 1 [UInt8.ofNat every] rfl Hby.out rfl (by decide) ?_ hz5 ?_); (simp only [List.length_cons, List.length_nil]; omega); intro v6 w6 ho6 ha6)
          have hS6 := HS5.out.app ho6 ha6
          go_ret
          exact ⟨_, rfl, by rw [hTail.out]; exact hS6.1.reads, hS6.2.2⟩
    case pos =>
      obtain ⟨b, off, hab, f0, f1⟩ := H.out.cells HS.out.2.2 k hlt
      have hxo := H.out.2 _ (List.getElem_mem hlt)
      obtain ⟨hxk, hxv⟩ := Hsz.out _ (List.getElem_mem hlt)
      have hpk := pAt_get hlt
      have hnk : shN every l k ≤ (l[k]).key.size := by have := shN_le every l k; rw [hpk] at this; exact this
      subst hab
      obtain ⟨ao5, n5, c5, hv5, _⟩ := HS.out.1.shape
      subst hv5
      have hn5 := HS.out.1.len
      subst hn5
      obtain ⟨tb, htb⟩ : ∃ tb : Bool, ((k : Int) % (every : Int) == 0) = tb := ⟨_, rfl⟩
      go_upto_if 21 with (fail)
      have Htb := Lib.hid htb
      clear htb
      go_cut [6, 8] from 22 to 38 (fun sv nn wx => nn = .int .i64 (shN every l k) ∧ RSt w sv (starts every l (k + 1)) (.slice ao5 (bodyB every l k).length c5) (bodyB every l k) wx)
      case first =>
        cases tb with
        | true =>
          have hm0 : k % every = 0 := by have := Htb.out; rw [beq_iff_eq] at this; omega
          have Hst := Lib.hid (starts_yes (l := l) hm0)
          have Hsh : Hid (shN every l k = 0) := Lib.hid (by unfold shN; rw [if_pos hm0])
          have HO := Lib.hid HS.out.2.1
          clear hm0 hnk
          go_wp2_with (at_builtin; go_loud (refine wpList_appN rfl (.tmp 22) (.tmp 25) 69 3 i0 (.int .i64 0) 1 8 Try.underlying69 Hi.out Hz0.out Hz3.out Hzb.out rfl (by decide) rfl w.heap.size u6 (starts every l k).length (ivsN (starts every l k)) rfl HO.out #[.int .i64 (bodyB every l k).length] 1 1 (by first | rfl | (simp; done) | (simp; rfl)) rfl (by intro u hu; simp at hu; subst hu; rfl) (by unfold maxLen; omega) (by omega) (by first | exact hzw | (simp; omega)) ?_); intro v2 w2' ho2 hold2 ha2)
          go_meet
          refine ⟨by rw [Hsh.out]; rfl, HS.out.appS ?_ ha2⟩
          rw [Hst.out, List.length_append, ivsN_append]
          exact ho2
        | false =>
          have hm0 : ¬ k % every = 0 := by have := Htb.out; rw [beq_eq_false_iff_ne] at this; omega
          have Hst := Lib.hid (starts_no (l := l) hm0)
          have hk0 : k ≠ 0 := fun e => hm0 (by rw [e, Nat.zero_mod])
          obtain ⟨j, rfl⟩ : ∃ j, k = j + 1 := ⟨k - 1, by omega⟩
          obtain ⟨b', off', hab, g0, _⟩ := H.out.cells HS.out.2.2 j (by omega)
          cases hab
          have hsh : shN every l (j + 1) = sharedB (l[j + 1]).key (l[j]'(by omega)).key := by
            unfold shN; rw [if_neg hm0, pAt_get hlt, Nat.add_sub_cancel, pAt_get (show j < l.length by omega)]
          have hsc := fun W => refshared_any (l[j + 1]).key (l[j]'(by omega)).key W hxo.1 (H.out.2 _ (List.getElem_mem (show j < l.length by omega))).1 (shN every l (j + 1) : Nat) (by rw [hsh])
          have Hsc := Lib.hid hsc
          have hw1 : IntKind.i64.wrap (((j + 1 : Nat) : Int) - 1) = (j : Int) := by rw [IntWalk.i64_in _ (by omega)]; omega
          have hw2 : IntKind.i64.wrap ((j : Int) + 1 - 1) = (j : Int) := by rw [IntWalk.i64_in _ (by omega)]; omega
          have hj0 : (0 : Int) ≤ (j : Int) := by omega
          have hj1 : (j : Int) < (l.length : Int) := by omega
          have hj2 : (j : Int) + 1 < (l.length : Int) := by omega
          have hj3 : (0 : Int) ≤ (j : Int) + 1 := by omega
          clear hm0 hk0 hsh hsc hnk hpk
          generalize (l[j + 1]) = x at f0 f1 Hsc hxo
          generalize (l[j]'(by omega)) = y at g0 Hsc
          have Bq := bnext_grow (Below.refl wr.heap.size wr)
          have s0 := cell_next f0
          have s1 := cell_next g0
          go_upto_region 9 with (fail)
          refine wp_region_quiet_below (by kernel_rfl) (by kernel_rfl) ?_; (repeat (go_big_quiet_step ((go_at_call 11; (with_reducible refine Calls.regrown_of (Hsc.out _)))))); refine wpQuiet_nil ?_; rintro _ ⟨pq, rfl⟩
          go_wp2
          go_meet
          refine ⟨rfl, ?_⟩
          rw [Hst.out]
          exact HS.out.below (Bq _ _)
      case rest =>
        obtain ⟨rfl, hst⟩ := hcut
        have HST := Lib.hid hst
        have HF : Hid (∀ W, Below w.heap.size w W → W.cell? ⟨b, off + k * 2, none⟩ = some (.string (l[k]).key) ∧ W.cell? ⟨b, off + k * 2 + 1, none⟩ = some (.string (l[k]).val)) := Lib.hid fun W hb => by
          obtain ⟨b', off', hab, q0, q1⟩ := H.out.cells hb k hlt
          cases hab
          exact ⟨q0, q1⟩
        have hbs := bodyB_succ every l k
        rw [hpk] at hbs
        have Hbs := Lib.hid hbs
        clear hbs hst HS f0 f1 hpk hxo
        generalize l[k] = x at *
        generalize shN every l k = n at *
        generalize hA : bodyB every l k = A at *
        have n1 := num_len9 (n := n) (by omega)
        have n2 := num_len9 (n := x.key.size - n) (by omega)
        have n3 := num_len9 (n := x.val.size) (by omega)
        have hnI : (n : Int) ≤ (x.key.size : Int) := by omega
        have R1 : Hid (∀ W, Calls Try.prog 36 #[.int .i64 n] W (NewB W (num n))) := Lib.hid fun W => refnumber n W (by omega)
        have R2 : Hid (∀ W, Calls Try.prog 36 #[.int .i64 ((x.key.size : Int) - (n : Int))] W (NewB W (num (x.key.size - n)))) := Lib.hid fun W => by
          have := refnumber (x.key.size - n) W (by omega)
          rw [show ((x.key.size - n : Nat) : Int) = (x.key.size : Int) - (n : Int) by omega] at this
          exact this
        have R3 : Hid (∀ W, Calls Try.prog 36 #[.int .i64 x.val.size] W (NewB W (num x.val.size))) := Lib.hid fun W => refnumber x.val.size W (by omega)
        generalize hst1 : starts every l (k + 1) = st at *
        have Hst1 := Lib.hid hst1
        have HA := Lib.hid hA
        clear hst1 hA
        -- the first number
        go_wp2_with fail; (with_reducible refine (R1.out _).mono ?_); rintro e w1 ⟨v1, rfl, ho1, hb1⟩
        have HS1 := Lib.hid (HST.out.below hb1)
        have HO1 := Lib.hid HS1.out.1
        have HR1 := Lib.hid ho1.reads
        have hz1 := HS1.out.2.2.size
        clear ho1 hb1 HST
        generalize hM : num n = M1 at *
        go_upto_region 11 with (at_builtin; go_loud (refine wpList_appr rfl (.tmp 39) (.tmp 41) rfl w.heap.size _ A rfl HO1.out _ M1 rfl HR1.out ?_ hz1 ?_); (omega); intro v2 w2 ho2 hold2 ha2)
        have HS2 := Lib.hid (HS1.out.app ho2 ha2)
        have B2 := HS2.out.2.2
        obtain ⟨f0, f1⟩ := HF.out _ B2
        obtain ⟨A2, hA2⟩ : ∃ A2, A ++ M1 = A2 := ⟨_, rfl⟩
        have hA2l : A2.length ≤ A.length + 9 := by rw [← hA2, List.length_append]; omega
        rw [hA2] at HS2
        have HA2 := Lib.hid hA2
        clear ho2 hold2 ha2 HS1 HO1 HR1 hA2
        -- the second
        go_wp2_with fail; (with_reducible refine (R2.out _).mono ?_); rintro e w3 ⟨v3, rfl, ho3, hb3⟩
        have HS3 := Lib.hid (HS2.out.below hb3)
        have HO3 := Lib.hid HS3.out.1
        have HR3 := Lib.hid ho3.reads
        have hz3 := HS3.out.2.2.size
        clear ho3 hb3 HS2 f0 f1
        generalize hM2 : num (x.key.size - n) = M2 at *
        go_upto_region 12 with (at_builtin; go_loud (refine wpList_appr rfl (.tmp 43) (.tmp 52) rfl w.heap.size _ A2 rfl HO3.out _ M2 rfl HR3.out ?_ hz3 ?_); (omega); intro v4 w4 ho4 hold4 ha4)
        have HS4 := Lib.hid (HS3.out.app ho4 ha4)
        obtain ⟨f0, f1⟩ := HF.out _ HS4.out.2.2
        obtain ⟨A4, hA4⟩ : ∃ A4, A2 ++ M2 = A4 := ⟨_, rfl⟩
        have hA4l : A4.length ≤ A.length + 18 := by rw [← hA4, List.length_append]; omega
        rw [hA4] at HS4
        have HA4 := Lib.hid hA4
        clear ho4 hold4 ha4 HS3 HO3 HR3 hA4
        -- the third
        go_wp2_with fail; (with_reducible refine (R3.out _).mono ?_); rintro e w5 ⟨v5, rfl, ho5, hb5⟩
        have HS5 := Lib.hid (HS4.out.below hb5)
        have HO5 := Lib.hid HS5.out.1
        have HR5 := Lib.hid ho5.reads
        have hz5 := HS5.out.2.2.size
        clear ho5 hb5 HS4 f0 f1
        generalize hM3 : num x.val.size = M3 at *
        go_upto_region 13 with (at_builtin; go_loud (refine wpList_appr rfl (.tmp 54) (.tmp 61) rfl w.heap.size _ A4 rfl HO5.out _ M3 rfl HR5.out ?_ hz5 ?_); (omega); intro v6 w6 ho6 hold6 ha6)
        have HS6 := Lib.hid (HS5.out.app ho6 ha6)
        obtain ⟨A6, hA6⟩ : ∃ A6, A4 ++ M3 = A6 := ⟨_, rfl⟩
        have hA6l : A6.length ≤ A.length + 27 := by rw [← hA6, List.length_append]; omega
        rw [hA6] at HS6
        have HA6 := Lib.hid hA6
        have hdk := dataLen x.key
        have hdv := dataLen x.val
        have Hdkv := Lib.hid (And.intro hdk hdv)
        clear ho6 hold6 ha6 HS5 HO5 HR5 hA6 hdk hdv
        go_wp2
        go_loopw [5, 9] (fun v i wx => ∃ j : Nat, n ≤ j ∧ j ≤ x.key.size ∧ i = .int .i64 j ∧ RSt w u6 st v (A6 ++ (x.key.data.toList.drop n).take (j - n)) wx) (fun _ i _ => x.key.size - (intOf i).toNat)
        case atStart => exact ⟨n, Nat.le_refl _, hnk, rfl, by rw [Nat.sub_self, List.take_zero, List.append_nil]; exact HS6.out⟩
        case round =>
          obtain ⟨j, hj1, hj2, rfl, hS7⟩ := hrel
          have HS7 := Lib.hid hS7
          have HO7 := Lib.hid hS7.1
          have hz7 := hS7.2.2.size
          obtain ⟨f0, f1⟩ := HF.out _ hS7.2.2
          clear hS7
          by_cases hjl : j < x.key.size
          · have Hn : Hid ((x.key.data.toList.drop n).take (j + 1 - n) = (x.key.data.toList.drop n).take (j - n) ++ [x.key[j]]) := Lib.hid (by
              rw [show j + 1 - n = (j - n) + 1 by omega, List.take_succ_eq_append_getElem (by rw [List.length_drop, Hdkv.out.1]; omega)]
              congr 2
              simp [show n + (j - n) = j by omega]
              rfl)
            have hl7 : (A6 ++ (x.key.data.toList.drop n).take (j - n)).length ≤ A.length + 27 + 1000000 := by
              rw [List.length_append, List.length_take, List.length_drop, Hdkv.out.1]; omega
            generalize hA7 : A6 ++ (x.key.data.toList.drop n).take (j - n) = A7 at *
            have HA7 := Lib.hid hA7
            clear hA7
            go_wp2_with (at_builtin; go_loud (refine wpList_appb rfl (.tmp 74) (.tmp 82) rfl w.heap.size _ A7 rfl HO7.out #[.int .u8 ((x.key[j]).toNat : Int)] 1 1 [x.key[j]] rfl rfl rfl (by decide) ?_ hz7 ?_); (simp only [List.length_cons, List.length_nil]; omega); intro v8 w8 ho8 ha8)
            go_roundw
            case rel => exact ⟨j + 1, by omega, by omega, by go_num, by rw [Hn.out, ← List.append_assoc, HA7.out]; exact HS7.out.app ho8 ha8⟩
            case measure => simp [intOf]; omega
          · obtain rfl : j = x.key.size := by omega
            have hfin : (x.key.data.toList.drop n).take (x.key.size - n) = x.key.data.toList.drop n := List.take_of_length_le (by rw [List.length_drop, Hdkv.out.1]; exact Nat.le_refl _)
            rw [hfin] at HS7
            have hK8 : (A6 ++ x.key.data.toList.drop n).length ≤ A.length + 27 + 1000000 := by
              rw [List.length_append, List.length_drop, Hdkv.out.1]; omega
            obtain ⟨A8, hA8⟩ : ∃ A8, A6 ++ x.key.data.toList.drop n = A8 := ⟨_, rfl⟩
            rw [hA8] at HS7 hK8
            have HA8 := Lib.hid hA8
            clear hfin hA8 HO7 hjl hj1 hj2
            go_wp2
            go_loopw [5, 10] (fun v i wx => ∃ j : Nat, j ≤ x.val.size ∧ i = .int .i64 j ∧ RSt w u6 st v (A8 ++ x.val.data.toList.take j) wx) (fun _ i _ => x.val.size - (intOf i).toNat)
            case atStart => exact ⟨0, Nat.zero_le _, rfl, by rw [List.take_zero, List.append_nil]; exact HS7.out⟩
            case round =>
              obtain ⟨j, hj2, rfl, hS9⟩ := hrel
              have HS9 := Lib.hid hS9
              have HO9 := Lib.hid hS9.1
              have hz9 := hS9.2.2.size
              clear f0 f1
              obtain ⟨f0, f1⟩ := HF.out _ hS9.2.2
              clear hS9
              by_cases hjl : j < x.val.size
              · have Hn : Hid (x.val.data.toList.take (j + 1) = x.val.data.toList.take j ++ [x.val[j]]) := Lib.hid (by
                  rw [List.take_succ_eq_append_getElem (by rw [Hdkv.out.2]; exact hjl)]; rfl)
                have hl9 : (A8 ++ x.val.data.toList.take j).length ≤ A.length + 27 + 2000000 := by
                  rw [List.length_append, List.length_take, Hdkv.out.2]; omega
                generalize hA9 : A8 ++ x.val.data.toList.take j = A9 at *
                have HA9 := Lib.hid hA9
                clear hA9
                go_wp2_with (at_builtin; go_loud (refine wpList_appb rfl (.tmp 94) (.tmp 102) rfl w.heap.size _ A9 rfl HO9.out #[.int .u8 ((x.val[j]).toNat : Int)] 1 1 [x.val[j]] rfl rfl rfl (by decide) ?_ hz9 ?_); (simp only [List.length_cons, List.length_nil]; omega); intro v8 w8 ho8 ha8)
                go_roundw
                case rel => exact ⟨j + 1, by omega, by go_num, by rw [Hn.out, ← List.append_assoc, HA9.out]; exact HS9.out.app ho8 ha8⟩
                case measure => simp [intOf]; omega
              · obtain rfl : j = x.val.size := by omega
                have hfin : x.val.data.toList.take x.val.size = x.val.data.toList := List.take_of_length_le (by rw [Hdkv.out.2]; exact Nat.le_refl _)
                rw [hfin] at HS9
                have Hall : Hid (bodyB every l (k + 1) = A8 ++ x.val.data.toList) := Lib.hid (by
                  rw [Hbs.out, ← HA8.out, ← HA6.out, ← HA4.out, ← HA2.out, ← hM, ← hM2, ← hM3]
                  unfold pairB
                  simp)
                clear hfin HO9
                go_wp2
                go_roundw
                case rel => exact ⟨k + 1, by omega, by go_num, by rw [Hst1.out, Hall.out]; exact HS9.out⟩
                case measure => simp [intOf]; omega
end Go.Proofs.Ytebnllpcagkkbaa
