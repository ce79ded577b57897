/- Chapter 11: the laws' helpers: awake, small, ref, same. -/
import Derived.Test.YtcbkjhbneigkaaaYMs
namespace Go.Proofs.Ytcbkjhbneigkaaa
open Go.RowKit
set_option linter.unusedVariables false
set_option linter.unusedSimpArgs false

theorem meH : Try.prog.stoodInHeld 36 = false := by kernel_rfl
theorem meF : Try.prog.underlying 36 = some (.struct (Try.prog.fieldsOf 36)) := by kernel_rfl
theorem meG : Try.prog.eqGuardType Try.prog.depth 36 = false := by kernel_rfl
theorem rkH : Try.prog.stoodInHeld 47 = false := by kernel_rfl
theorem rkF : Try.prog.underlying 47 = some (.struct (Try.prog.fieldsOf 47)) := by kernel_rfl
theorem rkG : Try.prog.eqGuardType Try.prog.depth 47 = false := by kernel_rfl
theorem eqRk (u : ByteArray) (s k : Int) (w : World) : (binOp .eql 47 (.agg #[.string u, .int .i64 s, .int .i64 k]) (.agg #[.string u, .int .i64 s, .int .i64 k])).run Try.prog w = .ok (.bool true) w := by
  rw [run_eql_struct, run_equalIn_agg w _ 47 _ _ rkF rkH]
  simp [Program.fieldsOf, Try.underlying47, go_sem]
theorem neRk (u : ByteArray) (s k : Int) (w : World) : (binOp .neq 47 (.agg #[.string u, .int .i64 s, .int .i64 k]) (.agg #[.string u, .int .i64 s, .int .i64 k])).run Try.prog w = .ok (.bool false) w := by
  rw [run_neq_struct, run_equalIn_agg w _ 47 _ _ rkF rkH]
  simp [Program.fieldsOf, Try.underlying47, go_sem]
theorem eqMe (u : ByteArray) (s k : Int) (v : ByteArray) (w : World) : (binOp .eql 36 (.agg #[.string u, .int .i64 s, .int .i64 k, .string v]) (.agg #[.string u, .int .i64 s, .int .i64 k, .string v])).run Try.prog w = .ok (.bool true) w := by
  rw [run_eql_struct, run_equalIn_agg w _ 36 _ _ meF meH]
  simp [Program.fieldsOf, Try.underlying36, Try.underlying34, go_sem, ksF, ksH]
  done
theorem neMe (u : ByteArray) (s k : Int) (v : ByteArray) (w : World) : (binOp .neq 36 (.agg #[.string u, .int .i64 s, .int .i64 k, .string v]) (.agg #[.string u, .int .i64 s, .int .i64 k, .string v])).run Try.prog w = .ok (.bool false) w := by
  rw [run_neq_struct, run_equalIn_agg w _ 36 _ _ meF meH]
  simp [Program.fieldsOf, Try.underlying36, Try.underlying34, go_sem, ksF, ksH]
theorem lref (u : ByteArray) (s k : Int) (w : World) :
    Calls Try.prog 18 #[.agg #[.string u, .int .i64 s, .int .i64 k]] w fun e w' => e = .returned (.agg #[.string u, .int .i64 s, .int .i64 k]) ∧ Below w.heap.size w w' := by
  go_enter Try.func18, Try.ntmps18
  go_wp2
  exact bodyPost_ret (v := .agg #[.string u, .int .i64 s, .int .i64 k]) (by simp [results, Try.results18, go_sem]) rfl ⟨rfl, by (repeat first | exact Below.refl _ _ | refine Below.drew ?_ | refine Below.alloc ?_ (by simp <;> omega) _ | refine Below.setCell ?_ (by simp <;> omega) _)⟩
set_option maxRecDepth 100000 in
set_option maxHeartbeats 2000000 in
theorem same_no {ao : Option Addr} {n c : Nat} (w : World) :
    Calls Try.prog 19 #[ent0, .bool false, .slice ao n c, .int .i64 (-1)] w fun e w' => e = .returned (.bool true) ∧ Below w.heap.size w w' := by
  have hq := fun W => eqMe ⟨#[]⟩ 0 0 ⟨#[]⟩ W
  unfold ent0
  go_enter Try.func19, Try.ntmps19
  go_wp2
  go_ret
  exact ⟨rfl, by (repeat first | exact Below.refl _ _ | refine Below.drew ?_ | refine Below.alloc ?_ (by simp <;> omega) _ | refine Below.setCell ?_ (by simp <;> omega) _)⟩
set_option maxRecDepth 100000 in
set_option maxHeartbeats 2000000 in
theorem same_in {w : World} {B : Nat} {ao : Option Addr} {c : Nat} {M : List ME} (h : MR w B (.slice ao M.length c) M) (hl : M.length ≤ 99999) (i : Nat) (hi : i < M.length) :
    Calls Try.prog 19 #[entV M[i], .bool true, .slice ao M.length c, .int .i64 (i : Nat)] w fun e w' => e = .returned (.bool true) ∧ Below w.heap.size w w' := by
  obtain ⟨g, rfl, d0, d1, d2, d3⟩ := h.cells (Below.refl _ _) i hi
  have hn1 : decide ((i : Int) < 0) = false := decide_eq_false (by omega)
  clear h
  unfold entV
  generalize M[i] = E at *
  obtain ⟨Eu, Es, Ek, Ev⟩ := E
  simp only at d0 d1 d2 d3 ⊢
  have hq := fun W => eqRk Eu Es Ek W
  have hq2 := str_eq (rfl : Ev = Ev)
  have HL := Lib.hid fun W => lref Eu Es Ek W
  go_enter Try.func19, Try.ntmps19
  go_upto_region 3 with (fail)
  refine gen_wp (fun w' => Below w.heap.size w w' ∧ w'.heap[w.heap.size]? = some (.cells #[.string Eu, .int .i64 Es, .int .i64 Ek, .string Ev] 36 (0, 0))) ⟨(Below.refl _ w).alloc (Nat.le_refl _) _, heap_alloc_new w _⟩ ?_
  rintro w1 ⟨hb1, b1⟩
  obtain ⟨x0, x1, x2, x3, _⟩ := mcell_four b1
  have s0 := cell_next x0
  have s1 := cell_next x1
  have s2 := cell_next x2
  have s3 := cell_next x3
  have t0 := cell_next (cell_next d0 w1 hb1)
  have t1 := cell_next (cell_next d1 w1 hb1)
  have t2 := cell_next (cell_next d2 w1 hb1)
  have t3 := cell_next (cell_next d3 w1 hb1)
  have Bg := bnext_grow (Below.refl w1.heap.size w1)
  clear d0 d1 d2 d3 x0 x1 x2 x3 b1
  refine wp_region_quiet_below (by kernel_rfl) (by kernel_rfl) ?_; (repeat (go_big_quiet_step ((go_at_call 18; (with_reducible refine Calls.regrown_of (HL.out _)))))); refine wpQuiet_nil ?_; rintro _ ⟨pq, rfl⟩
  go_wp2
  go_ret
  exact ⟨rfl, hb1.trans ((Bg _ _).mono hb1.size)⟩
theorem same_got {w : World} {B : Nat} {ao : Option Addr} {c : Nat} {M : List ME} (h : MR w B (.slice ao M.length c) M) (hl : M.length ≤ 99999) (u : ByteArray) (at' : Int) :
    Calls Try.prog 19 #[mgot M u at', .bool (mgotB M u at'), .slice ao M.length c, .int .i64 (mgetI M u at')] w fun e w' => e = .returned (.bool true) ∧ Below w.heap.size w w' := by
  unfold mgot mgotB mgetI
  by_cases hc : mget u at' M < M.length
  · rw [dif_pos hc, decide_eq_true hc, if_pos hc]; exact same_in h hl _ hc
  · rw [dif_neg hc, decide_eq_false hc, if_neg hc]; exact same_no w
/-- batches that are given -/
structure BatD where
  q : Int
  a : Option Addr
  L : List OpD
  cap : Nat
def BTs (w : World) (a : Option Addr) (l : List BatD) : Prop :=
  (0 < l.length → ∃ b off, a = some ⟨b, off, none⟩ ∧ ∀ i (h : i < l.length), w.cell? ⟨b, off + i * 2, none⟩ = some (.int .i64 l[i].q) ∧ w.cell? ⟨b, off + i * 2 + 1, none⟩ = some (.slice l[i].a l[i].L.length l[i].cap)) ∧ ∀ x ∈ l, OPs w x.a x.L ∧ x.L.length ≤ maxLen ∧ -9223372036854775808 ≤ x.q ∧ x.q ≤ 9223372036854775807
theorem BTs.below {w w' : World} {a : Option Addr} {l : List BatD} (h : BTs w a l) (hb : Below w.heap.size w w') : BTs w' a l := by
  refine ⟨fun hl => ?_, fun x hx => ⟨(h.2 x hx).1.below hb, (h.2 x hx).2⟩⟩
  obtain ⟨b, off, rfl, hc⟩ := h.1 hl
  exact ⟨b, off, rfl, fun i hi => ⟨cell_next (hc i hi).1 _ hb, cell_next (hc i hi).2 _ hb⟩⟩
theorem BTs.cells {w wr : World} {a : Option Addr} {l : List BatD} (h : BTs w a l) (hb : Below w.heap.size w wr) (k : Nat) (hk : k < l.length) :
    ∃ b off, a = some ⟨b, off, none⟩ ∧ wr.cell? ⟨b, off + k * 2, none⟩ = some (.int .i64 l[k].q) ∧ wr.cell? ⟨b, off + k * 2 + 1, none⟩ = some (.slice l[k].a l[k].L.length l[k].cap) ∧ OPs wr l[k].a l[k].L ∧ l[k].L.length ≤ maxLen := by
  obtain ⟨b, off, rfl, hc⟩ := h.1 (by omega)
  obtain ⟨h1, h2, _⟩ := h.2 _ (List.getElem_mem hk)
  exact ⟨b, off, rfl, cell_next (hc k hk).1 _ hb, cell_next (hc k hk).2 _ hb, h1.below hb, h2⟩
def opSm (o : OpD) : Bool := decide (o.key.size ≤ 200 ∧ o.val.size ≤ 5000)
def batSm (b : BatD) : Bool := decide (b.L.length ≤ 70) && b.L.all opSm
def small11 (l : List BatD) : Bool := l.all batSm && decide (l.length ≤ 30)
theorem small11_all {l : List BatD} (h : small11 l = true) : l.length ≤ 30 ∧ ∀ b ∈ l, b.L.length ≤ 70 := by
  unfold small11 at h
  rw [Bool.and_eq_true, List.all_eq_true, decide_eq_true_eq] at h
  refine ⟨h.2, fun b hb => ?_⟩
  have := h.1 b hb
  unfold batSm at this
  rw [Bool.and_eq_true, decide_eq_true_eq] at this
  exact this.1
set_option maxRecDepth 100000 in
set_option maxHeartbeats 4000000 in
theorem msmall {w : World} {a : Option Addr} {c : Nat} {l : List BatD} (h : BTs w a l) (hl : l.length ≤ maxLen) :
    Calls Try.prog 12 #[.slice a l.length c] w fun e w' => e = .returned (.bool (small11 l)) ∧ Below w.heap.size w w' := by
  unfold maxLen at hl
  have H := Lib.hid h
  clear h
  go_enter Try.func12, Try.ntmps12
  go_wp2
  go_loopw [9] (fun i wr => ∃ k : Nat, k ≤ l.length ∧ i = .int .i64 k ∧ (∀ j (hj : j < l.length), j < k → batSm l[j] = true) ∧ Below w.heap.size w wr) (fun i _ => l.length - (intOf i).toNat)
  case atStart => exact ⟨0, Nat.zero_le _, rfl, fun j _ h => by omega, Below.refl _ _⟩
  case round =>
    obtain ⟨k, hk, rfl, hall, hbr⟩ := hrel
    have Hall := Lib.hid hall
    have HBr := Lib.hid hbr
    clear hall
    by_cases hlt : k < l.length
    · obtain ⟨b, off, rfl, d0, d1, ho, hm⟩ := H.out.cells hbr k hlt
      unfold maxLen at hm
      have HNo : Hid (batSm l[k] = false → small11 l = false) := Lib.hid fun e => by
        unfold small11
        rw [Bool.and_eq_false_iff]; left
        rw [List.all_eq_false]
        exact ⟨_, List.getElem_mem hlt, by rw [e]; simp⟩
      have HYes : Hid (batSm l[k] = true → ∀ j (hj : j < l.length), j < k + 1 → batSm l[j] = true) := Lib.hid fun e j hj hjk => by
        rcases Nat.lt_or_ge j k with h2 | h2
        · exact Hall.out j hj h2
        · obtain rfl : j = k := by omega
          exact e
      have HOp := Lib.hid ho
      clear hbr ho
      generalize l[k] = x at *
      obtain ⟨xq, xa, xL, xc⟩ := x
      simp only at d0 d1 hm HOp
      by_cases h70 : xL.length ≤ 70
      · go_upto_region 4 with (fail)
        refine gen_wp (fun w' => Below wr.heap.size wr w' ∧ w'.heap[wr.heap.size]? = some (.cells #[.int .i64 xq, .slice xa xL.length xc] 32 (0, 0))) ⟨(Below.refl _ wr).alloc (Nat.le_refl _) _, heap_alloc_new wr _⟩ ?_
        rintro w2 ⟨hb2, b2⟩
        obtain ⟨e0, e1, _⟩ := cell_two b2
        have HB2 := Lib.hid (HBr.out.trans (hb2.mono HBr.out.size))
        have HO2 := Lib.hid (HOp.out.below hb2)
        clear hb2 b2 d0 d1
        go_wp2
        go_loopw [20] (fun i wx => ∃ j : Nat, j ≤ xL.length ∧ i = .int .i64 j ∧ (∀ m (hm : m < xL.length), m < j → opSm xL[m] = true) ∧ Below w2.heap.size w2 wx) (fun i _ => xL.length - (intOf i).toNat)
        case atStart => exact ⟨0, Nat.zero_le _, rfl, fun j _ h => by omega, Below.refl _ _⟩
        case round =>
          obtain ⟨j, hj, rfl, hal2, hbx⟩ := hrel
          have Hal2 := Lib.hid hal2
          have HBx := Lib.hid hbx
          clear hal2
          by_cases hlj : j < xL.length
          · obtain ⟨b3, off3, rfl, f0, f1, f2⟩ := HO2.out.cells hbx j hlj
            obtain ⟨_, _, q3, q4⟩ := HO2.out.2 _ (List.getElem_mem hlj)
            unfold maxLen at q3 q4
            by_cases h5 : (xL[j]).key.size ≤ 200 ∧ (xL[j]).val.size ≤ 5000
            · have Hx : Hid (∀ m (hm : m < xL.length), m < j + 1 → opSm xL[m] = true) := Lib.hid fun m hm hjk => by
                rcases Nat.lt_or_ge m j with h2 | h2
                · exact Hal2.out m hm h2
                · obtain rfl : m = j := by omega
                  exact decide_eq_true h5
              obtain ⟨h5, h6⟩ := h5
              generalize xL[j] = y at *
              clear hbx
              go_wp2
              go_roundw
              case rel => exact ⟨j + 1, by omega, by go_num, Hx.out, HBx.out.alloc HBx.out.size _⟩
              case measure => simp [intOf]; omega
            · have Hx : Hid (small11 l = false) := Lib.hid (HNo.out (by
                unfold batSm
                rw [Bool.and_eq_false_iff]; right
                rw [List.all_eq_false]
                exact ⟨_, List.getElem_mem hlj, by unfold opSm; rw [decide_eq_false h5]; simp⟩))
              have h6 : 200 < (xL[j]).key.size ∨ ((xL[j]).key.size ≤ 200 ∧ 5000 < (xL[j]).val.size) := by omega
              generalize xL[j] = y at *
              clear h5 hbx
              rcases h6 with h6 | ⟨h6, h7⟩
              all_goals
                go_wp2
                go_ret
                exact ⟨by rw [Hx.out]; rfl, HB2.out.trans ((HBx.out.alloc HBx.out.size _).mono HB2.out.size)⟩
          · have Hy := Lib.hid (HYes.out (by
              unfold batSm
              rw [Bool.and_eq_true, List.all_eq_true]
              refine ⟨decide_eq_true h70, fun y hy => ?_⟩
              obtain ⟨m, hm, rfl⟩ := List.getElem_of_mem hy
              have hm2 : m < xL.length := hm
              exact Hal2.out m hm (by omega)))
            clear hbx
            go_wp2
            go_roundw
            case rel => exact ⟨k + 1, by omega, by go_num, Hy.out, HB2.out.trans (HBx.out.mono HB2.out.size)⟩
            case measure => simp [intOf]; omega
      · have Hx : Hid (small11 l = false) := Lib.hid (HNo.out (by
          unfold batSm
          rw [Bool.and_eq_false_iff]; left
          exact decide_eq_false h70))
        go_wp2
        go_ret
        exact ⟨by rw [Hx.out]; rfl, HBr.out.alloc HBr.out.size _⟩
    · have Hx : Hid (small11 l = decide ((l.length : Int) ≤ 30)) := Lib.hid (by
        unfold small11
        have h1 : l.all batSm = true := by
          rw [List.all_eq_true]
          intro x hx
          obtain ⟨j, hj, rfl⟩ := List.getElem_of_mem hx
          exact Hall.out j hj (by omega)
        rw [h1, Bool.true_and]
        exact decide_eq_decide.2 (by omega))
      go_wp2
      go_ret
      exact ⟨by rw [Hx.out]; rfl, HBr.out⟩
end Go.Proofs.Ytcbkjhbneigkaaa
