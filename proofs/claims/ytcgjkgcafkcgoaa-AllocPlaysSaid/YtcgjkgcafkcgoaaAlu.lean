/- alloc.Table: Own, Rebuild; what a device does beside it. -/
import Derived.Test.YtcgjkgcafkcgoaaAls
namespace Go.Proofs.Ytcgjkgcafkcgoaa
open Go.RowKit
set_option linter.unusedVariables false
set_option linter.unusedSimpArgs false

section
variable {w : World} {B p d : Nat} {H : Nat → Prop} {R Q : List Int} {D : Dv}
theorem AT.ok (h : AT w B p d H R Q D) : DvOk D := by
  obtain ⟨g, v, G, hT, hD, ha, hH⟩ := h
  exact hD.ok
theorem AT.lenA (h : AT w B p d H R Q D) : D.A.length = D.n := by
  obtain ⟨g, v, G, hT, hD, ha, hH⟩ := h
  exact hD.lenA
theorem AT.state (h : AT w B p d H R Q D) (z : Int) : Calls Try.prog 21 #[.pointer (some ⟨d, 0, none⟩), .int .i64 z] w fun e w' => e = .returned (.int .i64 (zst D z)) ∧ w = w' := by
  obtain ⟨g, v, G, hT, hD, ha, hH⟩ := h
  exact hD.state z
theorem AT.append (h : AT w B p d H R Q D) (hdn : D.done < 4611686018427387904) (z : Int) {m : List UInt8} {ao : Option Addr} {n c : Nat} (hr : RB w (.slice ao n c) m) (hml : m.length ≤ 1000000) :
    Calls Try.prog 19 #[.pointer (some ⟨d, 0, none⟩), .int .i64 z, .slice ao n c] w fun e w' => e = .returned (.int .i64 (zapp D z m).2) ∧ AOut w B p d H R Q (zapp D z m).1 w' := by
  obtain ⟨g, v, G, hT, hD, ha, hH⟩ := h
  refine (hD.append (D' := (zapp D z m).1) (er := (zapp D z m).2) hdn z hr hml rfl).mono ?_
  rintro e w' ⟨rfl, h2⟩
  exact ⟨rfl, AT.dev hT hD ha hH h2⟩
theorem AT.list (h : AT w B p d H R Q D) (r : Int) : Calls Try.prog 22 #[.pointer (some ⟨p, 0, none⟩), .int .i64 r] w fun e W' => ∃ u, e = .returned u ∧ W'.ownsRow w.heap.size 3 1 u (places R r R.length).length (nvs (places R r R.length)) ∧ Below w.heap.size w W' := by
  obtain ⟨g, v, G, hT, hD, ha, hH⟩ := h
  exact list_any hT.tb r
end
set_option maxHeartbeats 2000000 in
theorem AT.own_no {w : World} {B p d : Nat} {H : Nat → Prop} {R Q : List Int} {D : Dv} (h : AT w B p d H R Q D) (z r : Int) (hz : ¬ (roleAt R z = 0 ∧ 1 ≤ r ∧ r ≤ 5)) :
    Calls Try.prog 10 #[.pointer (some ⟨p, 0, none⟩), .int .i64 z, .int .i64 r] w fun e w' => ∃ er, e = .returned (.int .i64 er) ∧ (er == 0) = false ∧ w = w' := by
  have Hr := Lib.hid (h.role z)
  clear h
  generalize roleAt R z = y at *
  by_cases h1 : y = -1
  · subst h1
    go_enter Try.func10, Try.ntmps10
    go_wp2_with fail; (with_reducible refine (Hr.out).mono ?_); rintro e w ⟨rfl, rfl⟩
    go_wp2
    go_ret
    exact ⟨_, rfl, rfl, rfl⟩
  · have h1' : (y == -1) = false := by rw [beq_eq_false_iff_ne]; exact h1
    by_cases hu : 1 ≤ r ∧ r ≤ 5
    · have Hu := Lib.hid (used_any r w true (decide_eq_true hu))
      have h2' : (y == 0) = false := by rw [beq_eq_false_iff_ne]; intro e; exact hz ⟨e, hu.1, hu.2⟩
      have h3' : (y != 0) = true := by rw [bne, h2']; rfl
      clear h1 hz hu
      go_enter Try.func10, Try.ntmps10
      go_wp2_with fail; (with_reducible refine (Hr.out).mono ?_); rintro e w ⟨rfl, rfl⟩
      go_wp2_with fail; (with_reducible refine (Hu.out).mono ?_); rintro e w ⟨rfl, rfl⟩
      go_wp2
      go_ret
      exact ⟨_, rfl, rfl, rfl⟩
    · have Hu := Lib.hid (used_any r w false (decide_eq_false hu))
      clear h1 hz hu
      go_enter Try.func10, Try.ntmps10
      go_wp2_with fail; (with_reducible refine (Hr.out).mono ?_); rintro e w ⟨rfl, rfl⟩
      go_wp2_with fail; (with_reducible refine (Hu.out).mono ?_); rintro e w ⟨rfl, rfl⟩
      go_wp2
      go_ret
      exact ⟨_, rfl, rfl, rfl⟩
set_option maxHeartbeats 2000000 in
theorem AT.own {w : World} {B p d : Nat} {H : Nat → Prop} {R Q : List Int} {D : Dv} (h : AT w B p d H R Q D) (n : Nat) (r : Int) (hn : n < R.length) (h0 : R[n] = 0) (hu : 1 ≤ r ∧ r ≤ 5) :
    Calls Try.prog 10 #[.pointer (some ⟨p, 0, none⟩), .int .i64 n, .int .i64 r] w fun e w' => e = .returned (.int .i64 0) ∧ AOut w B p d H (R.set n r) Q D w' := by
  have Hr := Lib.hid (h.role n)
  rw [roleAt_in hn, h0] at Hr
  have Hu := Lib.hid (used_any r w true (decide_eq_true hu))
  obtain ⟨g, v, G, hT, hD, ha, hH⟩ := h
  have hl := hT.tb.2.2.2
  obtain ⟨k0, k1, f0, f1⟩ := cell_pair hT.tb.1
  have hc := hT.tb.cell n hn
  have hf := hT.tb.fz n
  have HO : Hid (AOut w B p d H (R.set n r) Q D (w.setCell ⟨g, n, none⟩ (.int .i64 r))) := Lib.hid (AT.tab hT hD ha hH (hT.set n r) ((Chg.set w g n _).mono fun k e => .inr (.inl e)) fun k hk => .inl hk)
  clear hT hD ha hH hu h0
  go_enter Try.func10, Try.ntmps10
  go_wp2_with fail; (with_reducible refine (Hr.out).mono ?_); rintro e w ⟨rfl, rfl⟩
  go_wp2_with fail; (with_reducible refine (Hu.out).mono ?_); rintro e w ⟨rfl, rfl⟩
  go_wp2
  go_ret
  exact ⟨rfl, HO.out⟩
/-- those whose zones are not empty -/
def rbl (D : Dv) (L : List Nat) : List Nat := L.filter fun (z : Nat) => decide (0 < zst D z)
def setAll (R : List Int) (L : List Nat) : List Int := L.foldl (fun R z => R.set z 6) R
theorem setAll_len (L : List Nat) : ∀ R, (setAll R L).length = R.length := by
  unfold setAll
  induction L with
  | nil => intro R; rfl
  | cons z L ih => intro R; rw [List.foldl_cons, ih, List.length_set]
theorem setAll_snoc (R : List Int) (L : List Nat) (z : Nat) : setAll R (L ++ [z]) = (setAll R L).set z 6 := by
  unfold setAll; rw [List.foldl_append]; rfl
theorem setAll_at (L : List Nat) : ∀ (R : List Int) (i : Nat) (h : i < (setAll R L).length) (h2 : i < R.length), (setAll R L)[i] = if i ∈ L then 6 else R[i] := by
  induction L with
  | nil => intro R i h h2; simp [setAll]
  | cons z L ih =>
    intro R i h h2
    have e : setAll R (z :: L) = setAll (R.set z 6) L := rfl
    simp only [e]
    rw [ih (R.set z 6) i (by rw [setAll_len, List.length_set]; exact h2) (by rw [List.length_set]; exact h2), List.getElem_set]
    by_cases h3 : i ∈ L
    · rw [if_pos h3, if_pos (List.mem_cons_of_mem _ h3)]
    · rw [if_neg h3]
      by_cases h4 : z = i
      · subst h4; rw [if_pos rfl, if_pos List.mem_cons_self]
      · rw [if_neg h4, if_neg (by simp; exact ⟨fun e => h4 e.symm, h3⟩)]
theorem rbl_snoc (D : Dv) (L : List Nat) (z : Nat) : rbl D (L ++ [z]) = if 0 < zst D z then rbl D L ++ [z] else rbl D L := by
  unfold rbl
  rw [List.filter_append]
  by_cases h : 0 < zst D z
  · rw [if_pos h]; simp [h]
  · rw [if_neg h]; simp [h]
/-- one more in the queue -/
theorem TQ.app {w1 w2 : World} {B p g : Nat} {R : List Int} {v v2 : Value} {Q : List Int} {n : Nat} (hT : TQ w1 B p g R v Q) (ho2 : w2.ownsRow B 3 1 v2 (Q.length + 1) (ivs Q ++ [.int .i64 n])) (hold : w2.ownsRow B 3 1 v Q.length (ivs Q)) (ha2 : App w1 w2 v v2) :
    (∃ a2 c2, v2 = .slice a2 (Q.length + 1) c2) ∧ TQ w2 B p g R v Q ∧ TQ (w2.setCell ⟨p, 1, none⟩ v2) B p g R v2 (Q ++ [(n : Int)]) ∧ Chg (fpT p g v) w1 (w2.setCell ⟨p, 1, none⟩ v2) ∧ ∀ k, v2.ownBlock = some k → v.ownBlock = some k ∨ w1.heap.size ≤ k := by
  have hca := Chg.of_app ha2
  have hT2 : TQ w2 B p g R v Q := by
    have hne : ∀ k, k = p ∨ k = g → ¬ v.ownBlock = some k := by
      rintro k (rfl | rfl) e
      · exact hT.vp e
      · exact hT.vg e
    refine ⟨⟨blk_chg hT.tb.1 hca (hne p (.inl rfl)), row_same hT.tb.2.1 fun k hk => ?_, hT.tb.2.2.1, hT.tb.2.2.2⟩, hold, hT.vp, hT.vg⟩
    have e : g = k := by simpa [Value.ownBlock] using hk
    subst e
    exact hca.block g hT.tb.glt.2 (hne g (.inr rfl))
  have e2 : ivs Q ++ [.int .i64 n] = ivs (Q ++ [(n : Int)]) := by rw [ivs_append]; rfl
  have hl2 : (Q ++ [(n : Int)]).length = Q.length + 1 := by simp
  have hlies : ∀ k, v2.ownBlock = some k → v.ownBlock = some k ∨ w1.heap.size ≤ k := fun k hk => by
    rcases ha2.lies with e | ⟨q, e, hq⟩
    · exact .inl (by rw [← e]; exact hk)
    · rw [e] at hk; cases hk; exact .inr hq
  have h3 := hT2.putQ (Q1 := Q ++ [(n : Int)]) (v1 := v2) (by rw [← e2, hl2]; exact ho2) (fun k hk => by
    rcases hlies k hk with h | h
    · exact .inl h
    · exact .inr fun hf => by have := (hT.lt k hf).2; omega)
  obtain ⟨a2, c2, rfl, _⟩ := row_shape ho2
  exact ⟨⟨a2, c2, rfl⟩, hT2, h3, (hca.mono fun i e => .inr (.inr e)).trans2 (Chg.set w2 p 1 _) fun i _ e => .inl e, hlies⟩
theorem places_lt {R : List Int} {v : Int} : ∀ z ∈ places R v R.length, z < R.length := fun z hz => by
  have := (List.mem_filter.1 hz).1
  exact List.mem_range.1 this
theorem places_mem {R : List Int} {v : Int} {z : Nat} : z ∈ places R v R.length ↔ ∃ h : z < R.length, R[z] = v := by
  unfold places
  rw [List.mem_filter, List.mem_range]
  constructor
  · rintro ⟨h1, h2⟩
    refine ⟨h1, ?_⟩
    rw [getD_at h1] at h2
    exact beq_iff_eq.1 h2
  · rintro ⟨h1, h2⟩
    exact ⟨h1, by rw [getD_at h1]; exact beq_iff_eq.2 h2⟩
set_option maxRecDepth 100000 in
set_option maxHeartbeats 4000000 in
theorem AT.rebuild {w : World} {B p d : Nat} {H : Nat → Prop} {R Q : List Int} {D : Dv} (h : AT w B p d H R Q D) (hq : Q.length ≤ 5000) :
    Calls Try.prog 20 #[.pointer (some ⟨p, 0, none⟩), .pointer (some ⟨d, 0, none⟩)] w fun e w' => e = .returned (.int .i64 ((rbl D (places R 0 R.length)).length : Nat)) ∧ AOut w B p d H (setAll R (rbl D (places R 0 R.length))) (Q ++ (rbl D (places R 0 R.length)).map fun (z : Nat) => (z : Int)) D w' := by
  have hli := h.list 0
  have hrl := h.rl
  have hple := places_le R 0 R.length
  have hplt : ∀ z ∈ places R 0 R.length, z < R.length := places_lt
  obtain ⟨g, v, G, hT, hD, ha, hH⟩ := h
  have Hli := Lib.hid hli
  have HT := Lib.hid hT
  have HD := Lib.hid hD
  have HA := Lib.hid ha
  have HH := Lib.hid hH
  have HPL := Lib.hid hplt
  generalize places R 0 R.length = L at *
  have hL64 : L.length ≤ 64 := by omega
  obtain ⟨i0, hi, hz0, hz1, hz2⟩ := info_parts infoInt
  have Hi := Lib.hid hi
  have Hz0 := Lib.hid hz0
  have Hz3 := Lib.hid hz1
  have Hzb := Lib.hid hz2
  clear hT hD ha hH hi hz0 hz1 hz2 hli hplt hple
  go_enter Try.func20, Try.ntmps20
  go_wp2_with fail; (with_reducible refine (Hli.out).mono ?_); rintro e w2 ⟨u, rfl, hru, hb2⟩
  obtain ⟨ua, uc, rfl, _, _, hus⟩ := row_shape hru
  have HU := Lib.hid hru
  have HUS := Lib.hid hus
  have HB2 := Lib.hid hb2
  clear hru hus hb2 Hli
  go_wp2
  go_loopw [5, 11] (fun c i wr => ∃ (k : Nat) (v' : Value), k ≤ L.length ∧ i = .int .i64 k ∧ c = .int .i64 ((rbl D (L.take k)).length : Nat) ∧ wr.ownsRow w.heap.size 3 1 (.slice ua L.length uc) L.length (nvs L) ∧ TQ wr B p g (setAll R (rbl D (L.take k))) v' (Q ++ (rbl D (L.take k)).map fun (z : Nat) => (z : Int)) ∧ (∀ x, v'.ownBlock = some x → v.ownBlock = some x ∨ w.heap.size ≤ x) ∧ (∀ x, v'.ownBlock = some x → (Value.slice ua L.length uc).ownBlock ≠ some x ∧ ¬ G x) ∧ DI wr B d G D ∧ Chg (fpT p g v) w wr) (fun _ i _ => L.length - (intOf i).toNat)
  case atStart => exact ⟨0, v, Nat.zero_le _, rfl, rfl, HU.out, by simpa [rbl, setAll] using HT.out.chg (G := fun _ => False) (Chg.of_below HB2.out) (fun _ _ h => h), fun x hx => .inl hx, fun x hx => ⟨fun e => by have := (World.ownsRow.lt HU.out x e).1; have := (HT.out.lt x (.inr (.inr hx))).2; omega, HA.out x (.inr (.inr hx))⟩, HD.out.below HB2.out, Chg.of_below HB2.out⟩
  case round =>
    obtain ⟨k, v', hk, rfl, rfl, hrow, hT', hv1, hv2, hD', hch⟩ := hrel
    have HR := Lib.hid hrow
    have HT' := Lib.hid hT'
    have HV1 := Lib.hid hv1
    have HV2 := Lib.hid hv2
    have HD' := Lib.hid hD'
    have HC := Lib.hid hch
    have hfl : (rbl D (L.take k)).length ≤ 64 := by
      have := List.length_filter_le (fun (z : Nat) => decide (0 < zst D z)) (L.take k)
      have h2 : (L.take k).length ≤ L.length := by rw [List.length_take]; omega
      unfold rbl; omega
    clear hrow hT' hv1 hv2 hD' hch
    by_cases hlt : k < L.length
    · have hf0 : ∃ x, ua = some ⟨x, 0, none⟩ ∧ wr.cell? ⟨x, k, none⟩ = some (.int .i64 (L[k] : Nat)) := by
        rcases HR.out.2 with ⟨e1, _⟩ | ⟨x, cap, cur, e1, _⟩
        · simp only [Value.slice.injEq] at e1; have := e1.2.1; omega
        · simp only [Value.slice.injEq] at e1
          obtain ⟨rfl, _, rfl⟩ := e1
          refine ⟨x, rfl, ?_⟩
          rw [World.ownsRow.cellAt HR.out k (by omega)]
          simp [nvs, hlt]
      obtain ⟨x, rfl, f0⟩ := hf0
      have hz := HPL.out _ (List.getElem_mem hlt)
      have htk : L.take (k + 1) = L.take k ++ [L[k]] := List.take_succ_eq_append_getElem hlt
      have hsn := rbl_snoc D (L.take k) L[k]
      rw [← htk] at hsn
      have Hst := Lib.hid (HD'.out.state (L[k] : Nat))
      have Hsn := Lib.hid hsn
      clear hsn htk
      generalize L[k] = z at *
      by_cases hp : 0 < zst D z
      · have e1 := Hsn.out
        rw [if_pos hp] at e1
        have E1 := Lib.hid e1
        obtain ⟨k0, k1, q0, q1⟩ := cell_pair HT'.out.tb.1
        have hzl : z < (setAll R (rbl D (L.take k))).length := by rw [setAll_len]; exact hz
        have hc := HT'.out.tb.cell z hzl
        have hf := HT'.out.tb.fz z
        have HX0 : Hid (setAll R (rbl D (L.take (k + 1))) = (setAll R (rbl D (L.take k))).set z 6 ∧ (Q ++ (rbl D (L.take (k + 1))).map fun (z : Nat) => (z : Int)) = (Q ++ (rbl D (L.take k)).map fun (z : Nat) => (z : Int)) ++ [(z : Int)] ∧ (rbl D (L.take (k + 1))).length = (rbl D (L.take k)).length + 1) := Lib.hid (by
          rw [e1, setAll_snoc]
          refine ⟨rfl, by simp, by simp⟩)
        have hql : (Q ++ (rbl D (L.take k)).map fun (z : Nat) => (z : Int)).length ≤ 6000 := by simp; omega
        have hrl2 : (setAll R (rbl D (L.take k))).length ≤ 64 := by rw [setAll_len]; exact hrl
        clear e1 hz Hsn E1
        generalize (rbl D (L.take k)).length = cn at *
        generalize setAll R (rbl D (L.take k)) = R1 at *
        generalize (Q ++ (rbl D (L.take k)).map fun (z : Nat) => (z : Int)) = Q1 at *
        generalize zst D z = s at *
        go_wp2_with fail; (with_reducible refine (Hst.out).mono ?_); rintro e wr ⟨rfl, rfl⟩
        go_upto_region 7 with (fail)
        refine gen_wp (fun w' => w' = wr.setCell ⟨g, z, none⟩ (.int .i64 6)) rfl ?_
        rintro w4 hw4
        have hT4 : TQ w4 B p g (R1.set z 6) v' Q1 := by rw [hw4]; exact HT'.out.set z 6
        have hc4 : Chg (fun k => k = g) wr w4 := by rw [hw4]; exact Chg.set wr g z _
        clear hw4 k0 k1 q0 q1 hc hf f0
        obtain ⟨k0, k1, q0, q1⟩ := cell_pair hT4.tb.1
        have HT4 := Lib.hid hT4
        have HC4 := Lib.hid hc4
        have hbz : B ≤ w4.heap.size := by have := (hT4.lt p (.inl rfl)); omega
        clear hT4 hc4
        obtain ⟨av, cv, rfl, _⟩ := row_shape HT4.out.q
        go_wp2_with (at_builtin; go_loud (refine wpList_appN rfl (.tmp 29) (.tmp 31) 22 3 i0 (.int .i64 0) 1 8 Try.underlying22 Hi.out Hz0.out Hz3.out Hzb.out rfl (by decide) rfl B _ Q1.length (ivs Q1) rfl HT4.out.q #[.int .i64 z] 1 1 (by first | rfl | (simp; done) | (simp; rfl)) rfl (by intro u hu; simp at hu; subst hu; rfl) (by unfold maxLen; omega) (by omega) (by first | exact hbz | (simp; omega)) ?_); intro v2 w5 ho5 hold5 ha5; have hx := TQ.app HT4.out ho5 hold5 ha5; obtain ⟨⟨a2, c2, rfl⟩, hT5, hT6, hc6, hl6⟩ := hx; obtain ⟨m0, m1, n0, n1⟩ := cell_pair hT5.tb.1; have HT6 := Lib.hid hT6; have HC6 := Lib.hid hc6; have HL6 := Lib.hid hl6; clear ho5 hold5 ha5 hT5 hT6 hc6 hl6)
        have HCC := Lib.hid ((HC4.out.mono (fun k e => (.inr (.inl e) : fpT p g (.slice av Q1.length cv) k))).trans HC6.out)
        have hsz4 := HC4.out.size
        have hG4 : ∀ x, fpT p g (.slice av Q1.length cv) x → ¬ G x := by
          rintro x (h | h | h)
          · exact HA.out x (.inl h)
          · exact HA.out x (.inr (.inl h))
          · exact (HV2.out x h).2
        have hR4 : ∀ x, fpT p g (.slice av Q1.length cv) x → ¬ (Value.slice (some ⟨x, 0, none⟩) L.length uc).ownBlock = some x → True := fun _ _ _ => trivial
        have HG4 := Lib.hid hG4
        clear hG4 hR4
        have HF : Hid (∀ y, (Value.slice a2 (Q1.length + 1) c2).ownBlock = some y → v.ownBlock = some y ∨ w.heap.size ≤ y) := Lib.hid fun y hy => by
          rcases HL6.out y hy with h | h
          · exact HV1.out y h
          · exact .inr (Nat.le_trans (Nat.le_trans HC.out.size hsz4) h)
        have HF2 : Hid (∀ y, (Value.slice a2 (Q1.length + 1) c2).ownBlock = some y → (Value.slice (some ⟨x, 0, none⟩) L.length uc).ownBlock ≠ some y ∧ ¬ G y) := Lib.hid fun y hy => by
          rcases HL6.out y hy with h | h
          · exact HV2.out y h
          · refine ⟨fun e => ?_, fun hg => ?_⟩
            · have := (World.ownsRow.lt HR.out y e).2; omega
            · have := (HD'.out.ge y hg).2; omega
        have HRn : Hid (∀ W, Chg (fpT p g (.slice av Q1.length cv)) wr W → W.ownsRow w.heap.size 3 1 (.slice (some ⟨x, 0, none⟩) L.length uc) L.length (nvs L)) := Lib.hid fun W hW => row_same HR.out fun y hy => hW.block y (World.ownsRow.lt HR.out y hy).2 (by
          rintro (h | h | h)
          · have h1 := (World.ownsRow.lt HR.out y hy).1; have h2 := (HT.out.lt p (.inl rfl)).2; omega
          · have h1 := (World.ownsRow.lt HR.out y hy).1; have h2 := (HT.out.lt g (.inr (.inl rfl))).2; omega
          · exact (HV2.out y h).1 hy)
        have HCF : Hid (∀ W, Chg (fpT p g (.slice av Q1.length cv)) wr W → Chg (fpT p g v) w W) := Lib.hid fun W hW => HC.out.trans2 hW (by
          rintro i hi (h | h | h)
          · exact .inl h
          · exact .inr (.inl h)
          · rcases HV1.out i h with h1 | h1
            · exact .inr (.inr h1)
            · omega)
        go_roundw
        case rel => exact ⟨k + 1, .slice a2 (Q1.length + 1) c2, by omega, by go_num, by rw [HX0.out.2.2]; go_num, HRn.out _ HCC.out, by rw [HX0.out.1, HX0.out.2.1]; exact HT6.out, HF.out, HF2.out, HD'.out.chg HCC.out (fun y hy hf => HG4.out y hf hy), HCF.out _ HCC.out⟩
        case measure => simp [intOf]; omega
      · have e1 := Hsn.out
        rw [if_neg hp] at e1
        have E1 := Lib.hid e1
        have HX0 : Hid ((rbl D (L.take (k + 1))).length = (rbl D (L.take k)).length) := Lib.hid (by rw [e1])
        clear e1 hz Hsn
        generalize (rbl D (L.take k)).length = cn at *
        generalize hs : zst D z = s at *
        clear hs
        go_wp2_with fail; (with_reducible refine (Hst.out).mono ?_); rintro e wr ⟨rfl, rfl⟩
        go_wp2
        go_roundw
        case rel => exact ⟨k + 1, v', by omega, by go_num, by rw [HX0.out], HR.out, by rw [E1.out]; exact HT'.out, HV1.out, HV2.out, HD'.out, HC.out⟩
        case measure => simp [intOf]; omega
    · have e : L.take k = L := List.take_of_length_le (by omega)
      have ht := HT'.out
      rw [e] at ht
      rw [e]
      have HO := Lib.hid (AT.tab HT.out HD.out HA.out HH.out ht HC.out HV1.out)
      clear ht e
      go_wp2
      go_ret
      exact ⟨rfl, HO.out⟩
end Go.Proofs.Ytcgjkgcafkcgoaa
