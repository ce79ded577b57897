/- alloc.Table: Reset with a device; device; ints. -/
import Derived.Test.YtcgjkgcafkcgoaaAlr
namespace Go.Proofs.Ytcgjkgcafkcgoaa
open Go.RowKit
open Go.Sort (putRow mapBlock)
set_option linter.unusedVariables false
set_option linter.unusedSimpArgs false

theorem aldev (n : Nat) (w : World) (h1 : 1 ≤ n) (h2 : n ≤ 64) :
    Calls Try.prog 14 #[.int .i64 n] w fun e w' => ∃ d G, e = .returned (.pointer (some ⟨d, 0, none⟩)) ∧ DI w' w.heap.size d G (dv0 n 16 n) ∧ Below w.heap.size w w' := by
  have hn : Calls Try.prog 32 #[.agg #[.int .i64 n, .int .i64 16, .int .i64 n]] w fun e w' => ∃ p F, e = .returned (.pointer (some ⟨p, 0, none⟩)) ∧ DI w' w.heap.size p F (dv0 n 16 n) ∧ Below w.heap.size w w' := DI.new w n 16 n (decide_eq_true ⟨by omega, by omega, by decide, by decide, by omega, by omega⟩)
  have HN := Lib.hid hn
  clear hn
  go_enter Try.func14, Try.ntmps14
  go_wp2_with fail; (with_reducible refine (HN.out).mono ?_); rintro e w2 ⟨d, G, rfl, hD, hb⟩
  go_wp2
  go_ret
  exact ⟨d, G, rfl, hD, hb⟩
theorem aldev_nil (n : Int) (w : World) (h : n < 1 ∨ 64 < n) :
    Calls Try.prog 14 #[.int .i64 n] w fun e w' => e = .returned (.pointer none) ∧ Below w.heap.size w w' := by
  have HN := Lib.hid (znew_nil w n 16 n (decide_eq_false (by omega)))
  clear h
  go_enter Try.func14, Try.ntmps14
  go_wp2_with fail; (with_reducible refine (HN.out).mono ?_); rintro e w2 ⟨rfl, hb⟩
  go_wp2
  go_ret
  exact ⟨rfl, hb⟩
/-- both are new -/
theorem AT.new {w1 w2 : World} {B p g d : Nat} {G : Nat → Prop} {n : Nat} (h1 : TB w1 B p g (List.replicate n 0) (.slice none 0 0)) (hb : Below w1.heap.size w1 w2) (h2 : DI w2 w1.heap.size d G (dv0 n 16 n)) : ∃ H, AT w2 B p d H (List.replicate n 0) [] (dv0 n 16 n) := by
  have hT : TQ w2 B p g (List.replicate n 0) (.slice none 0 0) [] := ⟨h1.below hb, World.ownsRow_nil _ _ _ _, by simp [Value.ownBlock], by simp [Value.ownBlock]⟩
  have hBw : B ≤ w1.heap.size := by have := h1.plt; have := h1.2.2.1; omega
  refine ⟨fun k => fpT p g (.slice none 0 0) k ∨ G k, g, _, G, hT, ?_, fun k hk hg => ?_, fun k => Iff.rfl⟩
  · obtain ⟨r, Z, hF, hD⟩ := h2
    exact ⟨r, Z, hF, ⟨hD.box, row_mono hD.row hBw, fun x hx => (hD.ent x hx).mono hBw, hD.apart, hD.off, hD.pr, Nat.le_trans hBw hD.low, hD.abs, hD.ok⟩⟩
  · have h3 := (h2.ge k hg).1
    rcases hk with rfl | rfl | hk
    · have := h1.plt; omega
    · have := h1.glt.2; omega
    · simp [Value.ownBlock] at hk
set_option maxHeartbeats 2000000 in
theorem al_ints {w : World} {a b : Option Addr} {ca cb : Nat} {l m : List Int} (h1 : KZ w a l) (h2 : KZ w b m) (hlm : l = m) (hl : l.length ≤ 1000000) :
    Calls Try.prog 16 #[.slice a l.length ca, .slice b m.length cb] w fun e w' => e = .returned (.bool true) ∧ Below w.heap.size w w' := by
  subst hlm
  have H1 := Lib.hid h1
  have H2 := Lib.hid h2
  clear h1 h2
  go_enter Try.func16, Try.ntmps16
  go_wp2
  go_loopw [13] (fun i wr => ∃ n : Nat, n ≤ l.length ∧ i = .int .i64 n ∧ Below w.heap.size w wr) (fun i _ => l.length - (intOf i).toNat)
  case atStart => exact ⟨0, Nat.zero_le _, rfl, Below.refl _ _⟩
  case round =>
    obtain ⟨n, hn, rfl, hbr⟩ := hrel
    by_cases hlt : n < l.length
    · obtain ⟨b1, o1, rfl, c1⟩ := (H1.out.below hbr) (by omega)
      obtain ⟨b2, o2, rfl, c2⟩ := (H2.out.below hbr) (by omega)
      have d1 := c1 n hlt
      have d2 := c2 n hlt
      clear c1 c2
      generalize l[n] = y at *
      go_upto_region 6 with (fail)
      go_region
      go_wp2
      go_roundw
      case rel => exact ⟨n + 1, by omega, by go_num, hbr.drew⟩
      case measure => simp [intOf]; omega
    · go_wp2
      go_ret
      exact ⟨rfl, hbr⟩
theorem chg_putRow {α : Type} [Inhabited α] {enc : α → Value} {w : World} {g q o : Nat} {d : Array α} : Chg (fun k => k = g) w (putRow enc (Sort.ahead w q) g o d) :=
  ⟨rfl, rfl, rfl, by simp [putRow, mapBlock, Sort.ahead], fun k hk hn => by
    simp only [putRow, mapBlock, Sort.ahead, Array.getElem?_modify]
    rw [if_neg (fun e => hn e.symm)]⟩
set_option maxHeartbeats 2000000 in
theorem AT.reset_nil {w : World} {B p d : Nat} {H : Nat → Prop} {R : List Int} {D : Dv} (h : AT w B p d H R [] D) :
    Calls Try.prog 18 #[.pointer (some ⟨p, 0, none⟩), .pointer (some ⟨d, 0, none⟩)] w fun e w' => e = .returned (.tuple #[.int .i64 0, .int .i64 81]) ∧ w = w' := by
  obtain ⟨g, v, G, hT, hD, ha, hH⟩ := h
  obtain ⟨k0, k1, f0, f1⟩ := cell_pair hT.tb.1
  obtain ⟨ao, c, rfl, h1, h2, h3⟩ := row_shape hT.q
  clear hT hD ha hH h3
  simp only [List.length_nil] at k1
  go_enter Try.func18, Try.ntmps18
  go_wp2
  go_ret2
  exact ⟨rfl, rfl⟩
set_option maxRecDepth 100000 in
set_option maxHeartbeats 4000000 in
theorem AT.reset {w : World} {B p d : Nat} {H : Nat → Prop} {R Q : List Int} {D : Dv} {n : Nat} (h : AT w B p d H R ((n : Int) :: Q) D) (hn : n < R.length) (hdn : D.done < 4611686018427387904) :
    Calls Try.prog 18 #[.pointer (some ⟨p, 0, none⟩), .pointer (some ⟨d, 0, none⟩)] w fun e w' =>
      ((zrst D n).2 ≠ 0 ∧ e = .returned (.tuple #[.int .i64 0, .int .i64 (zrst D n).2]) ∧ AOut w B p d H R ((n : Int) :: Q) (zrst D n).1 w') ∨
      ((zrst D n).2 = 0 ∧ e = .returned (.tuple #[.int .i64 n, .int .i64 0]) ∧ AOut w B p d H (R.set n 0) Q (zrst D n).1 w') := by
  obtain ⟨g, v, G, hT, hD, ha, hH⟩ := h
  obtain ⟨k0, k1, f0, f1⟩ := cell_pair hT.tb.1
  have hvn : v ≠ .slice none 0 0 := fun e => by
    have := hT.q
    rw [e] at this
    rcases this.2 with ⟨_, h2⟩ | ⟨_, _, _, h2, _⟩
    · simp at h2
    · cases h2
  obtain ⟨gq, c, rfl, _, hgw, hlc, hcm, _, _⟩ := Lib.holds_of_ownsRow (enc := Value.int .i64) hT.q hvn
  have hq0 : w.cell? ⟨gq, 0, none⟩ = some (.int .i64 n) := by
    rw [World.ownsRow.cellAt hT.q 0 (by simp)]; rfl
  have hrl := hT.tb.2.2.2
  have Hrs := Lib.hid (hD.reset (D' := (zrst D n).1) (er := (zrst D n).2) hdn n rfl)
  have HT := Lib.hid hT
  have HD := Lib.hid hD
  have HA := Lib.hid ha
  have HH := Lib.hid hH
  unfold maxLen at hcm
  clear hT hD ha hH hvn
  generalize zrst D n = zr at *
  obtain ⟨D', er⟩ := zr
  simp only at Hrs ⊢
  simp only [List.length_cons] at k1 hlc
  go_enter Try.func18, Try.ntmps18
  go_wp2_with fail; (with_reducible refine (Hrs.out).mono ?_); rintro e w2 ⟨rfl, ho2⟩
  have hdev := AT.dev HT.out HD.out HA.out HH.out ho2
  by_cases he : er = 0
  · subst he
    obtain ⟨⟨G2, hD2, hG2⟩, hc2⟩ := ho2
    have hT2 := HT.out.chg hc2 HA.out
    have ha2 : ∀ k, fpT p g (.slice (some ⟨gq, 0, none⟩) (Q.length + 1) c) k → ¬ G2 k := fun k hk hg => by
      rcases hG2 k hg with h | h
      · exact HA.out k hk h
      · have := (HT.out.lt k hk).2; omega
    obtain ⟨m0, m1, n0, n1⟩ := cell_pair hT2.tb.1
    obtain ⟨gq', c', e1, _, _, _, _, _, hHo⟩ := Lib.holds_of_ownsRow (enc := Value.int .i64) hT2.q (by simp)
    simp only [Value.slice.injEq, Option.some.injEq, Addr.mk.injEq, and_true] at e1
    obtain ⟨⟨rfl⟩, _, rfl⟩ := e1
    have hdl := Try.slices_Delete_int gq 0 c 0 1 ((n : Int) :: Q) w2 hHo (by simpa using hlc) (by omega) (by decide) (by simp)
    have hdl2 : Calls Try.prog 35 #[.slice (some ⟨gq, 0, none⟩) (Q.length + 1) c, .int .i64 0, .int .i64 1] w2 fun e w' => e = .returned (.slice (some ⟨gq, 0, none⟩) Q.length c) ∧ ∃ q, w' = putRow (Value.int .i64) (Sort.ahead w2 q) gq 0 (Q ++ [0]).toArray := by
      refine hdl.mono ?_
      rintro e w' ⟨rfl, q, rfl⟩
      exact ⟨by simp, q, by simp⟩
    have HDL := Lib.hid hdl2
    have HT2 := Lib.hid hT2
    have HD2 := Lib.hid hD2
    have HA2 := Lib.hid ha2
    have HC2 : Hid (Chg H w w2) := Lib.hid hdev.2
    have HG2 := Lib.hid hG2
    clear hT2 hD2 ha2 hdl hdl2 hHo hdev hc2 hG2 k0 k1 f0 f1 hq0
    go_wp2_with fail; (with_reducible refine (HDL.out).mono ?_); rintro e w3 ⟨rfl, q, rfl⟩
    have hc3 : Chg (fun k => k = gq) w2 (putRow (Value.int .i64) (Sort.ahead w2 q) gq 0 (Q ++ [0]).toArray) := chg_putRow
    have hrow3 := Lib.ownsRow_putRow (q := q) (ys := Q ++ [0]) (k := Q.length) HT2.out.q (by simp) (by simp)
    generalize hW : putRow (Value.int .i64) (Sort.ahead w2 q) gq 0 (Q ++ [0]).toArray = w3 at *
    clear hW
    have hne : ∀ k, k = p ∨ k = g → k ≠ gq := by
      rintro k (rfl | rfl) e
      · exact HT2.out.vp (by rw [e]; rfl)
      · exact HT2.out.vg (by rw [e]; rfl)
    have hTB3 : TB w3 B p g R (.slice (some ⟨gq, 0, none⟩) (Q.length + 1) c) := by
      refine ⟨blk_chg HT2.out.tb.1 hc3 (hne p (.inl rfl)), row_same HT2.out.tb.2.1 fun k hk => ?_, HT2.out.tb.2.2.1, HT2.out.tb.2.2.2⟩
      have e : g = k := by simpa [Value.ownBlock] using hk
      subst e
      exact hc3.block g HT2.out.tb.glt.2 (hne g (.inr rfl))
    have etk : (Q ++ [(0 : Int)]).take Q.length = Q := by simp
    rw [etk] at hrow3
    have hT3 : TQ w3 B p g R (.slice (some ⟨gq, 0, none⟩) Q.length c) Q → True := fun _ => trivial
    obtain ⟨m0, m1, n0, n1⟩ := cell_pair hTB3.1
    have HB3 := Lib.hid hTB3
    have HR3 : Hid (w3.ownsRow B 3 1 (.slice (some ⟨gq, 0, none⟩) Q.length c) Q.length (ivs Q)) := Lib.hid hrow3
    have hfz := hTB3.fz n
    have hcl := hTB3.cell n hn
    have HNE := Lib.hid hne
    have HC3 := Lib.hid hc3
    have hgp : ¬ g = p := HB3.out.ne
    have hpg : ¬ p = g := fun e => HB3.out.ne e.symm
    clear hTB3 hrow3 hc3 hne hT3 etk
    go_wp2
    go_ret2
    refine ⟨rfl, ?_⟩
    have hTa : TQ (w3.setCell ⟨p, 1, none⟩ (.slice (some ⟨gq, 0, none⟩) Q.length c)) B p g R (.slice (some ⟨gq, 0, none⟩) Q.length c) Q := by
      have hcs := Chg.set w3 p 1 (.slice (some ⟨gq, 0, none⟩) Q.length c)
      refine ⟨⟨heap_set1z HB3.out.1, row_same HB3.out.2.1 fun k hk => ?_, HB3.out.2.2.1, HB3.out.2.2.2⟩, row_same HR3.out fun k hk => hcs.block k (World.ownsRow.lt HR3.out k hk).2 (fun e => ?_), ?_, ?_⟩
      · have e : g = k := by simpa [Value.ownBlock] using hk
        subst e
        exact hcs.block g HB3.out.glt.2 HB3.out.ne
      · have e2 : gq = k := by simpa [Value.ownBlock] using hk
        exact HNE.out p (.inl rfl) (by rw [e2, e])
      · intro e; simp [Value.ownBlock] at e; exact HNE.out p (.inl rfl) e.symm
      · intro e; simp [Value.ownBlock] at e; exact HNE.out g (.inr rfl) e.symm
    have hTb := hTa.set n 0
    have hcc : Chg (fpT p g (.slice (some ⟨gq, 0, none⟩) (Q.length + 1) c)) w2 ((w3.setCell ⟨p, 1, none⟩ (.slice (some ⟨gq, 0, none⟩) Q.length c)).setCell ⟨g, n, none⟩ (.int .i64 0)) :=
      (((HC3.out.mono fun k e => .inr (.inr (by rw [e]; rfl))).trans ((Chg.set w3 p 1 _).mono fun k e => .inl e))).trans ((Chg.set _ g n _).mono fun k e => .inr (.inl e))
    have h5 := AT.tab (H := fun k => fpT p g (.slice (some ⟨gq, 0, none⟩) (Q.length + 1) c) k ∨ G2 k) HT2.out HD2.out HA2.out (fun k => Iff.rfl) hTb hcc (fun k hk => .inl hk)
    obtain ⟨⟨H5, hAT5, hf5⟩, hc5⟩ := h5
    have hsub : ∀ k, fpT p g (.slice (some ⟨gq, 0, none⟩) (Q.length + 1) c) k ∨ G2 k → H k ∨ w.heap.size ≤ k := by
      rintro k (h | h)
      · exact .inl ((HH.out k).2 (.inl h))
      · rcases HG2.out k h with h1 | h1
        · exact .inl ((HH.out k).2 (.inr h1))
        · exact .inr h1
    refine ⟨⟨H5, hAT5, fun k hk => ?_⟩, HC2.out.trans2 hc5 fun k hkw hk => ?_⟩
    · rcases hf5 k hk with h | h
      · exact hsub k h
      · exact .inr (Nat.le_trans HC2.out.size h)
    · rcases hsub k hk with h | h
      · exact h
      · omega
  · have hef : (er == 0) = false := beq_eq_false_iff_ne.2 he
    have HO := Lib.hid hdev
    have He := Lib.hid he
    clear hdev ho2 he
    go_wp2
    go_ret2
    exact .inl ⟨He.out, rfl, HO.out⟩
end Go.Proofs.Ytcgjkgcafkcgoaa
