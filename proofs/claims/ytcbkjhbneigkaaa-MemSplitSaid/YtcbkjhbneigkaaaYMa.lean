/- Chapter 11: Apply. -/
import Derived.Test.YtcbkjhbneigkaaaYMg
import Derived.Test.YtcbkjhbneigkaaaYBkeys
import Derived.Test.YtcbkjhbneigkaaaYJc
import Derived.Test.YtcbkjhbneigkaaaYSkipH
namespace Go.Proofs.Ytcbkjhbneigkaaa
open Go.RowKit
set_option linter.unusedVariables false
set_option linter.unusedSimpArgs false

/-- op i of a batch as an entry -/
def mE (l : List OpD) (seq : Int) (i : Nat) : ME := ⟨(opAt l i).key, seq + i, (opAt l i).kind, (opAt l i).val⟩
def mbat (M : List ME) (l : List OpD) (seq : Int) : Nat → List ME
  | 0 => M
  | n + 1 => mput (mbat M l seq n) (mE l seq n)
def lastN (last seq : Int) : Nat → Int
  | 0 => last
  | n + 1 => seq + n
theorem opAt_in {l : List OpD} {i : Nat} (h : i < l.length) : opAt l i = l[i] := by unfold opAt; rw [List.getD, List.getElem?_eq_getElem h]; rfl
theorem mE_ok {l : List OpD} {seq : Int} (hr : batRight seq l = true) {i : Nat} (h : i < l.length) : MOk (mE l seq i) := by
  obtain ⟨hall, h1, h2, h3, h4⟩ := batRight_all hr
  have ho := hall _ (List.getElem_mem h)
  unfold opRight at ho
  simp only [decide_eq_true_eq] at ho
  unfold MOk mE
  rw [opAt_in h]
  dsimp only
  refine ⟨?_, by omega⟩
  unfold keyRight
  exact decide_eq_true ⟨by omega, by omega, by omega, by omega, by omega, by omega⟩
theorem mbat_len (M : List ME) (l : List OpD) (seq : Int) : ∀ n, (mbat M l seq n).length = M.length + n
  | 0 => rfl
  | n + 1 => by rw [mbat, mput_len, mbat_len M l seq n]; omega
theorem mbat_inv {M : List ME} {last : Int} (h : MInv M last) {l : List OpD} {seq : Int} (hr : batRight seq l = true) (hs : last < seq) : ∀ n, n ≤ l.length → MInv (mbat M l seq n) (lastN last seq n) ∧ lastN last seq n < seq + n
  | 0, _ => ⟨h, by show last < seq + ((0 : Nat) : Int); omega⟩
  | n + 1, hn => by
    obtain ⟨h1, h2⟩ := mbat_inv h hr hs n (by omega)
    exact ⟨h1.put (mE_ok hr (by omega)) h2, by show seq + (n : Int) < seq + ((n + 1 : Nat) : Int); omega⟩
/-- the table while a batch is laid: the cell of the last number is as it was -/
structure TJ (w : World) (B t p : Nat) (F : Nat → Prop) (M : List ME) (lc : Int) : Prop where
  box : w.heap[t]? = some (.cells #[.pointer (some ⟨p, 0, none⟩), .int .i64 (msz M : Nat), .int .i64 lc] 68 (0, 0))
  list : ∃ L, ss.LI w B p F L ∧ Same11 L M
  low : B ≤ t
  apart : ¬ F t
theorem TB.tj {w : World} {B t p : Nat} {F : Nat → Prop} {M : List ME} {last : Int} (h : TB w B t p F M last) : TJ w B t p F M last := ⟨h.box, h.list, h.low, h.apart⟩
theorem TJ.tb {w : World} {B t p : Nat} {F : Nat → Prop} {M : List ME} {last : Int} (h : TJ w B t p F M last) (hi : MInv M last) : TB w B t p F M last := ⟨h.box, h.list, h.low, h.apart, hi⟩
theorem TJ.chg {w w' : World} {B t p : Nat} {F G : Nat → Prop} {M : List ME} {lc : Int} (h : TJ w B t p F M lc) (hc : Chg G w w') (hd : ∀ k, GT t F k → ¬ G k) : TJ w' B t p F M lc := by
  obtain ⟨L, hL, hs⟩ := h.list
  exact ⟨blk_chg h.box hc (hd t (.inl rfl)), ⟨L, hL.chg hc fun k hk => hd k (.inr hk), hs⟩, h.low, h.apart⟩
theorem TJ.below {w w' : World} {B t p : Nat} {F : Nat → Prop} {M : List ME} {lc : Int} (h : TJ w B t p F M lc) (hb : Below w.heap.size w w') : TJ w' B t p F M lc :=
  h.chg (G := fun _ => False) (Chg.of_below hb) fun _ _ e => e
theorem TJ.ge {w : World} {B t p : Nat} {F : Nat → Prop} {M : List ME} {lc : Int} (h : TJ w B t p F M lc) : ∀ k, GT t F k → B ≤ k ∧ k < w.heap.size := by
  obtain ⟨L, hL, hs⟩ := h.list
  rintro k (rfl | hk)
  · exact ⟨h.low, blk_lt h.box⟩
  · exact hL.ge k hk
theorem TJ.c0 {w : World} {B t p : Nat} {F : Nat → Prop} {M : List ME} {lc : Int} (h : TJ w B t p F M lc) : w.cell? ⟨t, 0, none⟩ = some (.pointer (some ⟨p, 0, none⟩)) := (mcell_three h.box).1
theorem TJ.c1 {w : World} {B t p : Nat} {F : Nat → Prop} {M : List ME} {lc : Int} (h : TJ w B t p F M lc) : w.cell? ⟨t, 1, none⟩ = some (.int .i64 (msz M : Nat)) := (mcell_three h.box).2.1
theorem TJ.fz {w : World} {B t p : Nat} {F : Nat → Prop} {M : List ME} {lc : Int} (h : TJ w B t p F M lc) (j : Nat) : w.frozen? ⟨t, j, none⟩ = false := (mcell_three h.box).2.2.2 j
/-- what Apply does -/
def ApplyOut (w : World) (B t p : Nat) (F : Nat → Prop) (M : List ME) (l : List OpD) (seq : Int) (e : Ending) (w' : World) : Prop :=
  e = .returned (.int .i64 0) ∧ ∃ F', TB w' B t p F' (mbat M l seq l.length) (seq + l.length - 1) ∧ (∀ x, F' x → F x ∨ w.heap.size ≤ x) ∧ Chg (GT t F) w w' ∧ Below B w w'
set_option maxRecDepth 100000 in
set_option maxHeartbeats 2000000 in
theorem TB.apply_bad {w : World} {B t p : Nat} {F : Nat → Prop} {M : List ME} {last : Int} (h : TB w B t p F M last) {a da : Option Addr} {c dl dc : Nat} {l : List OpD} {seq : Int}
    (hO : OPs w a l) (hm : l.length ≤ maxLen) (hr : batRight seq l = false) :
    Calls Try.prog 10 #[.pointer (some ⟨t, 0, none⟩), .agg #[.int .i64 seq, .slice a l.length c], .slice da dl dc] w fun e w' => e = .returned (.int .i64 100) ∧ Below w.heap.size w w' := by
  have hb := batcheck (c := c) (hO.below ((Below.refl _ w).alloc (Nat.le_refl _) (.cells #[.int .i64 seq, .slice a l.length c] 32))) hm seq 100 (by rw [hr, if_neg (by decide)])
  have Hb := Lib.hid hb
  clear hb hr h hO
  go_enter Try.func10, Try.ntmps10
  go_wp2_with fail; (with_reducible refine (Hb.out).mono ?_); rintro e w1 ⟨rfl, hb1⟩
  go_wp2
  go_ret
  exact ⟨rfl, ((Below.refl _ w).alloc (Nat.le_refl _) _).trans (hb1.mono (by simp))⟩
set_option maxRecDepth 100000 in
set_option maxHeartbeats 2000000 in
theorem TB.apply_old {w : World} {B t p : Nat} {F : Nat → Prop} {M : List ME} {last : Int} (h : TB w B t p F M last) {a da : Option Addr} {c dl dc : Nat} {l : List OpD} {seq : Int}
    (hO : OPs w a l) (hm : l.length ≤ maxLen) (hr : batRight seq l = true) (hs : seq ≤ last) :
    Calls Try.prog 10 #[.pointer (some ⟨t, 0, none⟩), .agg #[.int .i64 seq, .slice a l.length c], .slice da dl dc] w fun e w' => e = .returned (.int .i64 31) ∧ Below w.heap.size w w' := by
  have hb := batcheck (c := c) (hO.below ((Below.refl _ w).alloc (Nat.le_refl _) (.cells #[.int .i64 seq, .slice a l.length c] 32))) hm seq 0 (by rw [hr, if_pos rfl])
  have Hb := Lib.hid hb
  have HT := Lib.hid h
  have htw := blk_lt h.box
  clear hb hr h hO
  go_enter Try.func10, Try.ntmps10
  go_wp2_with fail; (with_reducible refine (Hb.out).mono ?_); rintro e w1 ⟨rfl, hb1⟩
  have b1 : w1.heap[w.heap.size]? = some (.cells #[.int .i64 seq, .slice a l.length c] 32 (0, 0)) := by
    rw [hb1.block _ (by simp)]; exact heap_alloc_new w _
  obtain ⟨q0, q1, _⟩ := cell_two b1
  have B1 : Below w.heap.size w w1 := ((Below.refl _ w).alloc (Nat.le_refl _) _).trans (hb1.mono (by simp))
  have c2 := (HT.out.below B1).c2
  clear b1 Hb hb1
  go_wp2_with fail
  go_quiet (fail)
  go_wp2
  go_ret
  exact ⟨rfl, below_drewN B1 _⟩
theorem mcell_chg {F : Nat → Prop} {w w' : World} {g o : Nat} {v : Value} (h : w.cell? ⟨g, o, none⟩ = some v) (hc : Chg F w w') (hn : ¬ F g) : w'.cell? ⟨g, o, none⟩ = some v := by
  rw [← h]; exact World.cell?_of_block (hc.block g (World.block_lt_of_cell? w _ h) hn)
theorem heightOf_in (d : Int) : 1 ≤ heightOf d ∧ heightOf d ≤ 12 := by
  have := hts_le 11 (d % 18446744073709551616).toNat
  unfold heightOf; omega
/-- one Put of the loop -/
theorem TJ.put {w : World} {B t p : Nat} {F : Nat → Prop} {M : List ME} {lc last : Int} (h : TJ w B t p F M lc) (hi : MInv M last) (hl : M.length ≤ 99999) {e : ME} (he : MOk e) (hs : last < e.s) (ht : Nat) (h1 : 1 ≤ ht) (h2 : ht ≤ 12) :
    Calls Try.prog 28 #[.pointer (some ⟨p, 0, none⟩), .string (mkb e.u e.s e.k), .string e.v, .int .i64 (ht : Nat)] w fun r w' => ∃ b, r = .returned (.tuple #[.bool b, .int .i64 0]) ∧
      ∃ F', (∃ L, ss.LI w' B p F' L ∧ Same11 L (mput M e)) ∧ (∀ x, F' x → F x ∨ w.heap.size ≤ x) ∧ Chg F w w' := by
  obtain ⟨L, hL, hsm⟩ := h.list
  have hle := hsm.len
  exact (ss.LI.put hL (by omega) (mkey e) e.v ht h1 h2).mono fun r w' ⟨q1, ⟨F', q2, q3⟩, q4, _⟩ => ⟨_, q1, F', ⟨_, q2, hsm.put hi he hs ht⟩, q3, q4⟩
theorem mwrap {a b c d : Nat} (h : d = a + b + c) (h2 : d ≤ 1000000000) : wrap64 ((a : Nat) + wrap64 ((b : Nat) + (c : Nat))) = (d : Nat) := by
  unfold wrap64; omega
theorem TJ.close {w : World} {B t p : Nat} {F : Nat → Prop} {M0 M1 : List ME} {lc : Int} (hb : w.heap[t]? = some (.cells #[.pointer (some ⟨p, 0, none⟩), .int .i64 (msz M0 : Nat), .int .i64 lc] 68 (0, 0)))
    (hl : ∃ L, ss.LI w B p F L ∧ Same11 L M1) (h1 : B ≤ t) (h2 : ¬ F t) : TJ (w.setCell ⟨t, 1, none⟩ (.int .i64 (msz M1 : Nat))) B t p F M1 lc := by
  obtain ⟨L, hL, hs⟩ := hl
  refine ⟨?_, ⟨L, hL.chg (Chg.set w t 1 _) fun k hk e => h2 (e ▸ hk), hs⟩, h1, h2⟩
  simp only [World.setCell, Array.getElem?_modify, if_true, hb]; rfl
theorem TJ.final {w : World} {B t p : Nat} {F : Nat → Prop} {M : List ME} {lc l2 : Int} (h : TJ w B t p F M lc) (hi : MInv M l2) : TB (w.setCell ⟨t, 2, none⟩ (.int .i64 l2)) B t p F M l2 := by
  obtain ⟨L, hL, hs⟩ := h.list
  refine ⟨?_, ⟨L, hL.chg (Chg.set w t 2 _) fun k hk e => h.apart (e ▸ hk), hs⟩, h.low, h.apart, hi⟩
  simp only [World.setCell, Array.getElem?_modify, if_true, h.box]; rfl
set_option maxRecDepth 100000 in
set_option maxHeartbeats 4000000 in
theorem TB.apply {w : World} {B t p : Nat} {F : Nat → Prop} {M : List ME} {last : Int} (h : TB w B t p F M last) {a da : Option Addr} {c dc : Nat} {l : List OpD} {D : List Int} {seq : Int}
    (hO : ∀ w', Chg (GT t F) w w' → OPs w' a l) (hD : ∀ w', Chg (GT t F) w w' → IR w' da D) (hm : l.length ≤ maxLen) (hm2 : D.length ≤ maxLen) (hr : batRight seq l = true) (hs : last < seq) (hl : M.length + l.length ≤ 99999) :
    Calls Try.prog 10 #[.pointer (some ⟨t, 0, none⟩), .agg #[.int .i64 seq, .slice a l.length c], .slice da D.length dc] w (ApplyOut w B t p F M l seq) := by
  have hBw := h.room
  have hb := batcheck (c := c) (hO _ (Chg.of_below ((Below.refl _ w).alloc (Nat.le_refl _) (.cells #[.int .i64 seq, .slice a l.length c] 32)))) hm seq 0 (by rw [hr, if_pos rfl])
  have Hb := Lib.hid hb
  have HT := Lib.hid h
  have HO := Lib.hid hO
  have HD := Lib.hid hD
  have HR := Lib.hid hr
  obtain ⟨_, hl1, hl2, hs0, hs1⟩ := batRight_all hr
  have HI : Hid (∀ n, n ≤ l.length → MInv (mbat M l seq n) (lastN last seq n) ∧ lastN last seq n < seq + n) := Lib.hid (mbat_inv h.inv hr hs)
  have HE : Hid (∀ i, i < l.length → MOk (mE l seq i)) := Lib.hid fun i hi => mE_ok hr hi
  have HF : Hid (∀ x, GT t F x → B ≤ x ∧ x < w.heap.size) := Lib.hid h.ge
  have htw := blk_lt h.box
  unfold maxLen at hm hm2
  have hlast := h.inv.high
  have hlast0 := h.inv.low
  clear hb hr h hO hD
  go_enter Try.func10, Try.ntmps10
  go_wp2_with fail; (with_reducible refine (Hb.out).mono ?_); rintro e w1 ⟨rfl, hb1⟩
  have b1 : w1.heap[w.heap.size]? = some (.cells #[.int .i64 seq, .slice a l.length c] 32 (0, 0)) := by
    rw [hb1.block _ (by simp)]; exact heap_alloc_new w _
  obtain ⟨q0, q1, _⟩ := cell_two b1
  have B1 : Below w.heap.size w w1 := ((Below.refl _ w).alloc (Nat.le_refl _) _).trans (hb1.mono (by simp))
  have c2 := (HT.out.below B1).c2
  have hz1 := blk_lt b1
  clear Hb hb1
  go_wp2_with fail
  go_quiet (fail)
  go_upto_region 5 with (fail)
  refine gen_wp (fun w' => Below w1.heap.size w1 w') (below_drewN (Below.refl _ _) _) ?_
  rintro w2 hb2
  have B2 := B1.trans (hb2.mono (Nat.le_of_lt hz1))
  have hks := batkeys (w := w2) (c := c) (HO.out _ (Chg.of_below B2)) (by unfold maxLen; omega) seq HR.out
  have Hks := Lib.hid hks
  have q0 := cell_next q0 w2 hb2
  have q1 := cell_next q1 w2 hb2
  have hz2 : w.heap.size < w2.heap.size := World.block_lt_of_cell? w2 _ q0
  clear hks
  go_wp2_with fail; (with_reducible refine (Hks.out).mono ?_); rintro e w3 ⟨v3, rfl, ho3, hb3⟩
  obtain ⟨g, off', c3, rfl, hkc⟩ := key_cells ho3 (by omega)
  have hgl : w2.heap.size ≤ g := by
    obtain ⟨ao4, c4, e4, _, _, hx⟩ := row_shape ho3
    obtain ⟨g4, e5, h6, _⟩ := hx (by omega)
    cases e4; cases e5
    exact h6
  have Hkc := Lib.hid hkc
  have B3 : Below w.heap.size w w3 := B2.trans (hb3.mono (Nat.le_of_lt hz2))
  have hT3 := HT.out.below B3
  have HB3 := Lib.hid B3
  have p0 := cell_next q0 w3 hb3
  have p1 := cell_next q1 w3 hb3
  have hz3 : w.heap.size < w3.heap.size := World.block_lt_of_cell? w3 _ p0
  have HTJ := Lib.hid hT3.tj
  clear ho3 hkc b1 q0 q1 B1 c2 Hks hb3 B3 hT3 hb2 B2
  go_wp2
  go_loopw [27] (fun i wr => ∃ (k : Nat) (F' : Nat → Prop), k ≤ l.length ∧ i = .int .i64 k ∧ TJ wr B t p F' (mbat M l seq k) last ∧ (∀ x, F' x → F x ∨ w3.heap.size ≤ x) ∧ Chg (GT t F) w3 wr) (fun i _ => l.length - (intOf i).toNat)
  case atStart => exact ⟨0, F, Nat.zero_le _, rfl, HTJ.out, fun x hx => .inl hx, Chg.refl _ _⟩
  case round =>
    clear HTJ
    obtain ⟨k, F', hk, rfl, hT, hF', hch⟩ := hrel
    have HT2 := Lib.hid hT
    have HF' := Lib.hid hF'
    have HC := Lib.hid hch
    have hbw : Chg (GT t F) w wr := (Chg.of_below HB3.out : Chg (GT t F) w w3).trans hch
    have HBw := Lib.hid hbw
    have p0' := mcell_chg p0 hch (fun e => Nat.lt_irrefl _ (HF.out _ e).2)
    have p1' := mcell_chg p1 hch (fun e => Nat.lt_irrefl _ (HF.out _ e).2)
    clear hT hF' hch hbw
    by_cases hlt : k < l.length
    · obtain ⟨d0, d1, d2⟩ := Hkc.out k hlt
      have hgn : ¬ GT t F g := fun e => by have := (HF.out _ e).2; omega
      have d0 := mcell_chg d0 HC.out hgn
      have d1 := mcell_chg d1 HC.out hgn
      have d2 := mcell_chg d2 HC.out hgn
      have hme : mE l seq k = ⟨l[k].key, seq + k, l[k].kind, l[k].val⟩ := by unfold mE; rw [opAt_in hlt]
      have hok := HE.out k hlt
      obtain ⟨hinv, hlst⟩ := HI.out k hk
      have hlen := mbat_len M l seq k
      have hmb : mbat M l seq (k + 1) = mput (mbat M l seq k) (mE l seq k) := rfl
      rw [hme] at hok hmb
      obtain ⟨ba, ofa, rfl, f0, f1, f2⟩ := (HO.out _ HBw.out).cells (Below.refl _ _) k hlt
      have HOK := Lib.hid hok
      have HInv := Lib.hid hinv
      have HMB := Lib.hid hmb
      generalize hM1 : mbat M l seq (k + 1) = M1 at *
      have HM1 := Lib.hid hM1
      generalize mbat M l seq k = M0 at *
      generalize hX : l[k] = x at *
      have HX := Lib.hid hX
      clear hX hok hinv hmb hM1 hme
      obtain ⟨xk, xu, xv⟩ := x
      simp only at d0 d1 d2 f0 f1 f2 HOK HMB
      go_upto_region 8 with (fail)
      refine gen_wp (fun w' => Below wr.heap.size wr w' ∧ w'.heap[wr.heap.size]? = some (.cells #[.string xu, .int .i64 (seq + k), .int .i64 xk] 34 (0, 0))) ⟨(Below.refl _ wr).alloc (Nat.le_refl _) _, heap_alloc_new wr _⟩ ?_
      rintro w4 ⟨hb4, b4⟩
      obtain ⟨k0, k1, k2, _⟩ := mcell_three b4
      have hT4 := HT2.out.below hb4
      have HT4 := Lib.hid hT4
      have p0 := cell_next p0' w4 hb4
      have p1 := cell_next p1' w4 hb4
      have f2 := cell_next f2 w4 hb4
      have HB4 := Lib.hid hb4
      have HC4 := Lib.hid (HC.out.trans2 (Chg.of_below hb4 : Chg (fun _ => False) wr w4) fun _ _ e => e.elim)
      have HBw4 := Lib.hid (HBw.out.trans (Chg.of_below hb4))
      have hq4 := blk_lt b4
      have hqw : w.heap.size ≤ wr.heap.size := Nat.le_trans (Nat.le_of_lt hz3) HC.out.size
      clear hT4 d0 d1 d2 f0 f1 hb4 p0' p1' HT2 HC HBw b4
      generalize wr.heap.size = kq at *
      obtain ⟨tb, htb⟩ : ∃ tb, decide (k < D.length) = tb := ⟨_, rfl⟩
      go_upto_if 35 with (fail)
      have Htb := Lib.hid htb
      clear htb
      go_cut [9] from 36 to 40 (fun u wx => ∃ ht : Nat, u = .int .i64 (ht : Nat) ∧ 1 ≤ ht ∧ ht ≤ 12 ∧ w4 = wx)
      case first =>
        cases tb with
        | true =>
          have hkD : k < D.length := of_decide_eq_true Htb.out
          obtain ⟨db, dof, rfl, e0, e1, e2⟩ := (HD.out _ HBw4.out).cell (Below.refl _ _) k hkD
          have Hsk := Lib.hid (skipheight D[k] w4 e1 e2)
          have hin := heightOf_in D[k]
          generalize heightOf D[k] = hh at *
          generalize D[k] = dk at *
          clear Htb
          go_wp2_with fail; (with_reducible refine (Hsk.out).mono ?_); rintro e w5 ⟨rfl, rfl⟩
          go_wp2
          go_meet
          exact ⟨hh, rfl, hin.1, hin.2, by trivial⟩
        | false =>
          clear Htb
          go_wp2
          go_meet
          exact ⟨1, rfl, by omega, by omega, by trivial⟩
      case rest =>
        obtain ⟨ht, rfl, hh1, hh2, rfl⟩ := hcut
        have Hkb := Lib.hid (keybytes xu (seq + k) xk w4 HOK.out.1)
        clear Htb
        go_wp2_with fail; (with_reducible refine (Hkb.out).mono ?_); rintro e w5 ⟨v5, rfl, ho5, hb5⟩
        have hR5 := ob_reads ho5 (Below.refl _ _)
        obtain ⟨ao5, c5, rfl, hc5⟩ := hR5.shape
        have hT5 := HT4.out.below hb5
        have hF4 : ∀ x, F' x → x < w4.heap.size := fun x hx => (HT4.out.ge x (.inr hx)).2
        have HF4 := Lib.hid hF4
        have HO5 := Lib.hid ho5
        clear hF4 ho5
        have c0 := hT5.c0
        have p1 := cell_next p1 w5 hb5
        have f2 := cell_next f2 w5 hb5
        have HC5 := Lib.hid (HC4.out.trans2 (Chg.of_below hb5 : Chg (fun _ => False) w4 w5) fun _ _ e => e.elim)
        have HBw5 := Lib.hid (HBw4.out.trans (Chg.of_below hb5))
        have hz5 : w.heap.size ≤ w5.heap.size := Nat.le_trans hqw (Nat.le_trans (Nat.le_of_lt hq4) hb5.size)
        have hFz : ∀ x, F' x → x < w.heap.size ∨ w3.heap.size ≤ x := fun x hx => (HF'.out x hx).elim (fun h => .inl (HF.out x (.inr h)).2) .inr
        have HFz := Lib.hid hFz
        have hnt := hT5.apart
        clear hFz
        have hput := (hT5.below (Below.refl _ w5).drew).put HInv.out (by omega) HOK.out hlst ht hh1 hh2
        have HPut := Lib.hid hput
        have HT5 := Lib.hid hT5
        clear hput hT5 hb5 HT4 HBw4 HC4 k0 k1 k2
        go_upto_region 12 with (fail)
        refine wp_region_held_drew (S := fun w' => w'.cell? ⟨t, 0, none⟩ = some (.pointer (some ⟨p, 0, none⟩)) ∧ RB w' (.slice ao5 _ c5) _ ∧ w'.cell? ⟨w.heap.size, 1, none⟩ = some (.slice (some ⟨ba, ofa, none⟩) l.length c) ∧ w'.cell? ⟨ba, ofa + k * 3 + 2, none⟩ = some (.string xv)) (by kernel_rfl) ⟨c0, hR5, p1, f2⟩ (fun hHeld => ?_)
        refine wpAnyH_take (i := 0) (oi := ⟨some 46, _, _, _, _, _⟩) (v := ?_) rfl (by kernel_rfl) (by kernel_rfl) (by kernel_rfl) (fun _ _ _ h => h) (Or.inl ⟨by rfl, ?_⟩) (by assumption) ?_
        rotate_left
        · intro w hSw
          (try dsimp only at hSw)
          go_simp
          (try with_reducible rfl)
        (try simp only [Act.put, List.setIfInBounds_toArray, List.set_cons_zero, List.set_cons_succ])
        refine wpAnyH_take (i := 1) (oi := ⟨some 47, _, _, _, _, _⟩) (v := ?_) rfl (by kernel_rfl) (by kernel_rfl) (by kernel_rfl) (fun _ _ _ h => h) (Or.inl ⟨by rfl, ?_⟩) (by assumption) ?_
        rotate_left
        · intro w hSw
          (try dsimp only at hSw)
          go_simp
          (try with_reducible rfl)
        (try simp only [Act.put, List.setIfInBounds_toArray, List.set_cons_zero, List.set_cons_succ])
        refine wpAnyH_take (i := 2) (oi := ⟨some 48, _, _, _, _, _⟩) (v := ?_) rfl (by kernel_rfl) (by kernel_rfl) (by kernel_rfl) (fun _ _ _ h => h) (Or.inl ⟨by rfl, ?_⟩) (by assumption) ?_
        rotate_left
        · intro w hSw
          (try dsimp only at hSw)
          go_simp
          (try with_reducible rfl)
        (try simp only [Act.put, List.setIfInBounds_toArray, List.set_cons_zero, List.set_cons_succ])
        refine wpAnyH_take (i := 3) (oi := ⟨some 49, _, _, _, _, _⟩) (v := ?_) rfl (by kernel_rfl) (by kernel_rfl) (by kernel_rfl) (fun _ _ _ h => h) (Or.inl ⟨by rfl, ?_⟩) (by assumption) ?_
        rotate_left
        · intro w hSw
          (try dsimp only at hSw)
          go_simp
          (try with_reducible rfl)
        (try simp only [Act.put, List.setIfInBounds_toArray, List.set_cons_zero, List.set_cons_succ])
        refine wpAnyH_take (i := 4) (oi := ⟨some 50, _, _, _, _, _⟩) (v := ?_) rfl (by kernel_rfl) (by kernel_rfl) (by kernel_rfl) (fun _ _ _ h => h) (Or.inl ⟨by rfl, ?_⟩) (by assumption) ?_
        rotate_left
        · intro w hSw
          (try dsimp only at hSw)
          go_simp
          (try with_reducible rfl)
        (try simp only [Act.put, List.setIfInBounds_toArray, List.set_cons_zero, List.set_cons_succ])
        refine wpAnyH_take (i := 5) (oi := ⟨some 51, _, _, _, _, _⟩) (v := ?_) rfl (by kernel_rfl) (by kernel_rfl) (by kernel_rfl) (fun _ _ _ h => h) (Or.inl ⟨by rfl, ?_⟩) (by assumption) ?_
        rotate_left
        · intro w hSw
          (try dsimp only at hSw)
          have hst := hSw.2.1.mstring
          go_simp
          (try with_reducible rfl)
        (try simp only [Act.put, List.setIfInBounds_toArray, List.set_cons_zero, List.set_cons_succ])
        refine wpAnyH_take (i := 6) (oi := ⟨some 52, _, _, _, _, _⟩) (v := ?_) rfl (by kernel_rfl) (by kernel_rfl) (by kernel_rfl) (fun _ _ _ h => h) (Or.inl ⟨by rfl, ?_⟩) (by assumption) ?_
        rotate_left
        · intro w hSw
          (try dsimp only at hSw)
          go_simp
          (try with_reducible rfl)
        (try simp only [Act.put, List.setIfInBounds_toArray, List.set_cons_zero, List.set_cons_succ])
        refine wpAnyH_take (i := 7) (oi := ⟨some 53, _, _, _, _, _⟩) (v := ?_) rfl (by kernel_rfl) (by kernel_rfl) (by kernel_rfl) (fun _ _ _ h => h) (Or.inl ⟨by rfl, ?_⟩) (by assumption) ?_
        rotate_left
        · intro w hSw
          (try dsimp only at hSw)
          go_simp
          (try with_reducible rfl)
        (try simp only [Act.put, List.setIfInBounds_toArray, List.set_cons_zero, List.set_cons_succ])
        refine wpAnyH_take (i := 8) (oi := ⟨some 54, _, _, _, _, _⟩) (v := ?_) rfl (by kernel_rfl) (by kernel_rfl) (by kernel_rfl) (fun _ _ _ h => h) (Or.inl ⟨by rfl, ?_⟩) (by assumption) ?_
        rotate_left
        · intro w hSw
          (try dsimp only at hSw)
          go_simp
          (try with_reducible rfl)
        (try simp only [Act.put, List.setIfInBounds_toArray, List.set_cons_zero, List.set_cons_succ])
        refine wpAnyH_take (i := 9) (oi := ⟨some 55, _, _, _, _, _⟩) (v := ?_) rfl (by kernel_rfl) (by kernel_rfl) (by kernel_rfl) (fun _ _ _ h => h) (Or.inl ⟨by rfl, ?_⟩) (by assumption) ?_
        rotate_left
        · intro w hSw
          (try dsimp only at hSw)
          go_simp
          (try with_reducible rfl)
        (try simp only [Act.put, List.setIfInBounds_toArray, List.set_cons_zero, List.set_cons_succ])
        refine wpAnyH_take (i := 10) (oi := ⟨some 56, _, _, _, _, _⟩) (v := ?_) rfl (by kernel_rfl) (by kernel_rfl) (by kernel_rfl) (fun _ _ _ h => h) (Or.inl ⟨by rfl, ?_⟩) (by assumption) ?_
        rotate_left
        · intro w hSw
          (try dsimp only at hSw)
          go_simp
          (try with_reducible rfl)
        (try simp only [Act.put, List.setIfInBounds_toArray, List.set_cons_zero, List.set_cons_succ])
        refine wpAnyH_take (i := 11) (oi := ⟨some 57, _, _, _, _, _⟩) (v := ?_) rfl (by kernel_rfl) (by kernel_rfl) (by kernel_rfl) (fun _ _ _ h => h) (Or.inl ⟨by rfl, ?_⟩) (by assumption) ?_
        rotate_left
        · intro w hSw
          (try dsimp only at hSw)
          go_simp
          (try with_reducible rfl)
        (try simp only [Act.put, List.setIfInBounds_toArray, List.set_cons_zero, List.set_cons_succ])
        refine wpAnyH_take (i := 12) (oi := ⟨some 58, _, _, _, _, _⟩) (v := ?_) rfl (by kernel_rfl) (by kernel_rfl) (by kernel_rfl) (fun _ _ _ h => h) (Or.inl ⟨by rfl, ?_⟩) (by assumption) ?_
        rotate_left
        · intro w hSw
          (try dsimp only at hSw)
          go_simp
          (try with_reducible rfl)
        (try simp only [Act.put, List.setIfInBounds_toArray, List.set_cons_zero, List.set_cons_succ])
        refine wpAnyH_ready (rs := [13]) (by kernel_rfl) (by simp) ?_
        refine AllReadyH.cons (o := ⟨some 59, _, _, _, _, _⟩) rfl (fun K hK => ?_) ?_
        · go_simp
          (with_reducible refine (HPut.out).mono ?_)
          rintro e w7 ⟨bb, rfl, F7, hL7, hF7, hch7⟩
          have hc7 : Chg F' w5 w7 := (Chg.of_below (Below.refl _ w5).drew : Chg F' w5 w5.drew).trans hch7
          have HB7 := Lib.hid (HBw5.out.trans2 hc7 (fun i hi hf => by
            rcases HF'.out i hf with h | h
            · exact .inr h
            · omega))
          have c07 := mcell_chg c0 hc7 hnt
          have p17 := mcell_chg p1 hc7 (fun e => by rcases HFz.out _ e with h | h <;> omega)
          have f27 := ((HO.out _ HB7.out).cells (Below.refl _ _) k hlt)
          rw [HX.out] at f27
          obtain ⟨_, _, eq7, _, _, f27⟩ := f27
          cases eq7
          have b7 := blk_chg HT5.out.box hc7 hnt
          have hR7 := hR5.chg hc7 (fun _ q hq hf => by
            have h1 := (World.ownsRow.lt HO5.out q hq).1
            have h2 := HF4.out q hf
            omega)
          have HC7 := Lib.hid (HC5.out.trans2 hc7 (fun i hi hf => by
            rcases HF'.out i hf with h | h
            · exact .inr h
            · omega))
          have HL7 := Lib.hid hL7
          have HF7 : Hid (∀ x, F7 x → F x ∨ w3.heap.size ≤ x) := Lib.hid fun x hx => by
            rcases hF7 x hx with h | h
            · exact HF'.out x h
            · exact .inr (Nat.le_trans HC5.out.size h)
          simp only at f27
          clear hL7 hF7 hch7
          go_wp2_with fail
          refine hK.out _ _ ?_ (fun hHeld => ?_)
          · exact ⟨c07, hR7, p17, f27⟩
          clear hK K
          (try simp only [Act.put, List.setIfInBounds_toArray, List.set_cons_zero, List.set_cons_succ])
          refine wpAnyH_done (by kernel_rfl) ?_ _
          have c17 := (mcell_three b7).2.1
          have fz7 := (mcell_three b7).2.2.2 1
          have htz : t < w7.heap.size := blk_lt b7
          have hmz := msz_put M0 ⟨xu, seq + k, xk, xv⟩
          rw [← HMB.out, mkey_size] at hmz
          have hm1 := msz_small HInv.out.ok
          have hm2 := mkey_small HOK.out
          rw [mkey_size] at hm2
          have hm3 := HOK.out.2
          simp only at hmz hm2 hm3
          have hwr : wrap64 ((msz M0 : Nat) + wrap64 (((keyBytes xu.data.toList (seq + k) xk).length : Nat) + (xv.size : Nat))) = (msz M1 : Nat) :=
            mwrap hmz (by omega)
          have hcl := TJ.close b7 (M1 := M1) (by rw [HMB.out]; exact HL7.out) (HT.out.low) (fun e => by
            rcases HF7.out _ e with h | h
            · exact HT.out.apart h
            · omega)
          have HCl := Lib.hid hcl
          clear hcl hmz hm1 hm2 hm3 hc7 b7 hR7 hR5 c0 p1 f2 hHeld c07
          go_wp2_with fail
          go_region
          have HWr := Lib.hid hwr
          clear hwr
          go_wp2
          go_roundw
          case rel => exact ⟨k + 1, F7, by omega, by go_num, by rw [HM1.out]; exact HCl.out.below (Below.refl _ _).drew, HF7.out, by
            exact ((HC7.out.trans2 (Chg.set w7 t 1 _) fun i _ e => .inl e)).trans (Chg.of_below (Below.refl _ _).drew)⟩
          case measure => simp [intOf]; omega
        exact AllReadyH.nil
    · obtain rfl : k = l.length := by omega
      obtain ⟨hinv, hlst⟩ := HI.out l.length (Nat.le_refl _)
      have hbl := batlast_ok (w := wr) (c := c) (HO.out _ HBw.out) (by unfold maxLen; omega) seq HR.out
      have Hbl := Lib.hid hbl
      have HInv := Lib.hid hinv
      have fz := HT2.out.fz 2
      have htr := blk_lt HT2.out.box
      clear hbl hinv
      go_wp2_with fail; (with_reducible refine (Hbl.out).mono ?_); rintro e w5 ⟨rfl, hb5⟩
      have hT5 := HT2.out.below hb5
      have HT5 := Lib.hid hT5
      have c25 := (mcell_three hT5.box).2.2.1
      have fz5 := hT5.fz 2
      have ht5 := blk_lt hT5.box
      have HB5 := Lib.hid hb5
      clear hT5 hb5
      have hln : lastN last seq l.length = seq + l.length - 1 := by
        obtain ⟨n, hn⟩ : ∃ n, l.length = n + 1 := ⟨l.length - 1, by omega⟩
        rw [hn]
        show seq + (n : Int) = seq + ((n + 1 : Nat) : Int) - 1
        omega
      rw [hln] at HInv
      clear hln hlst
      go_wp2
      go_ret
      refine ⟨rfl, F', HT5.out.final HInv.out, fun x hx => ?_, ?_⟩
      · rcases HF'.out x hx with h | h
        · exact .inl h
        · exact .inr (by omega)
      · have hcc : Chg (GT t F) w (w5.setCell ⟨t, 2, none⟩ (.int .i64 (seq + l.length - 1))) :=
          (((Chg.of_below HB3.out : Chg (GT t F) w w3).trans HC.out).trans (Chg.of_below HB5.out)).trans2 (Chg.set w5 t 2 _) fun i _ e => .inl e
        exact ⟨hcc, hcc.below (fun q hq => (HF.out q hq).1) hBw⟩
end Go.Proofs.Ytcbkjhbneigkaaa
