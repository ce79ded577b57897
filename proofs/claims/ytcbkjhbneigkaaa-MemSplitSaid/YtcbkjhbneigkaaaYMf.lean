/- Chapter 11: fill: a table with batches, and the document's entries. -/
import Derived.Test.YtcbkjhbneigkaaaYMw
import Derived.Test.YtcbkjhbneigkaaaYRefB
namespace Go.Proofs.Ytcbkjhbneigkaaa
open Go.RowKit
set_option linter.unusedVariables false
set_option linter.unusedSimpArgs false

theorem mnew_at {w : World} {o : Obj} {g : Nat} (h : g = w.heap.size) : (w.alloc o).heap[g]? = some o := by subst h; exact heap_alloc_new w o
def applyB (S : List ME × Int) (b : BatD) : List ME × Int := if batRight b.q b.L = true ∧ S.2 < b.q then (mbat S.1 b.L b.q b.L.length, b.q + b.L.length - 1) else S
def fillN (l : List BatD) (k : Nat) : List ME × Int := (l.take k).foldl applyB ([], -1)
theorem fillN_succ {l : List BatD} {k : Nat} (h : k < l.length) : fillN l (k + 1) = applyB (fillN l k) l[k] := by
  unfold fillN
  rw [List.take_succ_eq_append_getElem h, List.foldl_append]; rfl
theorem applyB_yes {S : List ME × Int} {b : BatD} (h1 : batRight b.q b.L = true) (h2 : S.2 < b.q) : applyB S b = (mbat S.1 b.L b.q b.L.length, b.q + b.L.length - 1) := if_pos ⟨h1, h2⟩
theorem applyB_bad {S : List ME × Int} {b : BatD} (h1 : batRight b.q b.L = false) : applyB S b = S := if_neg fun h => by rw [h1] at h; cases h.1
theorem applyB_old {S : List ME × Int} {b : BatD} (h2 : b.q ≤ S.2) : applyB S b = S := if_neg fun h => by omega
theorem applyB_len {S : List ME × Int} {b : BatD} : (applyB S b).1.length ≤ S.1.length + 64 := by
  unfold applyB
  split
  · rename_i h
    obtain ⟨_, _, h2, _, _⟩ := batRight_all h.1
    simp only [mbat_len]; omega
  · omega
theorem fillN_len (l : List BatD) : ∀ k, k ≤ l.length → (fillN l k).1.length ≤ 64 * k
  | 0, _ => Nat.zero_le _
  | k + 1, h => by
    have := fillN_len l k (by omega)
    rw [fillN_succ (show k < l.length by omega)]
    have h2 := @applyB_len (fillN l k) (l[k]'(by omega))
    omega
theorem lastN_end {last q : Int} {n : Nat} (h : 1 ≤ n) : lastN last q n = q + n - 1 := by
  obtain ⟨m, rfl⟩ : ∃ m, n = m + 1 := ⟨n - 1, by omega⟩
  show q + (m : Int) = q + ((m + 1 : Nat) : Int) - 1
  omega
def FillOut (w : World) (M : List ME) (last : Int) (e : Ending) (w' : World) : Prop :=
  ∃ t p F v, e = .returned (.tuple #[.pointer (some ⟨t, 0, none⟩), v, .bool true]) ∧ TB w' w.heap.size t p F M last ∧ MR w' w.heap.size v M ∧ Below w.heap.size w w'
set_option maxRecDepth 100000 in
set_option maxHeartbeats 4000000 in
theorem mfill {w : World} {a da : Option Addr} {c dc : Nat} {l : List BatD} {D : List Int} (h : BTs w a l) (hD : IR w da D) (hl : l.length ≤ 30) (hm2 : D.length ≤ maxLen) :
    Calls Try.prog 13 #[.slice a l.length c, .slice da D.length dc] w (FillOut w (fillN l l.length).1 (fillN l l.length).2) := by
  have H := Lib.hid h
  have HD := Lib.hid hD
  clear h hD
  go_enter Try.func13, Try.ntmps13
  go_wp2_with fail; (with_reducible refine (TB.new w).mono ?_); rintro e w1 ⟨t, p, F, rfl, hT, hb1⟩
  have HT := Lib.hid hT
  have HB1 := Lib.hid hb1
  clear hT hb1
  go_wp2
  go_loopw [8, 9, 10, 22] (fun v ls sz i wr => ∃ (k : Nat) (F' : Nat → Prop), k ≤ l.length ∧ i = .int .i64 k ∧ ls = .int .i64 (fillN l k).2 ∧ sz = .int .i64 (msz (fillN l k).1 : Nat) ∧ TB wr w.heap.size t p F' (fillN l k).1 (fillN l k).2 ∧ MR wr w.heap.size v (fillN l k).1 ∧ (∀ q, v.ownBlock = some q → ¬ GT t F' q) ∧ Below w.heap.size w wr) (fun _ _ _ i _ => l.length - (intOf i).toNat)
  case atStart => exact ⟨0, F, Nat.zero_le _, rfl, rfl, rfl, HT.out, MR.nil _ _, fun q h => by simp [Value.ownBlock] at h, HB1.out⟩
  case round =>
    clear HT HB1
    obtain ⟨k, F', hk, rfl, rfl, rfl, hT, hR, hdj, hbr⟩ := hrel
    have HT := Lib.hid hT
    have HR := Lib.hid hR
    have HDj := Lib.hid hdj
    have HBr := Lib.hid hbr
    obtain ⟨ao, cc, hv⟩ := hR.shape
    subst hv
    clear hT hR hdj
    by_cases hlt : k < l.length
    · obtain ⟨b, off, rfl, d0, d1, ho, hm⟩ := H.out.cells hbr k hlt
      have hstep := fillN_succ hlt
      have hlen := fillN_len l k hk
      have HS := Lib.hid hstep
      have HO : Hid (∀ W, Below w.heap.size w W → OPs W l[k].a l[k].L) := Lib.hid fun W hb => (H.out.2 _ (List.getElem_mem hlt)).1.below hb
      generalize hS0 : fillN l (k + 1) = S1 at *
      have HS0 := Lib.hid hS0
      clear hS0
      generalize fillN l k = S at *
      generalize l[k] = x at *
      obtain ⟨M, last⟩ := S
      obtain ⟨xq, xa, xL, xc⟩ := x
      simp only at d0 d1 hm HS HO ho hlen HT HR
      clear hstep ho hbr
      go_upto_region 9 with (fail)
      refine gen_wp (fun w' => Below wr.heap.size wr w' ∧ w'.heap[wr.heap.size]? = some (.cells #[.int .i64 xq, .slice xa xL.length xc] 32 (0, 0))) ⟨(Below.refl _ wr).alloc (Nat.le_refl _) _, heap_alloc_new wr _⟩ ?_
      rintro w2 ⟨hb2, b2⟩
      obtain ⟨e0, e1, _⟩ := cell_two b2
      have hq2 := blk_lt b2
      have HT2 := Lib.hid (HT.out.below hb2)
      have HR2 := Lib.hid (HR.out.below hb2)
      have HB2 := Lib.hid (HBr.out.trans (hb2.mono HBr.out.size))
      have HGe : Hid (∀ y, GT t F' y → y < wr.heap.size) := Lib.hid fun y hy => (HT.out.ge y hy).2
      have t0 := cell_next e0
      have t1 := cell_next e1
      generalize wr.heap.size = bq at *
      clear hb2 d0 d1 b2 HT HR HBr
      cases hr : batRight xq xL with
      | false =>
        have HCk := Lib.hid (batcheck (c := xc) (HO.out _ HB2.out) hm xq 100 (by rw [hr, if_neg (by decide)]))
        have Hr := Lib.hid hr
        have HS1 : Hid (S1 = (M, last)) := Lib.hid (by rw [HS.out]; exact applyB_bad hr)
        clear hr
        go_wp2_with fail; (with_reducible refine (HCk.out).mono ?_); rintro e w3 ⟨rfl, hb3⟩
        have e0 := t0 _ hb3
        have e1 := t1 _ hb3
        have s0 := cell_next e0
        have s1 := cell_next e1
        have HB3 := Lib.hid (HB2.out.trans (hb3.mono HB2.out.size))
        have HT3 := Lib.hid (HT2.out.below hb3)
        have HR3 := Lib.hid (HR2.out.below hb3)
        have HAp := Lib.hid (TB.apply_bad HT3.out (a := xa) (c := xc) (da := da) (dl := D.length) (dc := dc) (HO.out _ HB3.out) hm Hr.out)
        clear hb3 t0 t1
        go_wp2_with fail; (with_reducible refine (HAp.out).mono ?_); rintro e w4 ⟨rfl, hb4⟩
        have HT4 := Lib.hid (HT3.out.below hb4)
        have HR4 := Lib.hid (HR3.out.below hb4)
        have HB4 := Lib.hid (HB3.out.trans (hb4.mono HB3.out.size))
        clear hb4 s0 s1 e0 e1
        have HLa := Lib.hid HT4.out.last
        go_wp2_with fail; (with_reducible refine (HLa.out).mono ?_); rintro e wa ⟨rfl, hba⟩
        have HTa := Lib.hid (HT4.out.below hba)
        have HRa := Lib.hid (HR4.out.below hba)
        have HBa := Lib.hid (HB4.out.trans (hba.mono HB4.out.size))
        have HLb := Lib.hid (HTa.out.len (by omega))
        clear hba HLa
        go_wp2_with fail; (with_reducible refine (HLb.out).mono ?_); rintro e wb ⟨rfl, hbb⟩
        have HTb := Lib.hid (HTa.out.below hbb)
        have HRb := Lib.hid (HRa.out.below hbb)
        have HBb := Lib.hid (HBa.out.trans (hbb.mono HBa.out.size))
        have HLc := Lib.hid HTb.out.size
        clear hbb HLb
        go_wp2_with fail; (with_reducible refine (HLc.out).mono ?_); rintro e wc ⟨rfl, hbc⟩
        have HTc := Lib.hid (HTb.out.below hbc)
        have HRc := Lib.hid (HRb.out.below hbc)
        have HBc := Lib.hid (HBb.out.trans (hbc.mono HBb.out.size))
        clear hbc HLc
        go_wp2
        go_roundw
        case rel => exact ⟨k + 1, F', by omega, by go_num, by rw [HS0.out, HS1.out], by rw [HS0.out, HS1.out], by rw [HS0.out, HS1.out]; exact HTc.out, by rw [HS0.out, HS1.out]; exact HRc.out, HDj.out, HBc.out⟩
        case measure => simp [intOf]; omega
      | true =>
        have HCk := Lib.hid (batcheck (c := xc) (HO.out _ HB2.out) hm xq 0 (by rw [hr, if_pos rfl]))
        have Hr := Lib.hid hr
        clear hr
        go_wp2_with fail; (with_reducible refine (HCk.out).mono ?_); rintro e w3 ⟨rfl, hb3⟩
        have e0 := t0 _ hb3
        have e1 := t1 _ hb3
        have s0 := cell_next e0
        have s1 := cell_next e1
        have HB3 := Lib.hid (HB2.out.trans (hb3.mono HB2.out.size))
        have HT3 := Lib.hid (HT2.out.below hb3)
        have HR3 := Lib.hid (HR2.out.below hb3)
        have hq3 : bq < w3.heap.size := World.block_lt_of_cell? w3 _ e0
        clear hb3 t0 t1 HCk
        by_cases hs : xq ≤ last
        · have HAp := Lib.hid (TB.apply_old HT3.out (a := xa) (c := xc) (da := da) (dl := D.length) (dc := dc) (HO.out _ HB3.out) hm Hr.out hs)
          have HS1 : Hid (S1 = (M, last)) := Lib.hid (by rw [HS.out]; exact applyB_old hs)
          go_wp2_with fail; (with_reducible refine (HAp.out).mono ?_); rintro e w4 ⟨rfl, hb4⟩
          have HT4 := Lib.hid (HT3.out.below hb4)
          have HR4 := Lib.hid (HR3.out.below hb4)
          have HB4 := Lib.hid (HB3.out.trans (hb4.mono HB3.out.size))
          clear hb4 s0 s1 e0 e1
          have HLa := Lib.hid HT4.out.last
          go_wp2_with fail; (with_reducible refine (HLa.out).mono ?_); rintro e wa ⟨rfl, hba⟩
          have HTa := Lib.hid (HT4.out.below hba)
          have HRa := Lib.hid (HR4.out.below hba)
          have HBa := Lib.hid (HB4.out.trans (hba.mono HB4.out.size))
          have HLb := Lib.hid (HTa.out.len (by omega))
          clear hba HLa
          go_wp2_with fail; (with_reducible refine (HLb.out).mono ?_); rintro e wb ⟨rfl, hbb⟩
          have HTb := Lib.hid (HTa.out.below hbb)
          have HRb := Lib.hid (HRa.out.below hbb)
          have HBb := Lib.hid (HBa.out.trans (hbb.mono HBa.out.size))
          have HLc := Lib.hid HTb.out.size
          clear hbb HLb
          go_wp2_with fail; (with_reducible refine (HLc.out).mono ?_); rintro e wc ⟨rfl, hbc⟩
          have HTc := Lib.hid (HTb.out.below hbc)
          have HRc := Lib.hid (HRb.out.below hbc)
          have HBc := Lib.hid (HBb.out.trans (hbc.mono HBb.out.size))
          clear hbc HLc
          go_wp2
          go_roundw
          case rel => exact ⟨k + 1, F', by omega, by go_num, by rw [HS0.out, HS1.out], by rw [HS0.out, HS1.out], by rw [HS0.out, HS1.out]; exact HTc.out, by rw [HS0.out, HS1.out]; exact HRc.out, HDj.out, HBc.out⟩
          case measure => simp [intOf]; omega
        · have hs2 : last < xq := by omega
          obtain ⟨_, hl1, hl2, hs0, hs1⟩ := batRight_all Hr.out
          have HAp := Lib.hid (TB.apply HT3.out (a := xa) (c := xc) (da := da) (D := D) (dc := dc) (fun w' hc => HO.out _ (HB3.out.trans (hc.below (fun q hq => (HT3.out.ge q hq).1) HB3.out.size))) (fun w' hc => HD.out.below (HB3.out.trans (hc.below (fun q hq => (HT3.out.ge q hq).1) HB3.out.size))) hm hm2 Hr.out hs2 (by omega))
          have HS1 : Hid (S1 = (mbat M xL xq xL.length, xq + xL.length - 1)) := Lib.hid (by rw [HS.out]; exact applyB_yes Hr.out hs2)
          go_wp2_with fail; (with_reducible refine (HAp.out).mono ?_); rintro e w4 ⟨rfl, F4, hT4, hF4, hch4, hb4⟩
          have HT4 := Lib.hid hT4
          have HR4 : Hid (MR w4 w.heap.size (.slice ao M.length cc) M) := Lib.hid (row_same HR3.out fun q hq => hch4.block q (World.ownsRow.lt HR3.out q hq).2 (HDj.out q hq))
          have e0 := mcell_chg e0 hch4 (fun e => Nat.lt_irrefl _ (HGe.out _ e))
          have e1 := mcell_chg e1 hch4 (fun e => Nat.lt_irrefl _ (HGe.out _ e))
          have hq4 : bq < w4.heap.size := World.block_lt_of_cell? w4 _ e0
          have HB4 := Lib.hid (HB3.out.trans hb4)
          have HD4 : Hid (∀ q, (Value.slice ao M.length cc).ownBlock = some q → ¬ GT t F4 q) := Lib.hid fun q hq hf => by
            rcases hf with h | h
            · exact HDj.out q hq (.inl h)
            · rcases hF4 q h with h | h
              · exact HDj.out q hq (.inr h)
              · have := (World.ownsRow.lt HR3.out q hq).2
                omega
          have HG4 : Hid (∀ y, GT t F4 y → y < w4.heap.size) := Lib.hid fun y hy => (hT4.ge y hy).2
          have HIv := Lib.hid (mbat_inv HT3.out.inv Hr.out hs2)
          have HEn : Hid (∀ i, i < xL.length → MOk (mE xL xq i)) := Lib.hid fun i hi => mE_ok Hr.out hi
          have s0 := cell_next e0
          have s1 := cell_next e1
          clear hT4 hF4 hch4 hb4 HAp HT3 HR3 HB3 HDj
          go_wp2
          go_loopw [8, 9, 10, 46] (fun v ls sz i wx => ∃ j : Nat, j ≤ xL.length ∧ i = .int .i64 j ∧ ls = .int .i64 (lastN last xq j) ∧ sz = .int .i64 (msz (mbat M xL xq j) : Nat) ∧ MR wx w.heap.size v (mbat M xL xq j) ∧ (∀ q, v.ownBlock = some q → ¬ GT t F4 q) ∧ Below w4.heap.size w4 wx) (fun _ _ _ i _ => xL.length - (intOf i).toNat)
          case atStart => exact ⟨0, Nat.zero_le _, rfl, rfl, rfl, HR4.out, HD4.out, Below.refl _ _⟩
          case round =>
            clear HR4 HD4
            obtain ⟨j, hj, rfl, rfl, rfl, hR, hdj, hbx⟩ := hrel
            have HR := Lib.hid hR
            have HDj := Lib.hid hdj
            have HBx := Lib.hid hbx
            obtain ⟨ao, cc, hv⟩ := hR.shape
            subst hv
            have HLj := Lib.hid (mbat_len M xL xq j)
            clear hR hdj
            by_cases hlx : j < xL.length
            · obtain ⟨b3, off3, rfl, f0, f1, f2⟩ := (HO.out _ (HB4.out.trans (hbx.mono HB4.out.size))).cells (Below.refl _ _) j hlx
              have hok := HEn.out j hlx
              obtain ⟨hinv, hlst⟩ := HIv.out j hj
              have hme : mE xL xq j = ⟨xL[j].key, xq + j, xL[j].kind, xL[j].val⟩ := by unfold mE; rw [opAt_in hlx]
              have hmb : mbat M xL xq (j + 1) = mput (mbat M xL xq j) (mE xL xq j) := rfl
              have hmz := msz_put (mbat M xL xq j) (mE xL xq j)
              rw [← hmb] at hmz
              rw [hme] at hok hmb hmz
              generalize hM1 : mbat M xL xq (j + 1) = M1 at *
              have HM1 := Lib.hid hM1
              generalize mbat M xL xq j = M0 at *
              generalize xL[j] = y at *
              obtain ⟨yk, yu, yv⟩ := y
              simp only at f0 f1 f2 hok hmb hmz
              have HOK := Lib.hid hok
              have HMb := Lib.hid hmb
              have HMz := Lib.hid hmz
              have HInv := Lib.hid hinv
              have hqr : bq < wr.heap.size := Nat.lt_of_lt_of_le hq4 hbx.size
              have g0 := s0 _ hbx
              have g1 := s1 _ hbx
              clear hok hmb hmz hinv hM1 hme
              go_upto_region 21 with (fail)
              refine gen_wp (fun w' => Below wr.heap.size wr w' ∧ w'.heap[wr.heap.size]? = some (.cells #[.int .i64 yk, .string yu, .string yv] 27 (0, 0)) ∧ w'.heap[wr.heap.size + 1]? = some (.cells #[.string yu, .int .i64 (xq + j), .int .i64 yk] 47 (0, 0))) ?_ ?_
              · refine ⟨?_, ?_, ?_⟩
                · (repeat first | exact Below.refl _ _ | refine Below.drew ?_ | refine Below.alloc ?_ (by simp <;> omega) _ | refine Below.setCell ?_ (by simp <;> omega) _)
                · rw [Below.heap_alloc _ _ _ (by simp)]; exact heap_alloc_new wr _
                · exact mnew_at (by simp)
              rintro w5 ⟨hb5, o5, k5⟩
              obtain ⟨o0, o1, o2, _⟩ := mcell_three o5
              obtain ⟨k0, k1, k2, _⟩ := mcell_three k5
              have hqo := blk_lt o5
              have hqk := blk_lt k5
              have HR5 := Lib.hid (HR.out.below hb5)
              have HB5 := Lib.hid (HBx.out.trans (hb5.mono HBx.out.size))
              have hlj2 : M0.length ≤ 99000 := by have := HLj.out; omega
              have HPt := Lib.hid (refput HR5.out HInv.out (by omega) HOK.out hlst)
              have go : Hid (∀ y, GT t F4 y → y < w5.heap.size) := Lib.hid fun y hy => Nat.lt_of_lt_of_le (HG4.out y hy) HB5.out.size
              generalize wr.heap.size = oq at *
              clear g0 g1 f0 f1 f2 hb5 HR
              go_wp2_with fail; (with_reducible refine (HPt.out).mono ?_); rintro e w6 ⟨v6, rfl, hR6, hb6⟩
              rw [← HMb.out] at hR6
              have HR6 := Lib.hid hR6
              have HB6 := Lib.hid (HB5.out.trans (hb6.mono HB5.out.size))
              have HD6 : Hid (∀ q, v6.ownBlock = some q → ¬ GT t F4 q) := Lib.hid fun q hq hf => by
                have h1 := (World.ownsRow.lt hR6 q hq).1
                have h2 := go.out q hf
                omega
              have k0 := cell_next k0 w6 hb6
              have k1 := cell_next k1 w6 hb6
              have k2 := cell_next k2 w6 hb6
              have o2 := cell_next o2 w6 hb6
              have hqk6 : oq + 1 < w6.heap.size := World.block_lt_of_cell? w6 _ k0
              have hqo6 : oq < w6.heap.size := World.block_lt_of_cell? w6 _ o2
              have HBy := Lib.hid (refbytes yu (xq + j) yk w6.drew HOK.out.1)
              have hz56 := hb6.size
              have hm1 := msz_small HInv.out.ok
              have hm2 := mkey_small HOK.out
              have hm3 := HOK.out.2
              have hmz := HMz.out
              rw [mkey_size] at hm2 hmz
              simp only at hm2 hm3 hmz
              have hwr : wrap64 ((msz M0 : Nat) + wrap64 (((keyBytes yu.data.toList (xq + j) yk).length : Nat) + (yv.size : Nat))) = (msz M1 : Nat) := mwrap hmz (by omega)
              clear hR6 hb6 hm1 hm2 hm3 hmz o0 o1 HPt HR5
              go_upto_region 22 with (fail)
              refine wp_region_held_drew (S := fun w' => w'.cell? ⟨oq + 1, 0, none⟩ = some (.string yu) ∧ w'.cell? ⟨oq + 1, 1, none⟩ = some (.int .i64 (xq + j)) ∧ w'.cell? ⟨oq + 1, 2, none⟩ = some (.int .i64 yk) ∧ w'.cell? ⟨oq, 2, none⟩ = some (.string yv)) (by kernel_rfl) ⟨k0, k1, k2, o2⟩ (fun hHeld => ?_)
              refine wpAnyH_take (i := 0) (oi := ⟨some 66, _, _, _, _, _⟩) (v := ?_) rfl (by kernel_rfl) (by kernel_rfl) (by kernel_rfl) (fun _ _ _ h => h) (Or.inl ⟨by rfl, ?_⟩) (by assumption) ?_
              rotate_left
              · intro w hSw
                (try dsimp only at hSw)
                go_simp
                (try with_reducible rfl)
              (try simp only [Act.put, List.setIfInBounds_toArray, List.set_cons_zero, List.set_cons_succ])
              refine wpAnyH_take (i := 1) (oi := ⟨some 67, _, _, _, _, _⟩) (v := ?_) rfl (by kernel_rfl) (by kernel_rfl) (by kernel_rfl) (fun _ _ _ h => h) (Or.inl ⟨by rfl, ?_⟩) (by assumption) ?_
              rotate_left
              · intro w hSw
                (try dsimp only at hSw)
                go_simp
                (try with_reducible rfl)
              (try simp only [Act.put, List.setIfInBounds_toArray, List.set_cons_zero, List.set_cons_succ])
              refine wpAnyH_take (i := 4) (oi := ⟨some 70, _, _, _, _, _⟩) (v := ?_) rfl (by kernel_rfl) (by kernel_rfl) (by kernel_rfl) (fun _ _ _ h => h) (Or.inl ⟨by rfl, ?_⟩) (by assumption) ?_
              rotate_left
              · intro w hSw
                (try dsimp only at hSw)
                go_simp
                (try with_reducible rfl)
              (try simp only [Act.put, List.setIfInBounds_toArray, List.set_cons_zero, List.set_cons_succ])
              refine wpAnyH_take (i := 5) (oi := ⟨some 71, _, _, _, _, _⟩) (v := ?_) rfl (by kernel_rfl) (by kernel_rfl) (by kernel_rfl) (fun _ _ _ h => h) (Or.inl ⟨by rfl, ?_⟩) (by assumption) ?_
              rotate_left
              · intro w hSw
                (try dsimp only at hSw)
                go_simp
                (try with_reducible rfl)
              (try simp only [Act.put, List.setIfInBounds_toArray, List.set_cons_zero, List.set_cons_succ])
              refine wpAnyH_take (i := 6) (oi := ⟨some 72, _, _, _, _, _⟩) (v := ?_) rfl (by kernel_rfl) (by kernel_rfl) (by kernel_rfl) (fun _ _ _ h => h) (Or.inl ⟨by rfl, ?_⟩) (by assumption) ?_
              rotate_left
              · intro w hSw
                (try dsimp only at hSw)
                go_simp
                (try with_reducible rfl)
              (try simp only [Act.put, List.setIfInBounds_toArray, List.set_cons_zero, List.set_cons_succ])
              refine wpAnyH_ready (rs := [2]) (by kernel_rfl) (by simp) ?_
              refine AllReadyH.cons (o := ⟨some 68, _, _, _, _, _⟩) rfl (fun K hK => ?_) ?_
              · go_simp
                (with_reducible refine (HBy.out).mono ?_)
                rintro e w7 ⟨v7, rfl, ho7, hb7⟩
                have hd7 : Below w6.heap.size w6 w7 := (Below.refl _ w6).drew.trans hb7
                have hR7 := ob_reads ho7 (Below.refl _ _)
                obtain ⟨ao7, c7, rfl, _⟩ := hR7.shape
                have k0 := cell_next k0 w7 hd7
                have k1 := cell_next k1 w7 hd7
                have k2 := cell_next k2 w7 hd7
                have o2 := cell_next o2 w7 hd7
                have HR7 := Lib.hid (HR6.out.below hd7)
                have HB7 := Lib.hid (HB6.out.trans (hd7.mono HB6.out.size))
                clear hb7 ho7 hR7
                go_wp2_with fail
                refine hK.out _ _ ?_ (fun hHeld => ?_)
                · exact ⟨k0, k1, k2, o2⟩
                clear hK K
                (try simp only [Act.put, List.setIfInBounds_toArray, List.set_cons_zero, List.set_cons_succ])
                refine wpAnyH_take (i := 3) (oi := ⟨some 69, _, _, _, _, _⟩) (v := ?_) rfl (by kernel_rfl) (by kernel_rfl) (by kernel_rfl) (fun _ _ _ h => h) (Or.inl ⟨by rfl, ?_⟩) (by assumption) ?_
                rotate_left
                · intro w hSw
                  (try dsimp only at hSw)
                  go_simp
                  (try with_reducible rfl)
                (try simp only [Act.put, List.setIfInBounds_toArray, List.set_cons_zero, List.set_cons_succ])
                refine wpAnyH_take (i := 7) (oi := ⟨some 73, _, _, _, _, _⟩) (v := ?_) rfl (by kernel_rfl) (by kernel_rfl) (by kernel_rfl) (fun _ _ _ h => h) (Or.inl ⟨by rfl, ?_⟩) (by assumption) ?_
                rotate_left
                · intro w hSw
                  (try dsimp only at hSw)
                  go_simp
                  (try with_reducible rfl)
                (try simp only [Act.put, List.setIfInBounds_toArray, List.set_cons_zero, List.set_cons_succ])
                refine wpAnyH_take (i := 8) (oi := ⟨some 74, _, _, _, _, _⟩) (v := ?_) rfl (by kernel_rfl) (by kernel_rfl) (by kernel_rfl) (fun _ _ _ h => h) (Or.inl ⟨by rfl, ?_⟩) (by assumption) ?_
                rotate_left
                · intro w hSw
                  (try dsimp only at hSw)
                  go_simp
                  (try with_reducible rfl)
                (try simp only [Act.put, List.setIfInBounds_toArray, List.set_cons_zero, List.set_cons_succ])
                refine wpAnyH_take (i := 9) (oi := ⟨some 10, _, _, _, _, _⟩) (v := ?_) rfl (by kernel_rfl) (by kernel_rfl) (by kernel_rfl) (fun _ _ _ h => h) (Or.inl ⟨by rfl, ?_⟩) (by assumption) ?_
                rotate_left
                · intro w hSw
                  (try dsimp only at hSw)
                  go_simp
                  (try with_reducible rfl)
                (try simp only [Act.put, List.setIfInBounds_toArray, List.set_cons_zero, List.set_cons_succ])
                refine wpAnyH_done (by kernel_rfl) ?_ _
                go_wp2
                go_roundw
                case rel => exact ⟨j + 1, by omega, by go_num, rfl, by rw [HM1.out, IntWalk.i64_left, IntWalk.i64_left, hwr], by rw [HM1.out]; exact HR7.out.mono (Nat.le_trans HB4.out.size HB5.out.size), HD6.out, HB7.out⟩
                case measure => simp [intOf]; omega
              exact AllReadyH.nil
            · obtain rfl : j = xL.length := by omega
              obtain ⟨hinv, _⟩ := HIv.out xL.length (Nat.le_refl _)
              have hle := lastN_end (last := last) (q := xq) hl1
              rw [hle]
              have HT5 := Lib.hid (HT4.out.below hbx)
              have HR5 := Lib.hid HR.out
              have HB5 := Lib.hid (HB4.out.trans (hbx.mono HB4.out.size))
              have hfl : (mbat M xL xq xL.length).length ≤ 99999 := by have := HLj.out; omega
              generalize mbat M xL xq xL.length = M1 at *
              generalize xq + (xL.length : Int) - 1 = last1 at *
              clear hle hbx hinv HIv HEn
              have HLa := Lib.hid HT5.out.last
              go_wp2_with fail; (with_reducible refine (HLa.out).mono ?_); rintro e wa ⟨rfl, hba⟩
              have HTa := Lib.hid (HT5.out.below hba)
              have HRa := Lib.hid (HR5.out.below hba)
              have HBa := Lib.hid (HB5.out.trans (hba.mono HB5.out.size))
              have HLb := Lib.hid (HTa.out.len (by omega))
              clear hba HLa
              go_wp2_with fail; (with_reducible refine (HLb.out).mono ?_); rintro e wb ⟨rfl, hbb⟩
              have HTb := Lib.hid (HTa.out.below hbb)
              have HRb := Lib.hid (HRa.out.below hbb)
              have HBb := Lib.hid (HBa.out.trans (hbb.mono HBa.out.size))
              have HLc := Lib.hid HTb.out.size
              clear hbb HLb
              go_wp2_with fail; (with_reducible refine (HLc.out).mono ?_); rintro e wc ⟨rfl, hbc⟩
              have HTc := Lib.hid (HTb.out.below hbc)
              have HRc := Lib.hid (HRb.out.below hbc)
              have HBc := Lib.hid (HBb.out.trans (hbc.mono HBb.out.size))
              clear hbc HLc
              go_wp2
              go_roundw
              case rel => exact ⟨k + 1, F4, by omega, by go_num, by rw [HS0.out, HS1.out], by rw [HS0.out, HS1.out], by rw [HS0.out, HS1.out]; exact HTc.out, by rw [HS0.out, HS1.out]; exact HRc.out, HDj.out, HBc.out⟩
              case measure => simp [intOf]; omega
    · obtain rfl : k = l.length := by omega
      go_wp2
      go_ret3
      exact ⟨_, _, _, _, rfl, HT.out, HR.out, HBr.out⟩
end Go.Proofs.Ytcbkjhbneigkaaa
