/- The contract of batch.Parse. -/
import Derived.Test.YtmgifejmheoddaaBat3
import Derived.Test.YtmgifejmheoddaaOpRow
import Derived.Test.YtmgifejmheoddaaRdSt
namespace Go.Proofs.Ytmgifejmheoddaa
open Go.RowKit
set_option linter.unusedVariables false

def sOp (o : Option (List UInt8)) : OpD × Option (List UInt8) :=
  if (sByte o).1 = 1 then (⟨1, ⟨(sText (sByte o).2).1.toArray⟩, ⟨(sText (sText (sByte o).2).2).1.toArray⟩⟩, (sText (sText (sByte o).2).2).2)
  else (⟨(sByte o).1.toNat, ⟨(sText (sByte o).2).1.toArray⟩, ⟨#[]⟩⟩, (sText (sByte o).2).2)
def goP : Nat → Option (List UInt8) → List OpD × Option (List UInt8)
  | 0, o => ([], o)
  | _ + 1, none => ([], none)
  | n + 1, some l => ((sOp (some l)).1 :: (goP n (sOp (some l)).2).1, (goP n (sOp (some l)).2).2)
theorem goP_none (n : Nat) : goP n none = ([], none) := by cases n <;> rfl
def least64 (n : Nat) : Nat := if n ≤ 64 then n else 0
def batG (l : List UInt8) : List OpD × Option (List UInt8) := goP (least64 (sNum (sNum (some l)).2).1) (sNum (sNum (some l)).2).2
def batP (l : List UInt8) : Option (Int × List OpD) :=
  if (batG l).2 = some [] ∧ batRight (sNum (some l)).1 (batG l).1 = true then some ((sNum (some l)).1, (batG l).1) else none

def BatOut (w : World) (o : Option (Int × List OpD)) (e : Ending) (w' : World) : Prop :=
  Below w.heap.size w w' ∧
  match o with
  | some (s, m) => ∃ a c, e = .returned (.tuple #[.agg #[.int .i64 s, .slice a m.length c], .int .i64 0]) ∧ w'.ownsRow (w.heap.size + 1) 26 3 (.slice a m.length c) m.length (opRow m)
  | none => e = .returned (.tuple #[.agg #[.int .i64 0, .slice none 0 0], .int .i64 20])

theorem row_num {w : World} {B : Nat} {e : TypeId} {sz : Nat} {v : Value} {n m : Nat} {xs : List Value} (h : m = n) (ho : w.ownsRow B e sz v n xs) : w.ownsRow B e sz v m xs := by subst h; exact ho
theorem cells_below {w w' : World} {q : Nat} {o : Obj} (h : w.heap[q]? = some o) (hb : Below w.heap.size w w') : w'.heap[q]? = some o := (hb.block q (blk_lt h)).trans h
theorem grown_blk {w w' : World} {q p : Nat} {o : Obj} (h : w.heap[q]? = some o) (hg : w.grownBy w' (some p)) (hne : q ≠ p) : w'.heap[q]? = some o :=
  (hg.block q (blk_lt h) (fun e => hne (by cases e; rfl))).trans h
/-- behind a step of the Reader -/
theorem grown_row {w w' : World} {p B : Nat} {v : Value} {n : Nat} {xs : List Value} (h : w.ownsRow B 26 3 v n xs) (hg : w.grownBy w' (some p)) (hp : p < B) : w'.ownsRow B 26 3 v n xs :=
  row_same h fun k hk => hg.block k (World.ownsRow.lt h k hk).2 (fun e => by have := (World.ownsRow.lt h k hk).1; cases e; omega)

/-- what holds while Parse goes on: the Reader, the batch that grows in block q with its row, the result's block -/
def PSt (B q p : Nat) (go : Option Nat) (sq : Nat) (v : Value) (k : Nat) (xs : List Value) (w : World) (o : Option (List UInt8)) (wx : World) : Prop :=
  RS wx p go o ∧ wx.heap[q]? = some (.cells #[.int .i64 sq, v] 24 (0, 0)) ∧ wx.heap[w.heap.size]? = some (.cells #[.int .i64 0, .slice none 0 0] 24 (0, 0)) ∧
  wx.ownsRow B 26 3 v k xs ∧ B ≤ wx.heap.size ∧ Below w.heap.size w wx
/-- where all of it lies -/
def PLie (B q p : Nat) (go : Option Nat) (w : World) : Prop := p < B ∧ q < B ∧ q ≠ p ∧ w.heap.size < p ∧ w.heap.size < q ∧ (∀ k, go = some k → k < B ∧ k ≠ q)
theorem PSt.grown {B q p : Nat} {go : Option Nat} {sq : Nat} {v : Value} {k : Nat} {xs : List Value} {w wx wy : World} {o o' : Option (List UInt8)} (hL : PLie B q p go w) (h : PSt B q p go sq v k xs w o wx) (hr : RS wy p go o') (hg : wx.grownBy wy (some p)) : PSt B q p go sq v k xs w o' wy := by
  obtain ⟨l1, l2, l3, l4, l5, l6⟩ := hL
  obtain ⟨h1, h2, h3, h4, h5, h6⟩ := h
  exact ⟨hr, grown_blk h2 hg l3, grown_blk h3 hg (by omega), grown_row h4 hg l1, Nat.le_trans h5 hg.size, grew h6 hg (Nat.le_of_lt l4) h6.size⟩
theorem PSt.chg {B q p s : Nat} {go : Option Nat} {sq : Nat} {v : Value} {k : Nat} {xs : List Value} {w wx wy : World} {o : Option (List UInt8)} (hL : PLie B q p go w) (h : PSt B q p go sq v k xs w o wx) (hc : Chg (fun k => k = s) wx wy) (hs : B ≤ s) (hv : v.ownBlock ≠ some s) : PSt B q p go sq v k xs w o wy := by
  obtain ⟨l1, l2, l3, l4, l5, l6⟩ := hL
  obtain ⟨h1, h2, h3, h4, h5, h6⟩ := h
  refine ⟨h1.chg hc (by omega) (fun k hk e => by have := (l6 k hk).1; omega), blk_chg h2 hc (by omega), blk_chg h3 hc (by omega), row_same h4 fun k hk => hc.block k (World.ownsRow.lt h4 k hk).2 (fun e => hv (by rw [hk, e])), Nat.le_trans h5 hc.size, h6.trans (hc.below (fun k e => by omega) h6.size)⟩
theorem PSt.alloc {B q p : Nat} {go : Option Nat} {sq : Nat} {v : Value} {k : Nat} {xs : List Value} {w wx : World} {o : Option (List UInt8)} (hL : PLie B q p go w) (h : PSt B q p go sq v k xs w o wx) (x : Obj) : PSt B q p go sq v k xs w o (wx.alloc x) :=
  h.chg (s := wx.heap.size) hL ((Chg.of_below (F := fun k => k = wx.heap.size) ((Below.refl _ wx).alloc (Nat.le_refl _) x))) h.2.2.2.2.1 (fun e => by have := (World.ownsRow.lt h.2.2.2.1 _ e).2; omega)
theorem PSt.set {B q p s : Nat} {go : Option Nat} {sq : Nat} {v : Value} {k : Nat} {xs : List Value} {w wx : World} {o : Option (List UInt8)} (hL : PLie B q p go w) (h : PSt B q p go sq v k xs w o wx) (hs : B ≤ s) (hv : v.ownBlock ≠ some s) (j : Nat) (u : Value) : PSt B q p go sq v k xs w o (wx.setCell ⟨s, j, none⟩ u) :=
  h.chg hL (Chg.set wx s j u) hs hv
/-- behind the append of an op -/
theorem PSt.app {B q p : Nat} {go : Option Nat} {sq : Nat} {v v' : Value} {k k' : Nat} {xs ys : List Value} {w wx wy : World} {o : Option (List UInt8)} (hL : PLie B q p go w) (h : PSt B q p go sq v k xs w o wx) (ho : wy.ownsRow B 26 3 v' k' ys) (ha : App wx wy v v') : PSt B q p go sq v' k' ys w o (wy.setCell ⟨q, 1, none⟩ v') := by
  obtain ⟨l1, l2, l3, l4, l5, l6⟩ := hL
  obtain ⟨h1, h2, h3, h4, h5, h6⟩ := h
  have hc := Chg.of_app ha
  have hv : ∀ k, v.ownBlock = some k → B ≤ k := fun k hk => (World.ownsRow.lt h4 k hk).1
  have h2' := blk_chg h2 hc (fun e => by have := hv _ e; omega)
  have hc2 := Chg.set wy q 1 v'
  refine ⟨(h1.chg hc (fun e => by have := hv _ e; omega) (fun k hk e => by have := hv _ e; have := (l6 k hk).1; omega)).chg hc2 (by omega) (fun k hk e => (l6 k hk).2 e), heap_set1 h2', blk_chg (blk_chg h3 hc (fun e => by have := hv _ e; omega)) hc2 (by omega), ?_, ?_, ?_⟩
  · exact row_same ho fun k hk => hc2.block k (World.ownsRow.lt ho k hk).2 (fun e => by have := (World.ownsRow.lt ho k hk).1; omega)
  · have := hc.size; have := hc2.size; omega
  · exact (h6.trans (hc.below (fun k e => by have := hv _ e; omega) h6.size)).trans (hc2.below (fun k e => by omega) (Nat.le_trans h6.size hc.size))

set_option maxRecDepth 100000 in
set_option maxHeartbeats 8000000 in
theorem batparse {w : World} {ao : Option Addr} {c : Nat} {l : List UInt8} (h : RB w (.slice ao l.length c) l) (hl : l.length ≤ 140737488355328) :
    Calls Try.prog 24 #[.slice ao l.length c] w (BatOut w (batP l)) := by
  have h0 := newreader_any (h.alloc (.cells #[.int .i64 0, .slice none 0 0] 24)) hl
  have H0 := Lib.hid h0
  have HG : Hid (batG l = batG l) := Lib.hid rfl
  clear h h0
  go_enter Try.func24, Try.ntmps24
  go_wp2_with fail; (with_reducible refine (H0.out).mono ?_); rintro e w1 ⟨p, go, rfl, hp, hgo, hrd, hb⟩
  have hb2 : w1.heap[w.heap.size]? = some (.cells #[.int .i64 0, .slice none 0 0] 24 (0, 0)) := by
    rw [hb.block _ (by simp)]; exact heap_alloc_new w _
  have B1 : Below w.heap.size w w1 := ((Below.refl _ w).alloc (Nat.le_refl _) _).trans (hb.mono (by simp))
  have hz1 : w.heap.size < w1.heap.size := blk_lt hb2
  have hpw : w.heap.size < p := by simp at hp; omega
  have hgw : ∀ k, go = some k → w.heap.size < k := fun k hk => by have := hgo k hk; simp at this; omega
  have Hb2 := Lib.hid hb2
  have HB1 := Lib.hid B1
  have Hgw := Lib.hid hgw
  have hs1 := snum_any (o := some l) (show RS w1 p go (some l) from hrd)
  have Hs1 := Lib.hid hs1
  have hL0 : LenOk l.length (some l) := fun r hr => by cases hr; exact Nat.le_refl _
  have hplt : p < w1.heap.size := hrd.lt
  have hL1 := sNum_len hL0
  have Hlt1 := Lib.hid (sNum_lt (some l))
  have HP : Hid (batP l = if (batG l).2 = some [] ∧ batRight (sNum (some l)).1 (batG l).1 = true then some (((sNum (some l)).1 : Int), (batG l).1) else none) := Lib.hid rfl
  have HG : Hid (batG l = goP (least64 (sNum (sNum (some l)).2).1) (sNum (sNum (some l)).2).2) := Lib.hid rfl
  generalize hE : sNum (some l) = E1 at *
  obtain ⟨sq, o1⟩ := E1
  simp only at Hs1 hL1 Hlt1 HP HG
  have hsq := Hlt1.out
  have hL2 := sNum_len hL1
  have Hlt2 := Lib.hid (sNum_lt o1)
  clear hb hb2 B1 hgo hs1 hL0 hE hp hgw H0
  go_wp2_with fail; (with_reducible refine (Hs1.out).mono ?_); rintro e w2 ⟨rfl, hr2, hg2⟩
  have hb2 := grown_blk Hb2.out hg2 (by omega)
  have hB2 := grew HB1.out hg2 (Nat.le_of_lt hpw) (Nat.le_of_lt hz1)
  have hz2 := hg2.size
  have Hr2 := Lib.hid hr2
  have Hb2' := Lib.hid hb2
  have HB2 := Lib.hid hB2
  clear hr2 hb2 hB2 hg2 Hs1
  go_upto_region 3 with fail
  refine gen_wp (fun w' => w'.heap[w2.heap.size]? = some (.cells #[.int .i64 sq, .slice none 0 0] 24 (0, 0)) ∧ w'.heap[w.heap.size]? = some (.cells #[.int .i64 0, .slice none 0 0] 24 (0, 0)) ∧ RS w' p go o1 ∧ Below w.heap.size w w') ?_ ?_
  · exact ⟨heap_alloc_new w2 _, blk_alloc Hb2'.out _, Hr2.out.alloc _, HB2.out.alloc HB2.out.size _⟩
  rintro w3 ⟨k5, k2, hr3, hB3⟩
  have hq2 : w.heap.size < w2.heap.size := by omega
  have hqp : w2.heap.size ≠ p := by omega
  have hgq : ∀ k, go = some k → k < w2.heap.size := fun k hk => Nat.lt_of_lt_of_le (hrd.golt k hk).1 hz2
  generalize w2.heap.size = q at *
  have hs2 := snum_any hr3
  have Hs2 := Lib.hid hs2
  generalize hE : sNum o1 = E2 at *
  obtain ⟨n, o2⟩ := E2
  simp only at Hs2 hL2 Hlt2 HG
  have hn := Hlt2.out
  have K5 := Lib.hid k5
  have K2 := Lib.hid k2
  have HB3 := Lib.hid hB3
  have Hgq := Lib.hid hgq
  have hq3 : q < w3.heap.size := blk_lt k5
  clear hE hs2 hgq k5 k2 hr3 hB3 Hr2 HB2 Hb2' hz2 HB1 Hb2 hL1 hrd
  go_wp2_with fail; (with_reducible refine (Hs2.out).mono ?_); rintro e w4 ⟨rfl, hr4, hg4⟩
  have k5 := grown_blk K5.out hg4 hqp
  have k2 := grown_blk K2.out hg4 (by omega)
  have hB4 := grew HB3.out hg4 (Nat.le_of_lt hpw) HB3.out.size
  have hz4 := hg4.size
  clear hg4 K5 K2 HB3 Hs2
  have hq4 : q < w4.heap.size := by omega
  have hpq : p < w4.heap.size := hr4.lt
  have Hinf := Lib.hid opInfo
  obtain ⟨i0, hi, hzo, hz3, hzb⟩ := info_parts Hinf.out
  have Hi := Lib.hid hi
  have Hz0 := Lib.hid hzo
  have Hz3 := Lib.hid hz3
  have Hzb := Lib.hid hzb
  clear hi hzo hz3 hzb Hinf
  have hn64 : least64 n ≤ 64 := by unfold least64; split <;> omega
  have hnn : least64 n ≤ n := by unfold least64; split <;> omega
  have HB4 := Lib.hid hB4
  have hLie : PLie w4.heap.size q p go w := ⟨hpq, hq4, hqp, hpw, by omega, fun k hk => ⟨by have := Hgq.out k hk; omega, by have := Hgq.out k hk; omega⟩⟩
  have HLie := Lib.hid hLie
  have HL2 := Lib.hid hL2
  have hS4 : PSt w4.heap.size q p go sq (.slice none 0 0) 0 [] w o2 w4 := ⟨hr4, k5, k2, World.ownsRow_nil _ _ _ _, Nat.le_refl _, HB4.out⟩
  have HS4 := Lib.hid hS4
  clear hL2 hS4 hr4 hLie Hgq hB4
  go_wp2
  go_loopw [6] (fun i wr => ∃ (k : Nat) (D : List OpD) (o : Option (List UInt8)) (v : Value), k ≤ least64 n ∧ i = .int .i64 ((n : Int) - k) ∧ goP (least64 n) o2 = (D ++ (goP (least64 n - k) o).1, (goP (least64 n - k) o).2) ∧ D.length = k ∧ (∀ x ∈ D, OpOk x) ∧ LenOk l.length o ∧ PSt w4.heap.size q p go sq v k (opRow D) w o wr) (fun i _ => (intOf i).toNat)
  case atStart => exact ⟨0, [], o2, _, Nat.zero_le _, by go_num, rfl, rfl, (fun x hx => by cases hx), HL2.out, HS4.out⟩
  case round =>
    obtain ⟨k, D, o, v, hk, rfl, hgp, hDk, hDo, hLo, hS⟩ := hrel
    have HS := Lib.hid hS
    have HD := Lib.hid hDo
    have HGP := Lib.hid hgp
    have HLo := Lib.hid hLo
    have HDk := Lib.hid hDk
    obtain ⟨r1, r2, r3, r4, r5, r6⟩ := hS
    clear hgp hDo hLo hDk HS4 k5 k2 HL2
    have Hrow := Lib.hid r4
    have Hr1 := Lib.hid r1
    obtain ⟨k50, k51, f50, f51⟩ := cell_two r2
    obtain ⟨k20, k21, f20, f21⟩ := cell_two r3
    clear r1 r2 r3 r4
    have hkm : k ≤ 64 := by omega
    by_cases hgo2 : k < least64 n ∧ o ≠ none
    case neg =>
      have hfin : goP (least64 n - k) o = ([], o) := by
        by_cases hk2 : k < least64 n
        · have : o = none := Classical.byContradiction fun h => hgo2 ⟨hk2, h⟩
          rw [this, goP_none]
        · rw [show least64 n - k = 0 by omega]; rfl
      have hG2 : batG l = (D, o) := by rw [HG.out, HGP.out, hfin, List.append_nil]
      obtain ⟨a', c', rfl, hT⟩ := ops_of_row HDk.out.symm Hrow.out HD.out
      have hDm : D.length ≤ maxLen := by rw [HDk.out]; unfold maxLen; omega
      have hP2 : batP l = if o = some [] ∧ batRight sq D = true then some ((sq : Int), D) else none := by rw [HP.out, hG2]
      have HP2 := Lib.hid hP2
      have HT := Lib.hid hT
      have hcase : (n : Int) - k = 0 ∨ (k = 0 ∧ 64 < n) ∨ ((0 : Int) < (n : Int) - k ∧ (n : Int) - k ≤ 64 ∧ o = none) := by
        by_cases hk2 : k < least64 n
        · have h1 : o = none := Classical.byContradiction fun h => hgo2 ⟨hk2, h⟩
          have : n ≤ 64 := by unfold least64 at hk2; split at hk2 <;> omega
          exact .inr (.inr ⟨by omega, by omega, h1⟩)
        · by_cases h64 : n ≤ 64
          · have : least64 n = n := by unfold least64; rw [if_pos h64]
            exact .inl (by omega)
          · have : least64 n = 0 := by unfold least64; rw [if_neg h64]
            exact .inr (.inl ⟨by omega, by omega⟩)
      clear hfin hG2 hP2 hT hgo2
      rcases hcase with hc1 | ⟨rfl, hc2⟩ | ⟨hc3, hc4, hon⟩
      · have hc1 : (n : Int) = k := by omega
        have hc1' : n = k := by omega
        subst hc1'
        rw [show (n : Int) - (n : Nat) = 0 by omega]
        by_cases ho : o = some []
        · have hd := sdone_any Hr1.out 0 (by rw [if_pos ho])
          have Hd := Lib.hid hd
          clear hd
          go_wp2_with fail; (with_reducible refine (Hd.out).mono ?_); rintro e w5 ⟨rfl, rfl⟩
          cases hbr : batRight sq D with
          | true =>
            have hck := batcheck (c := c') HT.out hDm sq 0 (by rw [hbr]; rfl)
            have Hck := Lib.hid hck
            have hpf : batP l = some ((sq : Int), D) := by rw [HP2.out, if_pos ⟨ho, hbr⟩]
            have Hpf := Lib.hid hpf
            clear hck hpf hbr ho
            go_wp2_with fail; (with_reducible refine (Hck.out).mono ?_); rintro e w6 ⟨rfl, hb6⟩
            have g5 := cells_below HS.out.2.1 hb6
            have g2 := cells_below HS.out.2.2.1 hb6
            obtain ⟨e50, e51, t50, t51⟩ := cell_two g5
            obtain ⟨e20, e21, t20, t21⟩ := cell_two g2
            have HR6 := Lib.hid (row_past HS.out.2.2.2.1 hb6 (Nat.le_refl _))
            have HB6 := Lib.hid (r6.trans (hb6.mono r6.size))
            clear g5 g2
            go_wp2
            refine bodyPost_ret (v := .tuple #[.agg #[.int .i64 sq, .slice a' D.length c'], .int .i64 0]) (by simp [results, Try.results24, go_sem, e20, e21]) rfl ?_
            rw [Hpf.out]
            refine ⟨(HB6.out.setCell (Nat.le_refl _) _).setCell (Nat.le_refl _) _, a', c', rfl, ?_⟩
            have h1 := row_same HR6.out fun k hk => ((Chg.set _ w.heap.size 0 (.int .i64 sq)).trans (Chg.set _ w.heap.size 1 (.slice a' D.length c'))).block k (World.ownsRow.lt HR6.out k hk).2 (fun e => by have := (World.ownsRow.lt HR6.out k hk).1; have := hq4; omega)
            exact row_num HDk.out (row_mono h1 (by omega))
          | false =>
            have hck := batcheck (c := c') HT.out hDm sq 100 (by rw [hbr]; rfl)
            have Hck := Lib.hid hck
            have hpf : batP l = none := by rw [HP2.out, if_neg (by rintro ⟨_, h⟩; rw [hbr] at h; cases h)]
            have Hpf := Lib.hid hpf
            clear hck hpf hbr ho
            go_wp2_with fail; (with_reducible refine (Hck.out).mono ?_); rintro e w6 ⟨rfl, hb6⟩
            have g5 := cells_below HS.out.2.1 hb6
            have g2 := cells_below HS.out.2.2.1 hb6
            obtain ⟨e50, e51, t50, t51⟩ := cell_two g5
            obtain ⟨e20, e21, t20, t21⟩ := cell_two g2
            have HR6 := Lib.hid (row_past HS.out.2.2.2.1 hb6 (Nat.le_refl _))
            have HB6 := Lib.hid (r6.trans (hb6.mono r6.size))
            clear g5 g2
            go_wp2
            refine bodyPost_ret (v := .tuple #[.agg #[.int .i64 0, .slice none 0 0], .int .i64 20]) (by simp [results, Try.results24, go_sem, e20, e21]) rfl ?_
            rw [Hpf.out]
            exact ⟨(HB6.out.setCell (Nat.le_refl _) _).setCell (Nat.le_refl _) _, rfl⟩
        · have hd := sdone_any Hr1.out 20 (by rw [if_neg ho])
          have Hd := Lib.hid hd
          have hpf : batP l = none := by rw [HP2.out, if_neg (by rintro ⟨h, _⟩; exact ho h)]
          have Hpf := Lib.hid hpf
          clear hd hpf ho
          go_wp2_with fail; (with_reducible refine (Hd.out).mono ?_); rintro e w5 ⟨rfl, rfl⟩
          go_wp2
          refine bodyPost_ret (v := .tuple #[.agg #[.int .i64 0, .slice none 0 0], .int .i64 20]) (by simp [results, Try.results24, go_sem, k20, k21]) rfl ?_
          rw [Hpf.out]
          exact ⟨(r6.setCell (Nat.le_refl _) _).setCell (Nat.le_refl _) _, rfl⟩
      · rw [show (n : Int) - (0 : Nat) = n by omega]
        by_cases ho : o = some []
        · have hd := sdone_any Hr1.out 0 (by rw [if_pos ho])
          have Hd := Lib.hid hd
          clear hd
          go_wp2_with fail; (with_reducible refine (Hd.out).mono ?_); rintro e w5 ⟨rfl, rfl⟩
          cases hbr : batRight sq D with
          | true =>
            have hck := batcheck (c := c') HT.out hDm sq 0 (by rw [hbr]; rfl)
            have Hck := Lib.hid hck
            have hpf : batP l = some ((sq : Int), D) := by rw [HP2.out, if_pos ⟨ho, hbr⟩]
            have Hpf := Lib.hid hpf
            clear hck hpf hbr ho
            go_wp2_with fail; (with_reducible refine (Hck.out).mono ?_); rintro e w6 ⟨rfl, hb6⟩
            have g5 := cells_below HS.out.2.1 hb6
            have g2 := cells_below HS.out.2.2.1 hb6
            obtain ⟨e50, e51, t50, t51⟩ := cell_two g5
            obtain ⟨e20, e21, t20, t21⟩ := cell_two g2
            have HR6 := Lib.hid (row_past HS.out.2.2.2.1 hb6 (Nat.le_refl _))
            have HB6 := Lib.hid (r6.trans (hb6.mono r6.size))
            clear g5 g2
            go_wp2
            refine bodyPost_ret (v := .tuple #[.agg #[.int .i64 sq, .slice a' D.length c'], .int .i64 0]) (by simp [results, Try.results24, go_sem, e20, e21]) rfl ?_
            rw [Hpf.out]
            refine ⟨(HB6.out.setCell (Nat.le_refl _) _).setCell (Nat.le_refl _) _, a', c', rfl, ?_⟩
            have h1 := row_same HR6.out fun k hk => ((Chg.set _ w.heap.size 0 (.int .i64 sq)).trans (Chg.set _ w.heap.size 1 (.slice a' D.length c'))).block k (World.ownsRow.lt HR6.out k hk).2 (fun e => by have := (World.ownsRow.lt HR6.out k hk).1; have := hq4; omega)
            exact row_num HDk.out (row_mono h1 (by omega))
          | false =>
            have hck := batcheck (c := c') HT.out hDm sq 100 (by rw [hbr]; rfl)
            have Hck := Lib.hid hck
            have hpf : batP l = none := by rw [HP2.out, if_neg (by rintro ⟨_, h⟩; rw [hbr] at h; cases h)]
            have Hpf := Lib.hid hpf
            clear hck hpf hbr ho
            go_wp2_with fail; (with_reducible refine (Hck.out).mono ?_); rintro e w6 ⟨rfl, hb6⟩
            have g5 := cells_below HS.out.2.1 hb6
            have g2 := cells_below HS.out.2.2.1 hb6
            obtain ⟨e50, e51, t50, t51⟩ := cell_two g5
            obtain ⟨e20, e21, t20, t21⟩ := cell_two g2
            have HR6 := Lib.hid (row_past HS.out.2.2.2.1 hb6 (Nat.le_refl _))
            have HB6 := Lib.hid (r6.trans (hb6.mono r6.size))
            clear g5 g2
            go_wp2
            refine bodyPost_ret (v := .tuple #[.agg #[.int .i64 0, .slice none 0 0], .int .i64 20]) (by simp [results, Try.results24, go_sem, e20, e21]) rfl ?_
            rw [Hpf.out]
            exact ⟨(HB6.out.setCell (Nat.le_refl _) _).setCell (Nat.le_refl _) _, rfl⟩
        · have hd := sdone_any Hr1.out 20 (by rw [if_neg ho])
          have Hd := Lib.hid hd
          have hpf : batP l = none := by rw [HP2.out, if_neg (by rintro ⟨h, _⟩; exact ho h)]
          have Hpf := Lib.hid hpf
          clear hd hpf ho
          go_wp2_with fail; (with_reducible refine (Hd.out).mono ?_); rintro e w5 ⟨rfl, rfl⟩
          go_wp2
          refine bodyPost_ret (v := .tuple #[.agg #[.int .i64 0, .slice none 0 0], .int .i64 20]) (by simp [results, Try.results24, go_sem, k20, k21]) rfl ?_
          rw [Hpf.out]
          exact ⟨(r6.setCell (Nat.le_refl _) _).setCell (Nat.le_refl _) _, rfl⟩
      · have hb := sbad_any Hr1.out
        rw [show o.isNone = true by rw [hon]; rfl] at hb
        have Hb := Lib.hid hb
        clear hb hon
        go_wp2_with fail; (with_reducible refine (Hb.out).mono ?_); rintro e w5 ⟨rfl, rfl⟩
        by_cases ho : o = some []
        · have hd := sdone_any Hr1.out 0 (by rw [if_pos ho])
          have Hd := Lib.hid hd
          clear hd
          go_wp2_with fail; (with_reducible refine (Hd.out).mono ?_); rintro e w5 ⟨rfl, rfl⟩
          cases hbr : batRight sq D with
          | true =>
            have hck := batcheck (c := c') HT.out hDm sq 0 (by rw [hbr]; rfl)
            have Hck := Lib.hid hck
            have hpf : batP l = some ((sq : Int), D) := by rw [HP2.out, if_pos ⟨ho, hbr⟩]
            have Hpf := Lib.hid hpf
            clear hck hpf hbr ho
            go_wp2_with fail; (with_reducible refine (Hck.out).mono ?_); rintro e w6 ⟨rfl, hb6⟩
            have g5 := cells_below HS.out.2.1 hb6
            have g2 := cells_below HS.out.2.2.1 hb6
            obtain ⟨e50, e51, t50, t51⟩ := cell_two g5
            obtain ⟨e20, e21, t20, t21⟩ := cell_two g2
            have HR6 := Lib.hid (row_past HS.out.2.2.2.1 hb6 (Nat.le_refl _))
            have HB6 := Lib.hid (r6.trans (hb6.mono r6.size))
            clear g5 g2
            go_wp2
            refine bodyPost_ret (v := .tuple #[.agg #[.int .i64 sq, .slice a' D.length c'], .int .i64 0]) (by simp [results, Try.results24, go_sem, e20, e21]) rfl ?_
            rw [Hpf.out]
            refine ⟨(HB6.out.setCell (Nat.le_refl _) _).setCell (Nat.le_refl _) _, a', c', rfl, ?_⟩
            have h1 := row_same HR6.out fun k hk => ((Chg.set _ w.heap.size 0 (.int .i64 sq)).trans (Chg.set _ w.heap.size 1 (.slice a' D.length c'))).block k (World.ownsRow.lt HR6.out k hk).2 (fun e => by have := (World.ownsRow.lt HR6.out k hk).1; have := hq4; omega)
            exact row_num HDk.out (row_mono h1 (by omega))
          | false =>
            have hck := batcheck (c := c') HT.out hDm sq 100 (by rw [hbr]; rfl)
            have Hck := Lib.hid hck
            have hpf : batP l = none := by rw [HP2.out, if_neg (by rintro ⟨_, h⟩; rw [hbr] at h; cases h)]
            have Hpf := Lib.hid hpf
            clear hck hpf hbr ho
            go_wp2_with fail; (with_reducible refine (Hck.out).mono ?_); rintro e w6 ⟨rfl, hb6⟩
            have g5 := cells_below HS.out.2.1 hb6
            have g2 := cells_below HS.out.2.2.1 hb6
            obtain ⟨e50, e51, t50, t51⟩ := cell_two g5
            obtain ⟨e20, e21, t20, t21⟩ := cell_two g2
            have HR6 := Lib.hid (row_past HS.out.2.2.2.1 hb6 (Nat.le_refl _))
            have HB6 := Lib.hid (r6.trans (hb6.mono r6.size))
            clear g5 g2
            go_wp2
            refine bodyPost_ret (v := .tuple #[.agg #[.int .i64 0, .slice none 0 0], .int .i64 20]) (by simp [results, Try.results24, go_sem, e20, e21]) rfl ?_
            rw [Hpf.out]
            exact ⟨(HB6.out.setCell (Nat.le_refl _) _).setCell (Nat.le_refl _) _, rfl⟩
        · have hd := sdone_any Hr1.out 20 (by rw [if_neg ho])
          have Hd := Lib.hid hd
          have hpf : batP l = none := by rw [HP2.out, if_neg (by rintro ⟨h, _⟩; exact ho h)]
          have Hpf := Lib.hid hpf
          clear hd hpf ho
          go_wp2_with fail; (with_reducible refine (Hd.out).mono ?_); rintro e w5 ⟨rfl, rfl⟩
          go_wp2
          refine bodyPost_ret (v := .tuple #[.agg #[.int .i64 0, .slice none 0 0], .int .i64 20]) (by simp [results, Try.results24, go_sem, k20, k21]) rfl ?_
          rw [Hpf.out]
          exact ⟨(r6.setCell (Nat.le_refl _) _).setCell (Nat.le_refl _) _, rfl⟩
    case pos =>
      obtain ⟨hk2, hon⟩ := hgo2
      have h64 : n ≤ 64 := by unfold least64 at hk2; split at hk2 <;> omega
      have hl64 : least64 n = n := by unfold least64; rw [if_pos h64]
      obtain ⟨m, hm⟩ : ∃ m, least64 n - k = m + 1 := ⟨least64 n - k - 1, by omega⟩
      obtain ⟨l', rfl⟩ : ∃ l', o = some l' := by
        cases o with
        | none => exact absurd rfl hon
        | some l' => exact ⟨l', rfl⟩
      have hgn : (goP (least64 n - k) (some l')) = ((sOp (some l')).1 :: (goP m (sOp (some l')).2).1, (goP m (sOp (some l')).2).2) := by rw [hm]; rfl
      have Hgn := Lib.hid hgn
      have Hm := Lib.hid hm
      have Hl64 := Lib.hid hl64
      have Hk2 := Lib.hid hk2
      have hi1 : (0 : Int) < (n : Int) - k := by omega
      have hi2 : (n : Int) - k ≤ 64 := by omega
      clear hgn hm hon hk2 hl64
      have hL3 := sByte_len HLo.out
      have hby := sbyte_any Hr1.out
      have HsOp : Hid (sOp (some l') = if (sByte (some l')).1 = 1 then (⟨1, ⟨(sText (sByte (some l')).2).1.toArray⟩, ⟨(sText (sText (sByte (some l')).2).2).1.toArray⟩⟩, (sText (sText (sByte (some l')).2).2).2)
  else (⟨(sByte (some l')).1.toNat, ⟨(sText (sByte (some l')).2).1.toArray⟩, ⟨#[]⟩⟩, (sText (sByte (some l')).2).2)) := Lib.hid rfl
      generalize sByte (some l') = E3 at *
      obtain ⟨c3, o3⟩ := E3
      simp only at hL3 hby HsOp
      obtain ⟨hL4, hT4⟩ := sText_len hL3
      have Hby := Lib.hid hby
      have hc8 := c3.toNat_lt
      have hc1 : c3 = 1 ↔ (c3.toNat : Int) = 1 := by
        constructor
        · rintro rfl; rfl
        · intro h
          have h1 : c3.toNat = (1 : UInt8).toNat := by rw [show (1 : UInt8).toNat = 1 from rfl]; omega
          exact UInt8.toNat_inj.1 h1
      have hK1 : (0 : Int) ≤ (c3.toNat : Int) ∧ (c3.toNat : Int) < 256 := by omega
      have HsOp2 : Hid (sOp (some l') = if (c3.toNat : Int) = 1 then (⟨1, ⟨(sText o3).1.toArray⟩, ⟨(sText (sText o3).2).1.toArray⟩⟩, (sText (sText o3).2).2) else (⟨(c3.toNat : Int), ⟨(sText o3).1.toArray⟩, ⟨#[]⟩⟩, (sText o3).2)) := Lib.hid (by
        rw [HsOp.out]
        by_cases h : c3 = 1
        · rw [if_pos h, if_pos (hc1.1 h)]
        · rw [if_neg h, if_neg (fun e => h (hc1.2 e))])
      clear hc1 HsOp hc8
      generalize (c3.toNat : Int) = K at *
      obtain ⟨hK0, hK8⟩ := hK1
      have hw8 : IntKind.i64.wrap K = K := by rw [IntKind.wrap_i64]; omega
      clear hby
      have hb := sbad_any Hr1.out
      rw [show (some l').isNone = false from rfl] at hb
      have Hb := Lib.hid hb
      clear hb
      go_wp2_with fail; (with_reducible refine (Hb.out).mono ?_); rintro e w5 ⟨rfl, rfl⟩
      go_wp2_with fail; (with_reducible refine (Hby.out).mono ?_); rintro e w6 ⟨rfl, hr6, hg6⟩
      have hS6 := HS.out.grown HLie.out hr6 hg6
      have HS6 := Lib.hid hS6
      have hv6 : v.ownBlock ≠ some w6.heap.size := fun e => by have := (World.ownsRow.lt hS6.2.2.2.1 _ e).2; omega
      have hB6 := hS6.2.2.2.2.1
      have HB6 := Lib.hid hB6
      have Hv6 := Lib.hid hv6
      clear hr6 hg6 hS6 hv6 hB6
      go_upto_region 7 with fail
      refine gen_wp (fun w' => w'.heap[w6.heap.size]? = some (.cells #[.int .i64 K, .string ⟨#[]⟩, .string ⟨#[]⟩] 26 (0, 0)) ∧ PSt w4.heap.size q p go sq v k (opRow D) w o3 w') ?_ ?_
      · exact ⟨heap_alloc_new w6 _, HS6.out.alloc HLie.out _⟩
      rintro w7 ⟨b7, hS7⟩
      generalize w6.heap.size = s7 at *
      have hs7p : s7 ≠ p := by have := HB6.out; omega
      have htx := stext_any hS7.1
      have Htx := Lib.hid htx
      generalize sText o3 = E4 at *
      obtain ⟨t4, o4⟩ := E4
      simp only at hL4 hT4 Htx HsOp2
      have HS7 := Lib.hid hS7
      have B7 := Lib.hid b7
      have HL4 := Lib.hid hL4
      have hL5 := sText_len hL4
      have HL5 := Lib.hid hL5
      clear htx hS7 b7 HS6 hL4 hL5 hL3
      go_wp2_with fail; (with_reducible refine (Htx.out).mono ?_); rintro e w8 ⟨v8, rfl, hrb8, hr8, hg8⟩
      have hb8 := grown_blk B7.out hg8 hs7p
      have hS8 := HS7.out.grown HLie.out hr8 hg8
      have hcv8 := hrb8.string
      obtain ⟨e0, e1, e2, f0, f1, f2⟩ := cell_three hb8
      have Hb8 := Lib.hid hb8
      have HS8 := Lib.hid hS8
      clear hb8 hS8 hrb8 hr8 hg8 HS7 B7
      go_upto_region 8 with fail
      refine gen_wp (fun w' => w'.heap[s7]? = some (.cells #[.int .i64 K, .string ⟨t4.toArray⟩, .string ⟨#[]⟩] 26 (0, 0)) ∧ PSt w4.heap.size q p go sq v k (opRow D) w o4 w') ?_ ?_
      · exact ⟨heap_set_row Hb8.out 1 _, HS8.out.set HLie.out HB6.out Hv6.out _ _⟩
      clear Hb8 HS8 hcv8 e0 e1 e2 f0 f1 f2
      rintro w9 ⟨b9, hS9⟩
      have HS9 := Lib.hid hS9
      have B9 := Lib.hid b9
      obtain ⟨e0, e1, e2, f0, f1, f2⟩ := cell_three b9
      by_cases hKc : K = 1
      case neg =>
        have hsop : sOp (some l') = (⟨K, ⟨t4.toArray⟩, ⟨#[]⟩⟩, o4) := by rw [HsOp2.out, if_neg hKc]
        have Hsop := Lib.hid hsop
        obtain ⟨z50, z51, y50, y51⟩ := cell_two hS9.2.1
        clear hsop hS9 b9 HsOp2
        have hz11 := HS9.out.2.2.2.2.1
        go_wp2_with (at_builtin; go_loud (refine wpList_appN rfl (.tmp 44) (.tmp 46) 22 26 i0 (.agg #[.int .i64 0, .string ⟨#[]⟩, .string ⟨#[]⟩]) 3 40 Try.underlying22 Hi.out Hz0.out Hz3.out Hzb.out rfl (by decide) rfl w4.heap.size v k (opRow D) rfl HS9.out.2.2.2.1 #[.int .i64 K, .string ⟨t4.toArray⟩, .string ⟨#[]⟩] 1 1 (by first | rfl | (simp; done) | (simp; rfl)) rfl (by intro u hu; simp at hu; rcases hu with rfl | rfl | rfl <;> rfl) (by unfold maxLen; omega) (by omega) (by first | exact hz11 | (simp; omega)) ?_); intro v2 w2' ho2 hold2 ha2; have hb12 := blk_chg HS9.out.2.1 (Chg.of_app ha2) (fun e => by have := (World.ownsRow.lt HS9.out.2.2.2.1 _ e).1; omega); obtain ⟨x50, x51, u50, u51⟩ := cell_two hb12; clear hb12; obtain ⟨a2, c2, rfl, _⟩ := row_shape ho2)
        go_roundw
        case rel =>
          refine ⟨k + 1, D ++ [⟨K, ⟨t4.toArray⟩, ⟨#[]⟩⟩], _, .slice a2 (k + 1) c2, by have := Hk2.out; omega, by go_num, ?_, ?_, ?_, HL4.out, ?_⟩
          · rw [HGP.out, Hgn.out, Hsop.out, show least64 n - (k + 1) = m by have := Hm.out; omega, List.append_assoc]; rfl
          · rw [List.length_append, HDk.out]; rfl
          · intro x hx
            rcases List.mem_append.1 hx with hx | hx
            · exact HD.out x hx
            · rw [List.mem_singleton] at hx
              subst hx
              refine ⟨?_, ?_, ?_, ?_⟩
              · simp only; omega
              · simp only; omega
              · simp only; unfold maxLen; first | (rw [size_mk]; omega) | (simp; done) | exact Nat.zero_le _
              · simp only; unfold maxLen; first | (rw [size_mk]; omega) | (simp; done) | exact Nat.zero_le _
          · rw [opRow_append]
            exact HS9.out.app HLie.out ho2 ha2
        case measure => simp [intOf]; omega
      case pos =>
        subst hKc
        have htx := stext_any hS9.1
        have Htx := Lib.hid htx
        generalize sText o4 = E5 at *
        obtain ⟨t5, o5⟩ := E5
        simp only at Htx HsOp2 HL5
        obtain ⟨hL6, hT5⟩ := HL5.out
        have hsop : sOp (some l') = (⟨1, ⟨t4.toArray⟩, ⟨t5.toArray⟩⟩, o5) := by rw [HsOp2.out]; first | exact if_pos rfl | exact if_pos trivial
        have Hsop := Lib.hid hsop
        have HL6 := Lib.hid hL6
        clear hsop hS9 b9 HsOp2 htx hL6 HL5
        go_wp2_with fail; (with_reducible refine (Htx.out).mono ?_); rintro e w10 ⟨v10, rfl, hrb10, hr10, hg10⟩
        have hb10 := grown_blk B9.out hg10 hs7p
        have hS10 := HS9.out.grown HLie.out hr10 hg10
        have hcv10 := hrb10.string
        clear e0 e1 e2 f0 f1 f2
        obtain ⟨e0, e1, e2, f0, f1, f2⟩ := cell_three hb10
        have Hb10 := Lib.hid hb10
        have HS10 := Lib.hid hS10
        clear hb10 hS10 hrb10 hr10 hg10 HS9 B9
        go_upto_region 10 with fail
        refine gen_wp (fun w' => w'.heap[s7]? = some (.cells #[.int .i64 1, .string ⟨t4.toArray⟩, .string ⟨t5.toArray⟩] 26 (0, 0)) ∧ PSt w4.heap.size q p go sq v k (opRow D) w o5 w') ?_ ?_
        · exact ⟨heap_set_row Hb10.out 2 _, HS10.out.set HLie.out HB6.out Hv6.out _ _⟩
        clear Hb10 HS10 hcv10 e0 e1 e2 f0 f1 f2
        rintro w11 ⟨b11, hS11⟩
        have HS11 := Lib.hid hS11
        obtain ⟨e0, e1, e2, f0, f1, f2⟩ := cell_three b11
        obtain ⟨z50, z51, y50, y51⟩ := cell_two hS11.2.1
        clear b11 hS11
        have hz11 := HS11.out.2.2.2.2.1
        go_wp2_with (at_builtin; go_loud (refine wpList_appN rfl (.tmp 44) (.tmp 46) 22 26 i0 (.agg #[.int .i64 0, .string ⟨#[]⟩, .string ⟨#[]⟩]) 3 40 Try.underlying22 Hi.out Hz0.out Hz3.out Hzb.out rfl (by decide) rfl w4.heap.size v k (opRow D) rfl HS11.out.2.2.2.1 #[.int .i64 1, .string ⟨t4.toArray⟩, .string ⟨t5.toArray⟩] 1 1 (by first | rfl | (simp; done) | (simp; rfl)) rfl (by intro u hu; simp at hu; rcases hu with rfl | rfl | rfl <;> rfl) (by unfold maxLen; omega) (by omega) (by first | exact hz11 | (simp; omega)) ?_); intro v2 w2' ho2 hold2 ha2; have hb12 := blk_chg HS11.out.2.1 (Chg.of_app ha2) (fun e => by have := (World.ownsRow.lt HS11.out.2.2.2.1 _ e).1; omega); obtain ⟨x50, x51, u50, u51⟩ := cell_two hb12; clear hb12; obtain ⟨a2, c2, rfl, _⟩ := row_shape ho2)
        go_roundw
        case rel =>
          refine ⟨k + 1, D ++ [⟨1, ⟨t4.toArray⟩, ⟨t5.toArray⟩⟩], _, .slice a2 (k + 1) c2, by have := Hk2.out; omega, by go_num, ?_, ?_, ?_, HL6.out, ?_⟩
          · rw [HGP.out, Hgn.out, Hsop.out, show least64 n - (k + 1) = m by have := Hm.out; omega, List.append_assoc]; rfl
          · rw [List.length_append, HDk.out]; rfl
          · intro x hx
            rcases List.mem_append.1 hx with hx | hx
            · exact HD.out x hx
            · rw [List.mem_singleton] at hx
              subst hx
              refine ⟨?_, ?_, ?_, ?_⟩
              · simp only; omega
              · simp only; omega
              · simp only; unfold maxLen; first | (rw [size_mk]; omega) | (simp; done) | exact Nat.zero_le _
              · simp only; unfold maxLen; first | (rw [size_mk]; omega) | (simp; done) | exact Nat.zero_le _
          · rw [opRow_append]
            exact HS11.out.app HLie.out ho2 ha2
        case measure => simp [intOf]; omega
end Go.Proofs.Ytmgifejmheoddaa
