/- The contract of block.pairs. -/
import Derived.Test.YtebnllpcagkkbaaBs12
import Derived.Test.YtebnllpcagkkbaaRdSt
import Derived.Deep.RegionHeld3
namespace Go.Proofs.Ytebnllpcagkkbaa
open Go.RowKit
set_option linter.unusedVariables false
set_option linter.unusedSimpArgs false

def sRaw (n : Nat) : Option (List UInt8) → List UInt8 × Option (List UInt8)
  | none => ([], none)
  | some l => if n ≤ l.length then (l.take n, some (l.drop n)) else ([], none)
theorem sraw_any {w : World} {p : Nat} {go : Option Nat} {o : Option (List UInt8)} (h : RS w p go o) (n : Nat) :
    Calls Try.prog 49 #[.pointer (some ⟨p, 0, none⟩), .int .i64 n] w fun e w' => ∃ v, e = .returned v ∧ RB w' v (sRaw n o).1 ∧ RS w' p go (sRaw n o).2 ∧ w.grownBy w' (some p) := by
  cases o with
  | none =>
    obtain ⟨l, h⟩ := h
    refine (raw_bad h n (.inl rfl)).mono ?_
    rintro e w' ⟨rfl, h1, h2⟩
    exact ⟨_, rfl, RB.nil _ _ _, ⟨_, h1⟩, h2⟩
  | some l =>
    unfold sRaw
    by_cases hn : n ≤ l.length
    · simp only [if_pos hn]
      refine (raw_ok h n hn).mono ?_
      rintro e w' ⟨v, rfl, h1, h2, h3, _⟩
      exact ⟨v, rfl, h1, h2, h3⟩
    · simp only [if_neg hn]
      refine (raw_bad (bad := false) h n (.inr (.inr (by omega)))).mono ?_
      rintro e w' ⟨rfl, h1, h2⟩
      exact ⟨_, rfl, RB.nil _ _ _, ⟨_, h1⟩, h2⟩
theorem sRaw_len {L n : Nat} {o : Option (List UInt8)} (h : LenOk L o) : LenOk L (sRaw n o).2 ∧ (sRaw n o).1.length ≤ L := by
  cases o with
  | none => exact ⟨fun r hr => (by cases hr), Nat.zero_le _⟩
  | some l =>
    have h1 := h l rfl
    unfold sRaw
    by_cases hn : n ≤ l.length
    · simp only [if_pos hn]
      exact ⟨fun r hr => (by cases hr; rw [List.length_drop]; omega), by rw [List.length_take]; omega⟩
    · simp only [if_neg hn]
      exact ⟨fun r hr => (by cases hr), Nat.zero_le _⟩
theorem sleft_any {w : World} {p : Nat} {go : Option Nat} {l : List UInt8} (h : RS w p go (some l)) :
    Calls Try.prog 46 #[.pointer (some ⟨p, 0, none⟩)] w fun e w' => e = .returned (.int .i64 l.length) ∧ w = w' := left_any (bad := false) h

/-- one pair, and what is left -/
def stepP (last : ByteArray) (l : List UInt8) : Option (PairD × List UInt8) :=
  if (sNum (sNum (sNum (some l)).2).2).2 = none ∨ last.size < (sNum (some l)).1 then none
  else match (sRaw (sNum (sNum (sNum (some l)).2).2).1 (sRaw (sNum (sNum (some l)).2).1 (sNum (sNum (sNum (some l)).2).2).2).2).2 with
    | none => none
    | some r => some (⟨last.extract 0 (sNum (some l)).1 ++ ⟨(sRaw (sNum (sNum (some l)).2).1 (sNum (sNum (sNum (some l)).2).2).2).1.toArray⟩, ⟨(sRaw (sNum (sNum (sNum (some l)).2).2).1 (sRaw (sNum (sNum (some l)).2).1 (sNum (sNum (sNum (some l)).2).2).2).2).1.toArray⟩⟩, r)
def prsP : Nat → ByteArray → List UInt8 → Option (List PairD)
  | 0, _, _ => some []
  | f + 1, last, l => if l = [] then some [] else match stepP last l with
    | none => none
    | some (x, r) => (prsP f x.key r).map (x :: ·)

theorem infoPr : (Try.prog.info? 35).map (fun i => (i.zero, i.size, i.bytes)) = some (some (.agg #[.string ⟨#[]⟩, .string ⟨#[]⟩]), 2, 32) := by kernel_rfl

/-- what holds while the pairs are read -/
def PS (B p : Nat) (go : Option Nat) (w : World) (v : Value) (D : List PairD) (o : Option (List UInt8)) (wx : World) : Prop :=
  RS wx p go o ∧ wx.ownsRow B 35 2 v D.length (pairRow D) ∧ B ≤ wx.heap.size ∧ Below w.heap.size w wx
section
variable {B p : Nat} {go : Option Nat} {w wx wy : World} {v v' : Value} {D D' : List PairD} {o o' : Option (List UInt8)}
theorem PS.grown (hp : p < B) (hw : w.heap.size ≤ p) (h : PS B p go w v D o wx) (hr : RS wy p go o') (hg : wx.grownBy wy (some p)) : PS B p go w v D o' wy := by
  obtain ⟨h1, h2, h3, h4⟩ := h
  exact ⟨hr, row_same h2 fun k hk => hg.block k (World.ownsRow.lt h2 k hk).2 (fun e => by have := (World.ownsRow.lt h2 k hk).1; cases e; omega), Nat.le_trans h3 hg.size, grew h4 hg hw h4.size⟩
theorem PS.drew (h : PS B p go w v D o wx) : PS B p go w v D o wx.drew := ⟨h.1, h.2.1, h.2.2.1, h.2.2.2.drew⟩
theorem PS.below (h : PS B p go w v D o wx) (hb : Below wx.heap.size wx wy) : PS B p go w v D o wy := by
  obtain ⟨h1, h2, h3, h4⟩ := h
  exact ⟨h1.below hb, row_past h2 hb (Nat.le_refl _), Nat.le_trans h3 hb.size, bnext h4 hb⟩
theorem PS.app (hp : p < B) (hg : ∀ k, go = some k → k < B) (hwB : w.heap.size ≤ B) (h : PS B p go w v D o wx) (ho : wy.ownsRow B 35 2 v' D'.length (pairRow D')) (ha : App wx wy v v') : PS B p go w v' D' o wy := by
  obtain ⟨h1, h2, h3, h4⟩ := h
  have hc := Chg.of_app ha
  have hv : ∀ k, v.ownBlock = some k → B ≤ k := fun k hk => (World.ownsRow.lt h2 k hk).1
  exact ⟨h1.chg hc (fun e => by have := hv _ e; omega) (fun k hk e => by have := hv _ e; have := hg k hk; omega), ho, Nat.le_trans h3 hc.size, h4.trans (hc.below (fun k e => Nat.le_trans hwB (hv _ e)) h4.size)⟩
end
theorem row_cap {w : World} {B sz n m c : Nat} {e : TypeId} {a : Option Addr} {xs : List Value} (h : w.ownsRow B e sz (.slice a n c) m xs) : n ≤ c ∧ c ≤ maxLen := by
  obtain ⟨ao, c', he, h1, h2, _⟩ := row_shape h
  simp only [Value.slice.injEq] at he
  obtain ⟨_, rfl, rfl⟩ := he
  exact ⟨h1, h2⟩
def PrsOut (w : World) (o : Option (List PairD)) (e : Ending) (w' : World) : Prop :=
  Below w.heap.size w w' ∧
  match o with
  | some m => ∃ a c, e = .returned (.tuple #[.slice a m.length c, .bool true]) ∧ PRs w' a m ∧ m.length ≤ c ∧ c ≤ maxLen
  | none => e = .returned (.tuple #[.slice none 0 0, .bool false])
theorem sNum_drop {l r : List UInt8} {n : Nat} (h : sNum (some l) = (n, some r)) : r.length < l.length := by
  cases e : rdNum 9 true l with
  | none => rw [sNum_no e] at h; cases h
  | some x =>
    obtain ⟨m, q⟩ := x
    rw [sNum_yes e] at h
    cases h
    have h1 := (rdNum_lt e).1
    have := num_pos n
    rw [h1, List.length_append]
    omega

set_option maxRecDepth 100000 in
set_option maxHeartbeats 8000000 in
theorem pairs_any {w : World} {ao : Option Addr} {c : Nat} {b : List UInt8} (h : RB w (.slice ao b.length c) b) (hl : b.length ≤ 100000) :
    Calls Try.prog 34 #[.slice ao b.length c] w (PrsOut w (prsP b.length ⟨#[]⟩ b)) := by
  have h0 := newreader_any h (by omega)
  have H0 := Lib.hid h0
  have hinf := infoPr
  obtain ⟨i0, hi, hzo, hz3, hzb⟩ := info_parts hinf
  have Hi := Lib.hid hi
  have Hz0 := Lib.hid hzo
  have Hz3 := Lib.hid hz3
  have Hzb := Lib.hid hzb
  clear h h0 hi hzo hz3 hzb hinf
  go_enter Try.func34, Try.ntmps34
  go_wp2_with fail; (with_reducible refine (H0.out).mono ?_); rintro e w1 ⟨p, go, rfl, hp, hgo, hrd, hb⟩
  have hpB : p < w1.heap.size := hrd.lt
  have hgB : Hid (∀ k, go = some k → k < w1.heap.size) := Lib.hid fun k hk => (hrd.golt k hk).1
  have hwB := hb.size
  have HS1 : Hid (PS w1.heap.size p go w (.slice none 0 0) [] (some b) w1) := Lib.hid ⟨hrd, World.ownsRow_nil _ _ _ _, Nat.le_refl _, hb⟩
  generalize w1.heap.size = B at *
  clear hrd hb hgo H0
  go_wp2
  go_loopg [4, 6] b.length (fun gk v t wr => ∃ (D : List PairD) (l : List UInt8) (last : ByteArray) (f : Nat), t = .string last ∧ l.length = gk ∧ l.length ≤ f ∧ last.size ≤ 100000 + 100000 * D.length ∧ D.length + l.length ≤ b.length ∧ (∀ x ∈ D, PairOk x) ∧ prsP b.length ⟨#[]⟩ b = (prsP f last l).map (D ++ ·) ∧ PS B p go w v D (some l) wr)
  case atStart => exact ⟨[], b, ⟨#[]⟩, b.length, rfl, rfl, Nat.le_refl _, by decide, by simp, (fun x hx => by cases hx), by simp, HS1.out⟩
  case round =>
    obtain ⟨D, l, last, f, rfl, rfl, hf, hls, hDl, hDo, hP, hS⟩ := hrel
    have HD := Lib.hid hDo
    have HP := Lib.hid hP
    have HS := Lib.hid hS
    have hsl := sleft_any hS.1
    have Hsl := Lib.hid hsl
    clear hsl
    clear hDo hP hS HS1
    by_cases hl0 : l = []
    · subst hl0
      have hPf : prsP b.length ⟨#[]⟩ b = some D := by rw [HP.out]; cases f <;> simp [prsP]
      have HPf := Lib.hid hPf
      obtain ⟨a', c', rfl, hp'⟩ := prs_of_row rfl HS.out.2.1 HD.out
      have HP' := Lib.hid hp'
      clear hPf hp' HP
      go_wp2_with fail; (with_reducible refine (Hsl.out).mono ?_); rintro e w2 ⟨rfl, rfl⟩
      go_wp2
      go_ret2
      unfold PrsOut
      rw [HPf.out]
      exact ⟨HS.out.2.2.2, a', c', rfl, HP'.out, row_cap HS.out.2.1⟩
    · have hlp : 0 < l.length := List.length_pos_iff.2 hl0
      obtain ⟨f', rfl⟩ : ∃ f', f = f' + 1 := ⟨f - 1, by omega⟩
      have hP2 : prsP (f' + 1) last l = match stepP last l with | none => none | some (x, r) => (prsP f' x.key r).map (x :: ·) := by rw [prsP, if_neg hl0]
      rw [hP2] at HP
      have hs1 := snum_any (o := some l) HS.out.1
      have Hs1 := Lib.hid hs1
      have hL1 : LenOk (l.length - 1) (sNum (some l)).2 := fun r hr => by
        have := sNum_drop (l := l) (n := (sNum (some l)).1) (r := r) (by rw [← hr])
        omega
      have hL2 := sNum_len hL1
      have hL3 := sNum_len hL2
      have hlt1 := sNum_lt (some l)
      have hlt2 := sNum_lt (sNum (some l)).2
      have hlt3 := sNum_lt (sNum (sNum (some l)).2).2
      have hst : stepP last l = if (sNum (sNum (sNum (some l)).2).2).2 = none ∨ last.size < (sNum (some l)).1 then none
  else match (sRaw (sNum (sNum (sNum (some l)).2).2).1 (sRaw (sNum (sNum (some l)).2).1 (sNum (sNum (sNum (some l)).2).2).2).2).2 with
    | none => none
    | some r => some (⟨last.extract 0 (sNum (some l)).1 ++ ⟨(sRaw (sNum (sNum (some l)).2).1 (sNum (sNum (sNum (some l)).2).2).2).1.toArray⟩, ⟨(sRaw (sNum (sNum (sNum (some l)).2).2).1 (sRaw (sNum (sNum (some l)).2).1 (sNum (sNum (sNum (some l)).2).2).2).2).1.toArray⟩⟩, r) := rfl
      have HST := Lib.hid hst
      clear hst hs1 hP2
      generalize hE : sNum (some l) = E1 at *
      obtain ⟨n, o1⟩ := E1
      simp only at HST Hs1 hL1 hL2 hL3 hlt1 hlt2 hlt3
      clear hE
      go_wp2_with fail; (with_reducible refine (Hsl.out).mono ?_); rintro e w2 ⟨rfl, rfl⟩
      go_wp2_with fail; (with_reducible refine (Hs1.out).mono ?_); rintro e w3 ⟨rfl, hr3, hg3⟩
      have hS3 := HS.out.grown hpB hp hr3 hg3
      have HS3 := Lib.hid hS3
      have hs2 := snum_any hS3.1
      have Hs2 := Lib.hid hs2
      clear hr3 hg3 hS3 hs2 Hs1
      generalize hE : sNum o1 = E2 at *
      obtain ⟨m, o2⟩ := E2
      simp only at HST Hs2 hL2 hL3 hlt2 hlt3
      clear hE
      go_wp2_with fail; (with_reducible refine (Hs2.out).mono ?_); rintro e w4 ⟨rfl, hr4, hg4⟩
      have hS4 := HS3.out.grown hpB hp hr4 hg4
      have HS4 := Lib.hid hS4
      have hs3 := snum_any hS4.1
      have Hs3 := Lib.hid hs3
      clear hr4 hg4 hS4 hs3 Hs2
      generalize hE : sNum o2 = E3 at *
      obtain ⟨s, o3⟩ := E3
      simp only at HST Hs3 hL3 hlt3
      clear hE
      go_wp2_with fail; (with_reducible refine (Hs3.out).mono ?_); rintro e w5 ⟨rfl, hr5, hg5⟩
      have hS5 := HS4.out.grown hpB hp hr5 hg5
      have HS5 := Lib.hid hS5
      have hbd := sbad_any hS5.1
      have Hbd := Lib.hid hbd
      clear hr5 hg5 hS5 hbd Hs3 HS3 HS4 HS hL1 hL2
      by_cases hbad : o3 = none ∨ last.size < n
      · have hPf : prsP b.length ⟨#[]⟩ b = none := by rw [HP.out, HST.out, if_pos hbad]; rfl
        have HPf := Lib.hid hPf
        clear hPf HP HST
        rcases o3 with _ | r3
        · have Hb0 : Hid (Calls Try.prog 48 #[.pointer (some ⟨p, 0, none⟩)] w5 fun e w' => e = .returned (.bool true) ∧ w5 = w') := Lib.hid Hbd.out
          clear hbad
          go_wp2_with fail; (with_reducible refine (Hb0.out).mono ?_); rintro e w6 ⟨rfl, rfl⟩
          go_wp2
          go_ret2
          unfold PrsOut
          rw [HPf.out]
          exact ⟨HS5.out.2.2.2, rfl⟩
        · have Hb0 : Hid (Calls Try.prog 48 #[.pointer (some ⟨p, 0, none⟩)] w5 fun e w' => e = .returned (.bool false) ∧ w5 = w') := Lib.hid Hbd.out
          have hlt : last.size < n := by
            rcases hbad with h | h
            · cases h
            · exact h
          clear hbad
          go_wp2_with fail; (with_reducible refine (Hb0.out).mono ?_); rintro e w6 ⟨rfl, rfl⟩
          go_wp2
          go_ret2
          unfold PrsOut
          rw [HPf.out]
          exact ⟨HS5.out.2.2.2, rfl⟩
      · rw [if_neg hbad] at HST
        obtain ⟨r3, rfl⟩ : ∃ r3, o3 = some r3 := by
          cases o3 with
          | none => exact absurd (.inl rfl) hbad
          | some r3 => exact ⟨r3, rfl⟩
        have hn : n ≤ last.size := by
          have : ¬ last.size < n := fun h => hbad (.inr h)
          omega
        have Hb0 : Hid (Calls Try.prog 48 #[.pointer (some ⟨p, 0, none⟩)] w5 fun e w' => e = .returned (.bool false) ∧ w5 = w') := Lib.hid Hbd.out
        have Hrw : Hid (∀ (W : World) (v : Value) (D : List PairD), PS B p go w v D (some r3) W → Calls Try.prog 49 #[.pointer (some ⟨p, 0, none⟩), .int .i64 m] W fun e w' => ∃ v', e = .returned v' ∧ RB w' v' (sRaw m (some r3)).1 ∧ PS B p go w v D (sRaw m (some r3)).2 w') := Lib.hid fun W v D h =>
          (sraw_any h.1 m).mono fun e w' ⟨v', h1, h2, h3, h4⟩ => ⟨v', h1, h2, h.grown hpB hp h3 h4⟩
        obtain ⟨hL4, hd4⟩ := sRaw_len (n := m) hL3
        clear hbad Hbd hL3
        generalize hE : sRaw m (some r3) = E4 at *
        obtain ⟨k4, o4⟩ := E4
        simp only at HST Hrw hL4 hd4
        clear hE
        have hue : (last.extract 0 n).size ≤ last.size := by rw [ByteArray.size_extract]; omega
        obtain ⟨ue, hue2⟩ : ∃ ue, last.extract 0 n = ue := ⟨_, rfl⟩
        rw [hue2] at hue HST
        obtain ⟨kb, hkb⟩ : ∃ kb : ByteArray, (⟨k4.toArray⟩ : ByteArray) = kb := ⟨_, rfl⟩
        have hkbs : kb.size ≤ l.length - 1 := by rw [← hkb, size_mk]; exact hd4
        rw [hkb] at HST
        have Hkb := Lib.hid hkb
        have hnI : (0 : Int) ≤ (n : Int) := by omega
        have hnI2 : (n : Int) ≤ (last.size : Int) := by omega
        have hsum : ¬ (9223372036854775807 < ue.size + kb.size) := by omega
        clear hkb
        have Hrw2 : Hid (∀ (W : World) (v : Value) (D : List PairD), PS B p go w v D o4 W → Calls Try.prog 49 #[.pointer (some ⟨p, 0, none⟩), .int .i64 s] W fun e w' => ∃ v', e = .returned v' ∧ RB w' v' (sRaw s o4).1 ∧ PS B p go w v D (sRaw s o4).2 w') := Lib.hid fun W v D h =>
          (sraw_any h.1 s).mono fun e w' ⟨v', h1, h2, h3, h4⟩ => ⟨v', h1, h2, h.grown hpB hp h3 h4⟩
        obtain ⟨hL5, hd5⟩ := sRaw_len (n := s) hL4
        generalize hE : sRaw s o4 = E5 at *
        obtain ⟨k5, o5⟩ := E5
        simp only at HST Hrw2 hL5 hd5
        clear hE
        obtain ⟨vb, hvb⟩ : ∃ vb : ByteArray, (⟨k5.toArray⟩ : ByteArray) = vb := ⟨_, rfl⟩
        have hvbs : vb.size ≤ l.length - 1 := by rw [← hvb, size_mk]; exact hd5
        rw [hvb] at HST
        have Hvb := Lib.hid hvb
        clear hvb
        go_wp2_with fail; (with_reducible refine (Hb0.out).mono ?_); rintro e w6 ⟨rfl, rfl⟩
        go_upto_region 8 with (fail)
        refine wp_region_noPanic ?_
        refine wp_region_held_drew (S := fun _ => True) (by kernel_rfl) trivial (fun hHeld => ?_)
        refine wpAnyH_take (i := 0) (oi := ⟨some 29, _, _, _, _, _⟩) (v := ?_) rfl (by kernel_rfl) (by kernel_rfl) (by kernel_rfl) (fun _ _ _ h => h) (Or.inl ⟨by rfl, ?_⟩) (by assumption) ?_
        rotate_left
        · intro w hSw
          (try dsimp only at hSw)
          go_simp
          (try with_reducible rfl)
        (try simp only [Act.put, List.setIfInBounds_toArray, List.set_cons_zero, List.set_cons_succ])
        refine wpAnyH_take (i := 1) (oi := ⟨some 30, _, _, _, _, _⟩) (v := ?_) rfl (by kernel_rfl) (by kernel_rfl) (by kernel_rfl) (fun _ _ _ h => h) (Or.inl ⟨by rfl, ?_⟩) (by assumption) ?_
        rotate_left
        · intro w hSw
          (try dsimp only at hSw)
          go_simp
          (try with_reducible rfl)
        (try simp only [Act.put, List.setIfInBounds_toArray, List.set_cons_zero, List.set_cons_succ])
        refine wpAnyH_take (i := 2) (oi := ⟨some 31, _, _, _, _, _⟩) (v := ?_) rfl (by kernel_rfl) (by kernel_rfl) (by kernel_rfl) (fun _ _ _ h => h) (Or.inl ⟨by rfl, ?_⟩) (by assumption) ?_
        rotate_left
        · intro w hSw
          (try dsimp only at hSw)
          go_simp
          (try with_reducible rfl)
        (try simp only [Act.put, List.setIfInBounds_toArray, List.set_cons_zero, List.set_cons_succ])
        refine wpAnyH_take (i := 3) (oi := ⟨some 32, _, _, _, _, _⟩) (v := ?_) rfl (by kernel_rfl) (by kernel_rfl) (by kernel_rfl) (fun _ _ _ h => h) (Or.inl ⟨by rfl, ?_⟩) (by assumption) ?_
        rotate_left
        · intro w hSw
          (try dsimp only at hSw)
          go_simp
          (try with_reducible rfl)
        (try simp only [Act.put, List.setIfInBounds_toArray, List.set_cons_zero, List.set_cons_succ])
        refine wpAnyH_take (i := 4) (oi := ⟨some 33, _, _, _, _, _⟩) (v := ?_) rfl (by kernel_rfl) (by kernel_rfl) (by kernel_rfl) (fun _ _ _ h => h) (Or.inl ⟨by rfl, ?_⟩) (by assumption) ?_
        rotate_left
        · intro w hSw
          (try dsimp only at hSw)
          go_simp
          (try with_reducible rfl)
        (try simp only [Act.put, List.setIfInBounds_toArray, List.set_cons_zero, List.set_cons_succ])
        have HS5d := Lib.hid HS5.out.drew
        refine wpAnyH_ready (rs := [5]) (by kernel_rfl) (by simp) ?_
        refine AllReadyH.cons (o := ⟨some 34, _, _, _, _, _⟩) rfl (fun K hK => ?_) ?_
        · go_simp
          (with_reducible refine (Hrw.out _ _ _ HS5d.out).mono ?_)
          rintro e w7 ⟨v7, rfl, hrb7, hs7⟩
          have HS7 := Lib.hid hs7
          have hcv := hrb7.string
          rw [Hkb.out] at hcv
          clear hrb7 hs7
          go_wp2_with fail
          refine hK.out _ _ ?_ (fun hHeld => ?_)
          · exact trivial
          clear hK K
          (try simp only [Act.put, List.setIfInBounds_toArray, List.set_cons_zero, List.set_cons_succ])
          refine wpAnyH_ready (rs := [6]) (by kernel_rfl) (by simp) ?_
          refine AllReadyH.cons (o := ⟨some 35, _, _, _, _, _⟩) rfl (fun K hK => ?_) ?_
          · go_simp
            refine hK.out _ _ ?_ (fun hHeld => ?_)
            · exact trivial
            clear hK K
            (try simp only [Act.put, List.setIfInBounds_toArray, List.set_cons_zero, List.set_cons_succ])
            refine wpAnyH_take (i := 7) (oi := ⟨some 36, _, _, _, _, _⟩) (v := ?_) rfl (by kernel_rfl) (by kernel_rfl) (by kernel_rfl) (fun _ _ _ h => h) (Or.inl ⟨by rfl, ?_⟩) (by assumption) ?_
            rotate_left
            · intro w hSw
              (try dsimp only at hSw)
              go_simp
              (try with_reducible rfl)
            (try simp only [Act.put, List.setIfInBounds_toArray, List.set_cons_zero, List.set_cons_succ])
            refine wpAnyH_take (i := 8) (oi := ⟨some 6, _, _, _, _, _⟩) (v := ?_) rfl (by kernel_rfl) (by kernel_rfl) (by kernel_rfl) (fun _ _ _ h => h) (Or.inl ⟨by rfl, ?_⟩) (by assumption) ?_
            rotate_left
            · intro w hSw
              (try dsimp only at hSw)
              go_simp
              (try with_reducible rfl)
            (try simp only [Act.put, List.setIfInBounds_toArray, List.set_cons_zero, List.set_cons_succ])
            refine wpAnyH_done (by kernel_rfl) ?_ _
            refine NoPanic.normal ?_
            clear hcv hsum hHeld
            go_wp2_with fail; (with_reducible refine (Hrw2.out _ _ _ HS7.out).mono ?_); rintro e w8 ⟨v8, rfl, hrb8, hs8⟩
            have HS8 := Lib.hid hs8
            have HO8 := Lib.hid hs8.2.1
            have hB8 := hs8.2.2.1
            have hcv := hrb8.string
            rw [Hvb.out] at hcv
            clear hrb8 hs8 HS7
            go_upto_region 10 with (at_builtin; go_loud (refine wpList_appN rfl (.tmp 37) (.tmp 44) 25 35 i0 (.agg #[.string ⟨#[]⟩, .string ⟨#[]⟩]) 2 32 Try.underlying25 Hi.out Hz0.out Hz3.out Hzb.out rfl (by decide) rfl B u4 D.length (pairRow D) rfl HO8.out #[.string (ue ++ kb), .string vb] 1 1 (by first | rfl | (simp; done) | (simp; rfl)) rfl (by intro u hu; simp at hu; rcases hu with rfl | rfl <;> rfl) (by unfold maxLen; omega) (by omega) (by first | exact hB8 | (simp; omega)) ?_); intro v2 w2' ho2 hold2 ha2)
            have ho3 : w2'.ownsRow B 35 2 v2 (D ++ [(⟨ue ++ kb, vb⟩ : PairD)]).length (pairRow (D ++ [(⟨ue ++ kb, vb⟩ : PairD)])) := by
              rw [List.length_append, pairRow_append]; exact ho2
            have hS9 := HS8.out.app hpB hgB.out hwB ho3 ha2
            have HS9 := Lib.hid hS9
            have hbd9 := sbad_any hS9.1
            have Hbd9 := Lib.hid hbd9
            clear hcv ho2 hold2 ha2 ho3 hS9 hbd9 HS8 HO8
            cases o5 with
            | none =>
              have hPf : prsP b.length ⟨#[]⟩ b = none := by rw [HP.out, HST.out]; rfl
              have HPf := Lib.hid hPf
              clear hPf HP HST
              have Hb9 : Hid (Calls Try.prog 48 #[.pointer (some ⟨p, 0, none⟩)] w2' fun e w' => e = .returned (.bool true) ∧ w2' = w') := Lib.hid Hbd9.out
              go_wp2_with fail; (with_reducible refine (Hb9.out).mono ?_); rintro e w9 ⟨rfl, rfl⟩
              go_wp2
              go_ret2
              unfold PrsOut
              rw [HPf.out]
              exact ⟨HS9.out.2.2.2, rfl⟩
            | some r =>
              have hrl := hL5 r rfl
              have hPf : prsP b.length ⟨#[]⟩ b = (prsP f' (ue ++ kb) r).map (D ++ [(⟨ue ++ kb, vb⟩ : PairD)] ++ ·) := by
                rw [HP.out, HST.out]
                simp only [Option.map_map]
                congr 1
                funext z
                simp
              have HPf := Lib.hid hPf
              have hks : (ue ++ kb).size = ue.size + kb.size := ByteArray.size_append
              have HD9 : Hid (∀ x ∈ D ++ [(⟨ue ++ kb, vb⟩ : PairD)], PairOk x) := Lib.hid fun x hx => by
                rcases List.mem_append.1 hx with hx | hx
                · exact HD.out x hx
                · rw [List.mem_singleton] at hx
                  subst hx
                  unfold PairOk maxLen
                  simp only
                  omega
              have Hks := Lib.hid hks
              clear hPf HP HST hks
              have Hb9 : Hid (Calls Try.prog 48 #[.pointer (some ⟨p, 0, none⟩)] w2' fun e w' => e = .returned (.bool false) ∧ w2' = w') := Lib.hid Hbd9.out
              go_wp2_with fail; (with_reducible refine (Hb9.out).mono ?_); rintro e w9 ⟨rfl, rfl⟩
              go_wp2
              go_roundg r.length
              case measure => omega
              case rel => exact ⟨D ++ [⟨ue ++ kb, vb⟩], r, ue ++ kb, f', rfl, rfl, by omega, by have := Hks.out; simp only [List.length_append, List.length_cons, List.length_nil]; omega, by simp only [List.length_append, List.length_cons, List.length_nil]; omega, HD9.out, HPf.out, HS9.out⟩
          exact AllReadyH.nil
        exact AllReadyH.nil
end Go.Proofs.Ytebnllpcagkkbaa
