/- The contract of ikey.user: the user's bytes at the head of some bytes. -/
import Derived.Test.YtmhklmecpbdljaaDoorYBytes
import Derived.Test.YtmhklmecpbdljaaDoorYRd
namespace Go.Proofs.YtmhklmecpbdljaaDoor
open Go.RowKit
set_option linter.unusedVariables false

/-- the user's bytes, and what is left behind them -/
def userP : List UInt8 → Option (List UInt8 × List UInt8)
  | [] => none
  | [_] => none
  | c :: d :: t => if c = 0 then (if d = 1 then some ([], t) else if d = 255 then (userP t).map fun x => (0 :: x.1, x.2) else none) else (userP (d :: t)).map fun x => (c :: x.1, x.2)

/-- the bytes 'acc' were read already -/
def uahead (acc : List UInt8) (o : Option (List UInt8 × List UInt8)) : Option (List UInt8 × List UInt8) := o.map fun x => (acc ++ x.1, x.2)
theorem uahead_nil (o : Option (List UInt8 × List UInt8)) : uahead [] o = o := by cases o <;> rfl
theorem uahead_uahead (a b : List UInt8) (o : Option (List UInt8 × List UInt8)) : uahead a (uahead b o) = uahead (a ++ b) o := by cases o <;> simp [uahead]
theorem userP_other {c : UInt8} (h : ¬ c = 0) : ∀ (t : List UInt8), userP (c :: t) = uahead [c] (userP t)
  | [] => rfl
  | d :: t => by rw [userP, if_neg h]; rfl
theorem userP_stop (t : List UInt8) : userP (0 :: 1 :: t) = some ([], t) := by rw [userP, if_pos rfl, if_pos rfl]
theorem userP_nought (t : List UInt8) : userP (0 :: 255 :: t) = uahead [0] (userP t) := by rw [userP, if_pos rfl, if_neg (by decide), if_pos rfl]; rfl
theorem userP_bad {d : UInt8} (h1 : ¬ d = 1) (h2 : ¬ d = 255) (t : List UInt8) : userP (0 :: d :: t) = none := by rw [userP, if_pos rfl, if_neg h1, if_neg h2]
theorem drop_getD (l : List UInt8) (j : Nat) (h : j < l.length) : l.drop j = l.getD j 0 :: l.drop (j + 1) := by
  rw [List.drop_eq_getElem_cons h]; simp [List.getD, h]
theorem u8_ne {c d : UInt8} (h : ¬ c = d) : ((c.toNat : Int) == (d.toNat : Int)) = false := by
  rw [beq_eq_false_iff_ne]; intro e; exact h (UInt8.toNat_inj.1 (Int.ofNat.inj e))
theorem u8_bne {c d : UInt8} (h : ¬ c = d) : ((c.toNat : Int) != (d.toNat : Int)) = true := by
  rw [bne_iff_ne]; intro e; exact h (UInt8.toNat_inj.1 (Int.ofNat.inj e))

def UserOut (w : World) (l : List UInt8) (e : Ending) (w' : World) : Prop :=
  match userP l with
  | some (u, r) => ∃ v, e = .returned (.tuple #[v, .int .i64 (l.length - r.length : Nat), .bool true]) ∧ OB w' w.heap.size v u ∧ r.length ≤ l.length ∧ r = l.drop (l.length - r.length) ∧ Below w.heap.size w w'
  | none => e = .returned (.tuple #[.slice none 0 0, .int .i64 0, .bool false]) ∧ Below w.heap.size w w'

theorem UserOut.none {w w' : World} {l : List UInt8} (h : userP l = none) (hb : Below w.heap.size w w') : UserOut w l (.returned (.tuple #[.slice none 0 0, .int .i64 0, .bool false])) w' := by
  unfold UserOut; rw [h]; exact ⟨rfl, hb⟩
theorem UserOut.some {w w' : World} {l u : List UInt8} {j : Nat} {v : Value} (h : userP l = some (u, l.drop j)) (hj : j ≤ l.length) (ho : OB w' w.heap.size v u) (hb : Below w.heap.size w w') : UserOut w l (.returned (.tuple #[v, .int .i64 (j : Int), .bool true])) w' := by
  unfold UserOut; rw [h]
  have e : l.length - (l.drop j).length = j := by rw [List.length_drop]; omega
  refine ⟨v, by rw [e], ho, by rw [List.length_drop]; omega, by rw [e], hb⟩

set_option maxRecDepth 100000 in
set_option maxHeartbeats 2000000 in
theorem user_any {w : World} {ao : Option Addr} {c : Nat} {l : List UInt8} (h : RB w (.slice ao l.length c) l) (hl : l.length ≤ 140737488355327) :
    Calls Tryd.prog 78 #[.slice ao l.length c] w (UserOut w l) := by
  have H := Lib.hid h
  clear h
  go_enter Tryd.func78, Tryd.ntmps78
  go_wp2
  go_loopw [5, 6] (fun v i wr => ∃ j : Nat, ∃ acc, j ≤ l.length ∧ acc.length ≤ j ∧ i = .int .i64 j ∧ OB wr w.heap.size v acc ∧ userP l = uahead acc (userP (l.drop j)) ∧ Below w.heap.size w wr) (fun _ i _ => l.length - (intOf i).toNat)
  case atStart => exact ⟨0, [], Nat.zero_le _, Nat.zero_le _, rfl, OB.nil _ _, by rw [uahead_nil]; rfl, Below.refl _ _⟩
  case round =>
    obtain ⟨j, acc, hj, hja, rfl, hown, hu, hbel⟩ := hrel
    have Hu := Lib.hid hu
    have Ho := Lib.hid hown
    have hz := hbel.size
    clear hu hown
    by_cases hlt : j < l.length
    · obtain ⟨b, off, rfl⟩ := H.out.addr (by omega)
      have hr := H.out.below hbel
      obtain ⟨ao2, c2, hv, hcap, hcells⟩ := id hr
      simp only [Value.slice.injEq] at hv
      obtain ⟨b2, off2, hb2, hcell⟩ := hcells (by omega)
      obtain ⟨rfl, _, rfl⟩ := hv
      cases hb2
      have hd := drop_getD l j hlt
      have hc0 := hcell j hlt
      have Hcell := Lib.hid hcell
      clear hcell hcells hr
      replace hc0 : wr.cell? ⟨b, off + j, none⟩ = some (.int .u8 ((l.getD j 0).toNat : Int)) := by
        rw [hc0]; simp [bv, List.getD, hlt]
      have Hd := Lib.hid hd
      clear hd
      by_cases hz0 : l.getD j 0 = 0
      · replace hc0 : wr.cell? ⟨b, off + j, none⟩ = some (.int .u8 0) := by rw [hc0, hz0]; rfl
        by_cases h1 : j + 1 = l.length
        · have hn : userP l = none := by
            rw [Hu.out, Hd.out, hz0, List.drop_of_length_le (by omega)]; rfl
          have Hn := Lib.hid hn
          clear hn hz0
          have h1' : (((j : Nat) : Int) + 1 == ((l.length : Nat) : Int)) = true := by rw [beq_iff_eq]; omega
          have H1 := Lib.hid h1
          clear h1
          go_wp2
          go_ret3
          exact UserOut.none Hn.out hbel
        · have h2 : j + 1 < l.length := by omega
          have h1' : (((j : Nat) : Int) + 1 == ((l.length : Nat) : Int)) = false := by rw [beq_eq_false_iff_ne]; omega
          clear h1
          have hd2 := drop_getD l (j + 1) h2
          have hc1 := Hcell.out (j + 1) h2
          have Hd2 : Hid (l.drop j = 0 :: l.getD (j + 1) 0 :: l.drop (j + 1 + 1)) := by rw [Hd.out, hz0, hd2]; exact Lib.hid rfl
          clear hz0 hd2
          replace hc1 : wr.cell? ⟨b, off + (j + 1), none⟩ = some (.int .u8 ((l.getD (j + 1) 0).toNat : Int)) := by
            rw [hc1]; simp [bv, List.getD, h2]
          generalize l.getD (j + 1) 0 = d at hc1 Hd2
          by_cases hd1 : d = 1
          · subst hd1
            replace hc1 : wr.cell? ⟨b, off + (j + 1), none⟩ = some (.int .u8 1) := hc1
            have hn : userP l = some (acc, l.drop (j + 1 + 1)) := by rw [Hu.out, Hd2.out, userP_stop]; simp [uahead]
            have Hn := Lib.hid hn
            clear hn
            go_wp2
            go_ret3
            have e2 : ((j : Nat) : Int) + 1 + 1 = ((j + 1 + 1 : Nat) : Int) := by omega
            rw [e2]
            exact UserOut.some (j := j + 1 + 1) Hn.out h2 Ho.out hbel
          · by_cases hd255 : d = 255
            · subst hd255
              replace hc1 : wr.cell? ⟨b, off + (j + 1), none⟩ = some (.int .u8 255) := hc1
              clear hd1
              go_wp2_with (at_builtin; refine wpList_appb rfl (.tmp 47) (.tmp 48) rfl w.heap.size u5 acc rfl Ho.out #[.int .u8 0] 1 1 [0] rfl rfl rfl (by decide) ?_ hz ?_; (first | omega | (simp only [List.length_cons, List.length_nil]; omega) | (simp only [List.length_append, List.length_cons, List.length_nil]; omega)); intro v1 w1 ho1 ha1)
              go_roundw
              case rel => exact ⟨j + 1 + 1, acc ++ [0], by omega, by simp; omega, by go_num, ho1, by rw [Hu.out, Hd2.out, userP_nought, uahead_uahead], hbel.trans (Ho.out.below ha1 hz)⟩
              case measure => simp [intOf]; omega
            · have hn : userP l = none := by rw [Hu.out, Hd2.out, userP_bad hd1 hd255]; rfl
              have Hn := Lib.hid hn
              clear hn
              have n1 : ((d.toNat : Int) == 1) = false := u8_ne hd1
              have n2 : ((d.toNat : Int) != 255) = true := u8_bne hd255
              clear hd1 hd255
              go_wp2
              go_ret3
              exact UserOut.none Hn.out hbel
      · have Hz0 := Lib.hid hz0
        have hne := u8_bne hz0
        have hne : ((((l.getD j 0).toNat : Nat) : Int) != 0) = true := hne
        generalize l.getD j 0 = x at hc0 Hz0 hne Hd
        clear hz0
        go_wp2_with (at_builtin; refine wpList_appb rfl (.tmp 18) (.tmp 23) rfl w.heap.size u5 acc rfl Ho.out #[.int .u8 x.toNat] 1 1 [x] rfl rfl rfl (by decide) ?_ hz ?_; (first | omega | (simp only [List.length_cons, List.length_nil]; omega) | (simp only [List.length_append, List.length_cons, List.length_nil]; omega)); intro v1 w1 ho1 ha1)
        go_roundw
        case rel => exact ⟨j + 1, acc ++ [x], by omega, by simp; omega, by go_num, ho1, by rw [Hu.out, Hd.out, userP_other Hz0.out, uahead_uahead], hbel.trans (Ho.out.below ha1 hz)⟩
        case measure => simp [intOf]; omega
    · obtain rfl : j = l.length := by omega
      have hn : userP l = none := by
        rw [Hu.out, List.drop_of_length_le (Nat.le_refl _)]; rfl
      have Hn := Lib.hid hn
      clear hn
      go_wp2
      go_ret3
      exact UserOut.none Hn.out hbel
end Go.Proofs.YtmhklmecpbdljaaDoor
