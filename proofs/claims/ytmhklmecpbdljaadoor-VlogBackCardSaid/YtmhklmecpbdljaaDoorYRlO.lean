/- Chapter 09: one record at the head of bytes: plainly. -/
import Derived.Test.YtmhklmecpbdljaaDoorYRlF
import Derived.Test.YtmhklmecpbdljaaDoorYJh
namespace Go.Proofs.YtmhklmecpbdljaaDoor
open Go.RowKit
set_option linter.unusedVariables false
set_option linter.unusedSimpArgs false

/-- the record at the head of bytes, and where its frame ends -/
def oneP (b : List UInt8) : Option (List UInt8 × Nat) :=
  if b.length < 4 then none else
  match rdText (b.drop 4) with
  | none => none
  | some (t, r) => if unmaskS (unwordS (b.take 4)) = sumOf ((b.take (b.length - r.length)).drop 4) then some (t, b.length - r.length) else none
theorem frB_apart (t r : List UInt8) : (frB t ++ r).take 4 = wordS (maskS (sumOf (txtB t))) ∧ (frB t ++ r).drop 4 = txtB t ++ r := by
  unfold frB
  have := wordS_len (maskS (sumOf (txtB t)))
  generalize wordS (maskS (sumOf (txtB t))) = W at *
  rw [List.append_assoc]
  exact ⟨by rw [← this, List.take_left], by rw [← this, List.drop_left]⟩
theorem txtB_len (t : List UInt8) : (frB t).length = 4 + (txtB t).length := by
  unfold frB; rw [List.length_append, wordS_len]
theorem one_of {t : List UInt8} (h : t.length < 9223372036854775808) (r : List UInt8) : oneP (frB t ++ r) = some (t, (frB t).length) := by
  obtain ⟨e1, e2⟩ := frB_apart t r
  have hl := txtB_len t
  have hL : (frB t ++ r).length = 4 + (txtB t).length + r.length := by rw [List.length_append, hl]
  unfold oneP
  rw [if_neg (by omega), e2, show rdText (txtB t ++ r) = some (t, r) from rdText_num t r h]
  dsimp only
  have e3 : ((frB t ++ r).take ((frB t ++ r).length - r.length)).drop 4 = txtB t := by
    rw [List.drop_take, e2, show (frB t ++ r).length - r.length - 4 = (txtB t).length by omega, List.take_left]
  rw [e3, e1, unword_word (maskS_lt _), unmask_mask (sumOf_lt _), if_pos rfl, hL, hl]
  congr 2
  omega
theorem one_is {b t : List UInt8} {n : Nat} (h : oneP b = some (t, n)) : n = (frB t).length ∧ t.length < 9223372036854775808 ∧ ∃ r, b = frB t ++ r := by
  unfold oneP at h
  by_cases h4 : b.length < 4
  · rw [if_pos h4] at h; cases h
  · rw [if_neg h4] at h
    cases e : rdText (b.drop 4) with
    | none => rw [e] at h; cases h
    | some x =>
      obtain ⟨u, r⟩ := x
      rw [e] at h
      dsimp only at h
      by_cases hs : unmaskS (unwordS (b.take 4)) = sumOf ((b.take (b.length - r.length)).drop 4)
      · rw [if_pos hs, Option.some.injEq, Prod.mk.injEq] at h
        obtain ⟨rfl, rfl⟩ := h
        obtain ⟨m, q, h1, h2, h3, h5⟩ := rdText_some e
        obtain ⟨h6, h7, _⟩ := rdNum_is 9 true _ m q h1
        have hum : u.length = m := by rw [h3, List.length_take]; omega
        have hd : b.drop 4 = txtB u ++ r := by
          unfold txtB
          rw [h6, hum, h3, h5, List.append_assoc, List.take_append_drop]
        have hb : b = b.take 4 ++ (txtB u ++ r) := by rw [← hd, List.take_append_drop]
        have hbl : b.length = 4 + (txtB u).length + r.length := by
          have := congrArg List.length hd
          rw [List.length_drop, List.length_append] at this
          omega
        have e3 : (b.take (b.length - r.length)).drop 4 = txtB u := by
          rw [List.drop_take, hd, show b.length - r.length - 4 = (txtB u).length by omega, List.take_left]
        rw [e3] at hs
        have ht : (b.take 4).length = 4 := by rw [List.length_take]; omega
        have hw : wordS (maskS (sumOf (txtB u))) = b.take 4 := by
          rw [← hs, mask_unmask (unwordS_lt ht), word_unword ht]
        refine ⟨by rw [txtB_len]; omega, by rw [hum]; exact h7, r, ?_⟩
        rw [hb]
        unfold frB
        rw [hw, List.append_assoc]
      · rw [if_neg hs] at h; cases h
theorem frB_pos (t : List UInt8) : 5 ≤ (frB t).length := by
  have := frB_len t
  have := num_pos t.length
  omega
/-- what bytes are read as: records, and what is left behind them -/
def ScanIs (b : List UInt8) (L : List (List UInt8)) : Prop := (∀ t ∈ L, t.length < 9223372036854775808) ∧ ∃ r, b = L.flatMap frB ++ r ∧ oneP r = none
theorem ScanIs.nil {b : List UInt8} (h : oneP b = none) : ScanIs b [] := ⟨fun t ht => (nomatch ht), b, rfl, h⟩
theorem ScanIs.uniq : ∀ {L M : List (List UInt8)} {b : List UInt8}, ScanIs b L → ScanIs b M → L = M
  | [], [], _, _, _ => rfl
  | [], u :: M, b, h, k => by
    obtain ⟨_, r, rfl, hr⟩ := h
    obtain ⟨hm, s, hs, _⟩ := k
    rw [List.flatMap_cons, List.append_assoc] at hs
    rw [hs, one_of (hm u (List.mem_cons_self ..))] at hr
    cases hr
  | t :: L, [], b, h, k => by
    obtain ⟨_, r, rfl, hr⟩ := k
    obtain ⟨hm, s, hs, _⟩ := h
    rw [List.flatMap_cons, List.append_assoc] at hs
    rw [hs, one_of (hm t (List.mem_cons_self ..))] at hr
    cases hr
  | t :: L, u :: M, b, h, k => by
    obtain ⟨hl, r, rfl, hr⟩ := h
    obtain ⟨hm, s, hs, hs2⟩ := k
    rw [List.flatMap_cons, List.append_assoc, List.flatMap_cons, List.append_assoc] at hs
    have e1 := one_of (hl t (List.mem_cons_self ..)) (L.flatMap frB ++ r)
    rw [hs, one_of (hm u (List.mem_cons_self ..)), Option.some.injEq, Prod.mk.injEq] at e1
    obtain ⟨rfl, _⟩ := e1
    have e2 := List.append_cancel_left hs
    have := ScanIs.uniq (L := L) (M := M) ⟨fun x hx => hl x (List.mem_cons_of_mem _ hx), r, rfl, hr⟩ ⟨fun x hx => hm x (List.mem_cons_of_mem _ hx), s, e2, hs2⟩
    rw [this]
end Go.Proofs.YtmhklmecpbdljaaDoor
