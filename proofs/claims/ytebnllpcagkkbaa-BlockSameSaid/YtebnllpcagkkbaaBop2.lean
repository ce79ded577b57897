/- The contract of block.Open. -/
import Derived.Test.YtebnllpcagkkbaaBopl
namespace Go.Proofs.Ytebnllpcagkkbaa
open Go.RowKit
set_option linter.unusedVariables false
set_option linter.unusedSimpArgs false

def OpenOut (w : World) (b : List UInt8) (e : Ending) (w' : World) : Prop :=
  Below w.heap.size w w' ∧
  match openB b with
  | some L => ∃ x a c, e = .returned (.tuple #[.pointer (some ⟨x, 0, none⟩), .int .i64 0]) ∧ w'.heap[x]? = some (.cells #[.slice a L.length c, .int .i64 (evB b)] 68 (0, 0)) ∧ w.heap.size ≤ x ∧ PRs w' a L ∧ L.length ≤ c ∧ c ≤ maxLen
  | none => e = .returned (.tuple #[.pointer none, .int .i64 20])

theorem cells_blk {w w' : World} {q : Nat} {o : Obj} (h : w.heap[q]? = some o) (hb : Below w.heap.size w w') : w'.heap[q]? = some o := (hb.block q (blk_lt h)).trans h

set_option maxRecDepth 100000 in
set_option maxHeartbeats 4000000 in
theorem open_any {w : World} {ao : Option Addr} {c : Nat} {b : List UInt8} (h : RB w (.slice ao b.length c) b) (hl : b.length ≤ 60000) (hc : c ≤ maxLen) :
    Calls Try.prog 16 #[.slice ao b.length c] w (OpenOut w b) := by
  have H := Lib.hid h
  unfold maxLen at hc
  by_cases h5 : b.length < 5
  · have ho : openB b = none := by unfold openB; rw [if_pos h5]
    have Ho := Lib.hid ho
    clear h ho
    go_enter Try.func16, Try.ntmps16
    go_wp2
    go_ret2
    unfold OpenOut
    rw [Ho.out]
    exact ⟨Below.refl _ _, rfl⟩
  obtain ⟨en, hen⟩ : ∃ en, b.length = en + 5 := ⟨b.length - 5, by omega⟩
  have hcl := h.capl
  obtain ⟨bk, off, rfl⟩ := h.addr (by omega)
  have Hcell : Hid (∀ j (hj : j < b.length), w.cell? ⟨bk, off + j, none⟩ = some (.int .u8 ((b[j]).toNat : Int))) := by
    obtain ⟨ao, c2, hv, _, hc⟩ := h
    obtain ⟨b2, off2, hb2, hcell⟩ := hc (by omega)
    simp only [Value.slice.injEq] at hv
    rw [hb2] at hv
    obtain ⟨h1, _⟩ := hv
    cases h1
    exact Lib.hid hcell
  have hl4 : ((b.drop en).take 4).length = 4 := by rw [List.length_take, List.length_drop]; omega
  have hpf : ∀ c', Calls Try.prog 33 #[.slice (some ⟨bk, off + en, none⟩) 4 c'] w fun e w' => e = .returned (.tuple #[.int .u32 (beN ((b.drop en).take 4) : Nat), .int .i64 0]) ∧ w = w' := fun c' => parse_four hl4 fun j hj => by
    rw [hl4] at hj
    rw [Nat.add_assoc, Hcell.out (en + j) (by omega)]
    simp
  have hn := beN_lt ((b.drop en).take 4)
  rw [hl4] at hn
  have hn : beN ((b.drop en).take 4) < 4294967296 := hn
  have hop : openL b = if beN ((b.drop en).take 4) > en / 4 then none else prsP (en - 4 * beN ((b.drop en).take 4)) ⟨#[]⟩ (b.take (en - 4 * beN ((b.drop en).take 4))) := by
    unfold openL; rw [show b.length - 5 = en by omega]
  have hob : openB b = match openL b with
    | none => none
    | some L => if 1 ≤ evB b ∧ evB b ≤ 64 ∧ risesB L = true ∧ b = buildB (evB b) L then some L else none := by
    unfold openB; rw [if_neg h5]; rfl
  have hev : w.cell? ⟨bk, off + (en + 4), none⟩ = some (.int .u8 (evB b : Nat)) := by
    rw [Hcell.out (en + 4) (by omega)]
    unfold evB
    rw [show b.length - 1 = en + 4 by omega, List.getD, List.getElem?_eq_getElem (by omega)]; rfl
  have hev8 : evB b < 256 := (b.getD (b.length - 1) 0).toNat_lt
  have Hob := Lib.hid hob
  have Hop := Lib.hid hop
  have Hpf := Lib.hid hpf
  generalize hN : beN ((b.drop en).take 4) = n at *
  clear hN hob hop hpf h hl4 h5
  have hI : (b.length : Int) - 5 = (en : Int) := by omega
  have henI : (0 : Int) ≤ (en : Int) := by omega
  go_enter Try.func16, Try.ntmps16
  go_wp2_with fail; (with_reducible refine (Hpf.out _).mono ?_); rintro e w1 ⟨rfl, rfl⟩
  by_cases hq : n > en / 4
  · have hob : openB b = none := by rw [Hob.out, Hop.out, if_pos hq]
    have Ho := Lib.hid hob
    have hqI : (en : Int) / 4 < (n : Int) := by omega
    clear hob hq
    go_wp2
    go_ret2
    unfold OpenOut
    rw [Ho.out]
    exact ⟨Below.refl _ _, rfl⟩
  have hqI : ¬ ((en : Int) / 4 < (n : Int)) := by omega
  rw [if_neg hq] at Hop
  obtain ⟨m, hm⟩ : ∃ m, en - 4 * n = m := ⟨_, rfl⟩
  rw [hm] at Hop
  have hmI : (en : Int) - (n : Int) * 4 = (m : Int) := by omega
  have hml : m ≤ b.length := by omega
  have hmc : m ≤ c := by omega
  have hmI2 : (m : Int) ≤ (c : Int) := by omega
  have hmI3 : (0 : Int) ≤ (m : Int) := by omega
  have hlm : (b.take m).length = m := by rw [List.length_take]; omega
  have hpr := pairs_any (ao := some ⟨bk, off, none⟩) (c := c) (b := b.take m) (by rw [hlm]; exact rb_take H.out hml hmc) (by omega)
  rw [hlm] at hpr
  have Hpr := Lib.hid hpr
  clear hpr hlm hq hm
  go_wp2_with fail; (with_reducible refine (Hpr.out).mono ?_); rintro e w2 hpo
  have Hb2 := Lib.hid hpo.1
  cases hP : prsP m ⟨#[]⟩ (b.take m) with
  | none =>
    have hob : openB b = none := by rw [Hob.out, Hop.out, hP]
    have Ho := Lib.hid hob
    unfold PrsOut at hpo
    rw [hP] at hpo
    obtain ⟨_, rfl⟩ := hpo
    clear hob hP Hpr
    go_wp2
    go_ret2
    unfold OpenOut
    rw [Ho.out]
    exact ⟨Hb2.out, rfl⟩
  | some L =>
    unfold PrsOut at hpo
    rw [hP] at hpo
    obtain ⟨_, a2, c2, rfl, hp2, hcc⟩ := hpo
    have Hcc := Lib.hid hcc
    clear hcc
    have HP2 := Lib.hid hp2
    obtain ⟨hL3, hLs⟩ := prsP_size _ _ _ _ hP
    have hlm : (b.take m).length ≤ 60000 := by rw [List.length_take]; omega
    have hLs2 : ∀ x ∈ L, x.key.size ≤ 60000 ∧ x.val.size ≤ 60000 := fun x hx => by
      have := hLs x hx
      have e : (⟨#[]⟩ : ByteArray).size = 0 := rfl
      rw [e] at this
      omega
    have hLl : L.length ≤ 20000 := by omega
    have hbd : ∀ ev, (bodyB ev L L.length).length < 4294967296 := fun ev => by
      have h1 := bodyB_any (M := 60000) (by decide) hLs2 ev L.length (Nat.le_refl _)
      have h2 : L.length * (27 + 2 * 60000) ≤ 20000 * (27 + 2 * 60000) := Nat.mul_le_mul_right _ hLl
      omega
    have hob : openB b = if 1 ≤ evB b ∧ evB b ≤ 64 ∧ risesB L = true ∧ b = buildB (evB b) L then some L else none := by rw [Hob.out, Hop.out, hP]
    have Hob2 := Lib.hid hob
    have hcv := cell_next hev _ Hb2.out
    have Hbd := Lib.hid hbd
    have Hls2 := Lib.hid hLs2
    clear hp2 hP hL3 hLs hlm hLs2 hbd hob Hob Hop Hpr hev
    generalize hE : evB b = ev at *
    have HE := Lib.hid hE
    have hE4 : (en : Int) + 4 < (b.length : Int) := by omega
    clear hE
    go_upto_region 11 with (fail)
    refine gen_wp (fun w' => w'.heap[w2.heap.size]? = some (.cells #[.slice a2 L.length c2, .int .i64 ev] 68 (0, 0)) ∧ Below w2.heap.size w2 w') ?_ ?_
    · exact ⟨heap_alloc_new w2 _, (Below.refl _ w2).alloc (Nat.le_refl _) _⟩
    rintro w3 ⟨hx3, hb3⟩
    have hq2 := Hb2.out.size
    generalize hqq : w2.heap.size = q at *
    have HP3 := Lib.hid (HP2.out.below (by rw [hqq]; exact hb3))
    have HB3 := Lib.hid (Hb2.out.trans (hb3.mono hq2))
    obtain ⟨x0, x1, _⟩ := cell_two hx3
    have Hx3 := Lib.hid hx3
    clear hqq hx3 hb3 HP2 Hb2 hcv
    by_cases hev1 : 1 ≤ ev ∧ ev ≤ 64
    case neg =>
      have hbr := fun W => build_range (w := W) (a := a2) (c := c2) (n := L.length) (ev : Int) (by omega)
      have Hbr := Lib.hid hbr
      have Ho : Hid (openB b = none) := Lib.hid (by rw [Hob2.out, if_neg]; rintro ⟨h1, h2, _⟩; exact hev1 ⟨h1, h2⟩)
      clear hbr hev1
      go_wp2_with fail; (with_reducible refine (Hbr.out _).mono ?_); rintro e w4 ⟨rfl, rfl⟩
      go_wp2
      go_ret2
      unfold OpenOut
      rw [Ho.out]
      exact ⟨HB3.out, rfl⟩
    case pos =>
      obtain ⟨hv1, hv2⟩ := hev1
      cases hr : risesB L with
      | false =>
        have hbn := build_no (c := c2) HP3.out ev hv1 hv2 (by omega) (fun x hx => by have := Hls2.out x hx; omega) (Hbd.out ev) (fun h => by rw [(risesB_iff L).2 h] at hr; cases hr)
        have Hbn := Lib.hid hbn
        have Ho : Hid (openB b = none) := Lib.hid (by rw [Hob2.out, if_neg]; rintro ⟨_, _, h, _⟩; rw [hr] at h; cases h)
        clear hbn hr
        go_wp2_with fail; (with_reducible refine (Hbn.out).mono ?_); rintro e w4 ⟨rfl, hb4⟩
        go_wp2
        go_ret2
        unfold OpenOut
        rw [Ho.out]
        exact ⟨bnext HB3.out hb4, rfl⟩
      | true =>
        have hby := build_yes (c := c2) HP3.out ev hv1 hv2 (by omega) (fun x hx => by have := Hls2.out x hx; omega) (Hbd.out ev) ((risesB_iff L).1 hr)
        have Hby := Lib.hid hby
        have Hr := Lib.hid hr
        clear hby hr
        go_wp2_with fail; (with_reducible refine (Hby.out).mono ?_); rintro e w4 ⟨g4, rfl, ho4, hb4⟩
        have B4 := bnext HB3.out hb4
        have heq := equal_b (H.out.below B4) ho4.reads
        have Hx4 := Lib.hid (cells_blk Hx3.out hb4)
        have HP4 := Lib.hid (HP3.out.below hb4)
        clear ho4 hb4
        by_cases hbb : b = buildB ev L
        · have Ho : Hid (openB b = some L) := Lib.hid (by rw [Hob2.out, if_pos ⟨hv1, hv2, Hr.out, hbb⟩])
          have e : (b == buildB ev L) = true := beq_iff_eq.2 hbb
          rw [e, hen] at heq
          have Heq := Lib.hid heq
          clear heq e hbb
          go_wp2_with fail; (with_reducible refine (Heq.out).mono ?_); rintro e w5 ⟨rfl, rfl⟩
          go_wp2
          go_ret2
          unfold OpenOut
          rw [Ho.out]
          exact ⟨B4, q, a2, c2, rfl, by rw [HE.out]; exact Hx4.out, hq2, HP4.out, Hcc.out⟩
        · have Ho : Hid (openB b = none) := Lib.hid (by rw [Hob2.out, if_neg]; rintro ⟨_, _, _, h⟩; exact hbb h)
          have e : (b == buildB ev L) = false := beq_eq_false_iff_ne.2 hbb
          rw [e, hen] at heq
          have Heq := Lib.hid heq
          clear heq e hbb
          go_wp2_with fail; (with_reducible refine (Heq.out).mono ?_); rintro e w5 ⟨rfl, rfl⟩
          go_wp2
          go_ret2
          unfold OpenOut
          rw [Ho.out]
          exact ⟨B4, rfl⟩
end Go.Proofs.Ytebnllpcagkkbaa
