/- Chapter 09: one record at the head of bytes: the walk. -/
import Derived.Test.YtmhklmecpbdljaaDoorYRlO
namespace Go.Proofs.YtmhklmecpbdljaaDoor
open Go.RowKit
set_option linter.unusedVariables false
set_option linter.unusedSimpArgs false

/-- a record was read, or none -/
def OneOut (w : World) (o : Option (List UInt8 × Nat)) (e : Ending) (w' : World) : Prop :=
  Below w.heap.size w w' ∧
  match o with
  | none => e = .returned (.tuple #[.slice none 0 0, .int .i64 0, .bool false])
  | some (t, n) => ∃ ao c, e = .returned (.tuple #[.slice ao t.length c, .int .i64 n, .bool true]) ∧ OB w' w.heap.size (.slice ao t.length c) t ∧ c ≤ maxLen
theorem OneOut.no {w w' : World} {o : Option (List UInt8 × Nat)} (ho : o = none) (hb : Below w.heap.size w w') : OneOut w o (.returned (.tuple #[.slice none 0 0, .int .i64 0, .bool false])) w' := by
  subst ho; exact ⟨hb, rfl⟩
theorem OneOut.yes {w w' : World} {o : Option (List UInt8 × Nat)} {t : List UInt8} {n k : Nat} {z : Int} {ao : Option Addr} {c : Nat} (ho : o = some (t, n)) (hk : k = t.length) (hz : z = n) (hb : Below w.heap.size w w') (h : OB w' w.heap.size (.slice ao k c) t) (hc : c ≤ maxLen) : OneOut w o (.returned (.tuple #[.slice ao k c, .int .i64 z, .bool true])) w' := by
  subst ho; subst hk; subst hz; exact ⟨hb, ao, c, rfl, h, hc⟩
theorem one_short {b : List UInt8} (h : b.length < 4) : oneP b = none := by unfold oneP; rw [if_pos h]
theorem one_noText {b : List UInt8} (h : ¬ b.length < 4) (e : rdText (b.drop 4) = none) : oneP b = none := by unfold oneP; rw [if_neg h, e]
theorem one_text {b t r : List UInt8} (h : ¬ b.length < 4) (e : rdText (b.drop 4) = some (t, r)) : oneP b = if unmaskS (unwordS (b.take 4)) = sumOf ((b.take (b.length - r.length)).drop 4) then some (t, b.length - r.length) else none := by unfold oneP; rw [if_neg h, e]
theorem rdText_len {l t r : List UInt8} (e : rdText l = some (t, r)) : t.length + r.length < l.length := by
  obtain ⟨m, q, h1, h2, h3, h5⟩ := rdText_some e
  obtain ⟨h6, h7, _⟩ := rdNum_is 9 true _ m q h1
  have := num_pos m
  rw [h3, h5, List.length_take, List.length_drop, h6, List.length_append]
  omega
set_option maxRecDepth 100000 in
set_option maxHeartbeats 2000000 in
theorem one_any {w : World} {ao : Option Addr} {c : Nat} {b : List UInt8} (hT : Tab9 w) (h : RB w (.slice ao b.length c) b) (hl : b.length ≤ 100000000000) :
    Calls Tryd.prog 41 #[.slice ao b.length c] w (OneOut w (oneP b)) := by
  have HT := Lib.hid hT
  have H := Lib.hid h
  have hcap := h.capl
  clear h hT
  by_cases h4 : b.length < 4
  · have HO := Lib.hid (one_short h4)
    go_enter Tryd.func41, Tryd.ntmps41
    go_wp2
    go_ret3
    exact OneOut.no HO.out (Below.refl _ _)
  · obtain ⟨k, off, rfl⟩ := H.out.addr (by omega)
    have HN4 := Lib.hid h4
    have h4' : 4 ≤ b.length := by omega
    clear h4
    have hlD : (b.drop 4).length ≤ 140737488355328 := by rw [List.length_drop]; omega
    by_cases hc4 : 4 < c
    · have hd : RB w (.slice (some ⟨k, off + 4, none⟩) (b.length - 4) (c - 4)) (b.drop 4) := rb_drop H.out h4' (by omega)
      have H1 := Lib.hid (newreader_any hd hlD)
      clear hd
      go_enter Tryd.func41, Tryd.ntmps41
      go_wp2_with fail; (with_reducible refine (H1.out).mono ?_); rintro e w1 ⟨p, go, rfl, hp, hgo, hrd, hb1⟩
      have HB1 := Lib.hid hb1
      have HRD := Lib.hid hrd
      have HP := Lib.hid hp
      clear hgo hrd hb1 hp
      cases e : rdText (b.drop 4) with
      | none =>
        have HO := Lib.hid (one_noText HN4.out e)
        have H2 := Lib.hid (rtext_no HRD.out e)
        clear e
        go_wp2_with fail; (with_reducible refine (H2.out).mono ?_); rintro e w2 ⟨rfl, ⟨l', hrd2⟩, hg2⟩
        have HB2 := Lib.hid (grew HB1.out hg2 HP.out HB1.out.size)
        have H3 := Lib.hid (bad_any hrd2)
        clear hg2 hrd2
        go_wp2_with fail; (with_reducible refine (H3.out).mono ?_); rintro e w3 ⟨rfl, rfl⟩
        go_wp2
        go_ret3
        exact OneOut.no HO.out HB2.out
      | some x =>
        obtain ⟨t, r⟩ := x
        have hlen := rdText_len e
        rw [List.length_drop] at hlen
        have HO := Lib.hid (one_text HN4.out e)
        have H2 := Lib.hid (rtext_ok HRD.out e)
        clear e
        go_wp2_with fail; (with_reducible refine (H2.out).mono ?_); rintro e w2 ⟨ta, tc, rfl, hrb2, hrd2, hg2, ho2⟩
        have HB2 := Lib.hid (grew HB1.out hg2 HP.out HB1.out.size)
        have HRD2 := Lib.hid hrd2
        have HR2 := Lib.hid hrb2
        clear hg2 hrd2 hrb2 ho2
        go_wp2_with fail; (with_reducible refine (bad_any HRD2.out).mono ?_); rintro e w3 ⟨rfl, rfl⟩
        go_wp2_with fail; (with_reducible refine (left_any HRD2.out).mono ?_); rintro e w3 ⟨rfl, rfl⟩
        obtain ⟨n, hn⟩ : ∃ n, b.length - r.length = n := ⟨_, rfl⟩
        have hni : (b.length : Int) - (r.length : Int) = ((n : Nat) : Int) := by omega
        have hn1 : 4 < n := by omega
        have hn2 : n ≤ b.length := by omega
        rw [hn] at HO
        have ht4 : RB w2 (.slice (some ⟨k, off, none⟩) 4 4) (b.take 4) := rb_take (H.out.below HB2.out) h4' (by omega)
        have hl4 : (b.take 4).length = 4 := by rw [List.length_take]; omega
        have ht4' : RB w2 (.slice (some ⟨k, off, none⟩) (b.take 4).length 4) (b.take 4) := by rw [hl4]; exact ht4
        have H4 := Lib.hid (sparse ht4' hl4)
        have hu4 := unwordS_lt hl4
        clear ht4 ht4' hl4
        generalize unwordS (b.take 4) = m at *
        go_wp2_with fail; (with_reducible refine (H4.out).mono ?_); rintro e w3 ⟨rfl, hb3⟩
        have HB3 := Lib.hid (HB2.out.trans (hb3.mono HB2.out.size))
        have HR3 := Lib.hid (HR2.out.below hb3)
        clear hb3
        have hdr : RB w3 (.slice (some ⟨k, off + 4, none⟩) (n - 4) (c - 4)) ((b.take n).drop 4) := by
          have h1 : RB w3 (.slice (some ⟨k, off, none⟩) n c) (b.take n) := rb_take (H.out.below HB3.out) hn2 (by omega)
          have hl1 : (b.take n).length = n := by rw [List.length_take]; omega
          have := rb_drop (n := 4) (c' := c - 4) (l := b.take n) (by rw [hl1]; exact h1) (by omega) (by omega)
          rw [hl1] at this
          exact this
        have hel : n - 4 = ((b.take n).drop 4).length := by rw [List.length_drop, List.length_take]; omega
        have hT3 := HT.out.below HB3.out
        have hof : Hid (∀ W, Below w3.heap.size w3 W → Calls Tryd.prog 68 #[.slice (some ⟨k, off + 4, none⟩) (n - 4) (c - 4)] W fun e w' => e = .returned (.int .u32 (sumOf ((b.take n).drop 4) : Nat)) ∧ Below W.heap.size W w') := Lib.hid fun W hW => by
          have h1 := hdr.below hW
          rw [hel] at h1 ⊢
          exact sum_of (hT3.below hW) h1 (by omega)
        have hun : Hid (∀ W, Below w3.heap.size w3 W → Calls Tryd.prog 67 #[.int .u32 m] W fun e w' => e = .returned (.int .u32 (unmaskS m : Nat)) ∧ Below W.heap.size W w') := Lib.hid fun W hW => sunmask hu4 W
        clear hdr hel hT3
        have hs1 := sumOf_lt ((b.take n).drop 4)
        have hs2 := unmaskS_lt m
        generalize sumOf ((b.take n).drop 4) = s at *
        generalize unmaskS m = u at *
        go_upto_region 9 with (fail)
        have Bq := bnext_grow (Below.refl w3.heap.size w3)
        by_cases hus : u = s
        · have HO2 := Lib.hid (HO.out.trans (if_pos hus))
          subst hus
          refine wp_region_quiet_below (by kernel_rfl) (by kernel_rfl) ?_; (repeat (go_big_quiet_step ((first | (go_at_call 67; (with_reducible refine Calls.regrown_of (hun.out _ (Bq _ _)))) | (go_at_call 68; (with_reducible refine Calls.regrown_of (hof.out _ (Bq _ _)))))))); refine wpQuiet_nil ?_; rintro _ ⟨pq, rfl⟩
          have HR4 := Lib.hid (HR3.out.below (Bq pq.d pq.os))
          have HB4 := Lib.hid (HB3.out.trans ((Bq pq.d pq.os).mono HB3.out.size))
          generalize Go.Sort.grow (redrawn w3 pq.d) pq.os = w4 at *
          have H5 := Lib.hid (clone_any HR4.out (by omega))
          go_wp2_with fail; (with_reducible refine (H5.out).mono ?_); rintro e w5 ⟨v5, rfl, ho5, hb5, _, ⟨va, vn, vc, rfl, hvm⟩⟩
          go_wp2
          go_ret3
          obtain rfl := ho5.len
          exact OneOut.yes HO2.out rfl rfl (HB4.out.trans (hb5.mono HB4.out.size)) (ho5.mono HB4.out.size) hvm
        · have HO2 := Lib.hid (HO.out.trans (if_neg hus))
          have hne : ((u : Int) != (s : Int)) = true := by rw [bne_iff_ne]; omega
          refine wp_region_quiet_below (by kernel_rfl) (by kernel_rfl) ?_; (repeat (go_big_quiet_step ((first | (go_at_call 67; (with_reducible refine Calls.regrown_of (hun.out _ (Bq _ _)))) | (go_at_call 68; (with_reducible refine Calls.regrown_of (hof.out _ (Bq _ _)))))))); refine wpQuiet_nil ?_; rintro _ ⟨pq, rfl⟩
          have HB4 := Lib.hid (HB3.out.trans ((Bq pq.d pq.os).mono HB3.out.size))
          generalize Go.Sort.grow (redrawn w3 pq.d) pq.os = w4 at *
          go_wp2
          go_ret3
          exact OneOut.no HO2.out HB4.out
    · have hb4 : b.length = 4 := by omega
      have hc4' : c = 4 := by omega
      have hd0 : b.drop 4 = [] := List.drop_of_length_le (by omega)
      have he : rdText (b.drop 4) = none := by rw [hd0]; rfl
      have HO := Lib.hid (one_noText HN4.out he)
      rw [hd0] at he
      have H1 := Lib.hid (newreader_any (RB.nil w (some ⟨k, off, none⟩) 0) (by decide))
      rw [hb4, hc4']
      go_enter Tryd.func41, Tryd.ntmps41
      go_wp2_with fail; (with_reducible refine (H1.out).mono ?_); rintro e w1 ⟨p, go, rfl, hp, hgo, hrd, hb1⟩
      have HB1 := Lib.hid hb1
      have H2 := Lib.hid (rtext_no hrd he)
      clear hgo hrd hb1
      go_wp2_with fail; (with_reducible refine (H2.out).mono ?_); rintro e w2 ⟨rfl, ⟨l', hrd2⟩, hg2⟩
      have HB2 := Lib.hid (grew HB1.out hg2 hp HB1.out.size)
      have H3 := Lib.hid (bad_any hrd2)
      clear hg2 hrd2
      go_wp2_with fail; (with_reducible refine (H3.out).mono ?_); rintro e w3 ⟨rfl, rfl⟩
      go_wp2
      go_ret3
      exact OneOut.no HO.out HB2.out
end Go.Proofs.YtmhklmecpbdljaaDoor
