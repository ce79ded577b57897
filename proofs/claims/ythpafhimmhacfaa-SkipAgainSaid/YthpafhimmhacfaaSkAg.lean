/- SkipAgain: its walk. -/
import Derived.Test.YthpafhimmhacfaaSkR
import Derived.Test.YthpafhimmhacfaaSkW
import Derived.Deep.RegionHeld3
import Derived.Lib.SmallJoins
import Derived.Test.YthpafhimmhacfaaOpen
namespace Go.Proofs.Ythpafhimmhacfaa
open Go.RowKit
set_option linter.unusedVariables false
set_option linter.unusedSimpArgs false

set_option maxRecDepth 100000 in
set_option maxHeartbeats 8000000 in
theorem again_walk {w : World} {a : Option Addr} {c : Nat} {l : List Int} (h : IR w a l) (hl : l.length ≤ maxLen) (pl v ht : Int) :
    Calls Try.prog 6 #[.agg #[.slice a l.length c, .int .i64 pl, .int .i64 v, .int .i64 ht]] w fun e w' => e = .returned (.bool true) ∧ Below w.heap.size w w' := by
  unfold maxLen at hl
  have H := Lib.hid h
  clear h
  go_enter Try.func6, Try.ntmps6
  go_upto_region 1 with fail
  refine gen_wp (fun w' => Below w.heap.size w w' ∧ w'.cell? ⟨w.heap.size, 0, none⟩ = some (.slice a l.length c) ∧ w'.cell? ⟨w.heap.size, 1, none⟩ = some (.int .i64 pl) ∧ w'.cell? ⟨w.heap.size, 2, none⟩ = some (.int .i64 v) ∧ w'.cell? ⟨w.heap.size, 3, none⟩ = some (.int .i64 ht)) ?_ ?_
  · refine ⟨?_, ?_, ?_, ?_, ?_⟩
    · (repeat first | exact Below.refl _ _ | refine Below.drew ?_ | refine Below.alloc ?_ (by simp <;> omega) _ | refine Below.setCell ?_ (by simp <;> omega) _)
    all_goals go_simp
  rintro w0 ⟨hb0, c0, c1, c2, c3⟩
  have s0 := cell_next c0
  have s1 := cell_next c1
  have s2 := cell_next c2
  have s3 := cell_next c3
  have Bq := bnext_grow (Below.refl w0.heap.size w0)
  clear c0 c1 c2 c3
  refine wp_region_quiet_below (by kernel_rfl) (by kernel_rfl) ?_; (repeat (go_big_quiet_step ((fail)))); refine wpQuiet_nil ?_; rintro _ ⟨pq, rfl⟩
  have hbq := bnext hb0 (Bq pq.d pq.os)
  generalize Go.Sort.grow (redrawn w0 pq.d) pq.os = w1 at *
  clear s0 s1 s2 s3 Bq hb0
  have HB1 := Lib.hid hbq
  clear hbq
  have Hne := Lib.hid (LI.new w1)
  go_wp2_with fail; (with_reducible refine (Hne.out).mono ?_); rintro e w2 ⟨p, F, rfl, hL, hb2⟩
  have HL := Lib.hid hL
  have HB2 := Lib.hid (bnext HB1.out hb2)
  clear hL hb2 Hne
  by_cases hl60 : l.length ≤ 60
  case neg =>
    have hl60 : 60 < l.length := by omega
    go_wp2_with fail; (with_reducible refine (awake05 _).mono ?_); rintro e w3 ⟨rfl, hb3⟩
    have HB3 := Lib.hid (bnext HB2.out hb3)
    go_wp2
    go_ret
    exact ⟨rfl, HB3.out⟩
  go_wp2
  go_loopw [42] (fun i wr => ∃ (n : Nat) (L : List (E3 Int Int)) (F : Nat → Prop), n ≤ l.length ∧ i = .int .i64 n ∧ L.length ≤ n ∧ (∀ x ∈ l.take n, x ∈ L.map E3.k) ∧ LI wr w1.heap.size p F L ∧ Below w.heap.size w wr) (fun i _ => l.length - (intOf i).toNat)
  case atStart => exact ⟨0, [], F, Nat.zero_le _, rfl, Nat.le_refl _, (fun x hx => by simp at hx), HL.out, HB2.out⟩
  case round =>
    obtain ⟨n, L, F2, hn, rfl, hLn, hmem, hT, hbr⟩ := hrel
    have HT := Lib.hid hT
    have HM := Lib.hid hmem
    clear hT hmem
    by_cases hlt : n < l.length
    · obtain ⟨b, off, rfl, f0, x1, x2⟩ := H.out.cell hbr n hlt
      have htk : l.take (n + 1) = l.take n ++ [l[n]] := List.take_succ_eq_append_getElem hlt
      generalize l[n] = x at *
      have HK := Lib.hid htk
      clear htk
      have hht : (1 : Int) + (n : Int) % 12 = ((1 + n % 12 : Nat) : Int) := by omega
      have hput := LI.put HT.out (by omega) x n (1 + n % 12) (by omega) (by omega)
      rw [← hht] at hput
      have Hput := Lib.hid hput
      clear hput hht
      go_wp2_with fail; (with_reducible refine (Hput.out).mono ?_); rintro e w3 ⟨rfl, ⟨F3, hL3, hF3⟩, hch, hb3⟩
      have hlen := putE_len_le (lt := ilt) L x n (1 + n % 12)
      have hmm := putE_keys (lt := ilt) L x n (1 + n % 12)
      generalize putE ilt L x n (1 + n % 12) = L3 at *
      have HL3 := Lib.hid hL3
      have HMM := Lib.hid hmm
      have HB3 : Hid (Below w.heap.size w w3) := Lib.hid (hbr.trans (hb3.mono HB1.out.size))
      clear hL3 hF3 hch hmm hb3
      go_wp2
      go_roundw
      case rel =>
        refine ⟨n + 1, L3, F3, by omega, by go_num, by omega, fun y hy => ?_, HL3.out, HB3.out⟩
        rw [HK.out, List.mem_append, List.mem_singleton] at hy
        exact (HMM.out y).2 (hy.elim (fun h => .inr (HM.out y h)) .inl)
      case measure => simp [intOf]; omega
    · have hnn : n = l.length := by omega
      have hall : ∀ x ∈ l, x ∈ L.map E3.k := fun x hx => HM.out x (by rw [hnn, List.take_of_length_le (Nat.le_refl _)]; exact hx)
      have HA := Lib.hid hall
      have hLl : L.length ≤ 999999 := by omega
      clear hall hnn HM
      by_cases hpl : 0 ≤ pl ∧ pl < l.length
      case neg =>
        have hpl2 : pl < 0 ∨ (0 ≤ pl ∧ (l.length : Int) ≤ pl) := by omega
        clear hpl
        rcases hpl2 with hpl | ⟨hpl0, hpl⟩
        all_goals
          go_wp2_with fail; (with_reducible refine (awake05 _).mono ?_); rintro e w3 ⟨rfl, hb3⟩
          have HB3 := Lib.hid (bnext hbr hb3)
          go_wp2
          go_ret
          exact ⟨rfl, HB3.out⟩
      obtain ⟨m, rfl⟩ := Int.eq_ofNat_of_zero_le hpl.1
      have hm : m < l.length := by omega
      have hxm : l[m] ∈ l := List.getElem_mem hm
      have hf : hI L l[m] = true := (hasE_mem ilt_ord HT.out.rise _).2 (HA.out _ hxm)
      obtain ⟨b, off, rfl, f0, x1, x2⟩ := H.out.cell hbr m hm
      generalize hlx : l[m] = x at *
      have HLX := Lib.hid hlx
      clear hlx
      have Hf := Lib.hid hf
      have s0 := cell_next f0
      have HBR := Lib.hid hbr
      have f0d : wr.drew.cell? ⟨b, off + m, none⟩ = some (.int .i64 x) := f0
      clear hpl hxm hf f0
      go_upto_region 12 with fail
      have hT0 : LI wr.drew _ _ _ _ := HT.out.below (Below.refl _ wr).drew
      have Hlen := Lib.hid (LI.len hT0 hLl)
      have Hhe : Hid (∀ W, Below wr.heap.size wr W → Calls Try.prog 24 #[.pointer (some ⟨p, 0, none⟩), .int .i64 x] W fun e w' => e = .returned (.int .i64 (htE L x : Nat)) ∧ Below W.heap.size W w') := Lib.hid fun W hW => LI.height (HT.out.below hW) hLl x
      have Hke : Hid (∀ W, Below wr.heap.size wr W → Calls Try.prog 25 #[.pointer (some ⟨p, 0, none⟩)] W fun e w' => ∃ u, e = .returned u ∧ w'.ownsRow W.heap.size 3 1 u L.length (evs (L.map E3.k)) ∧ Below W.heap.size W w') := Lib.hid fun W hW => LI.keys (HT.out.below hW) hLl
      have hbd : Below wr.heap.size wr wr.drew := (Below.refl _ wr).drew
      clear hT0
      clear s0
      go_region_held3 (fun w' => w'.cell? ⟨b, off + m, none⟩ = some (.int .i64 x)) (first | exact f0d | exact f1d | exact f2d | exact f3d) (first
        | (go_at_call 23; (with_reducible refine (Hlen.out).mono ?_); rintro e w5 ⟨rfl, rfl⟩)
        | (go_at_call 24; (with_reducible refine (Hhe.out _ hbd).mono ?_); rintro e w6 ⟨rfl, hb6⟩; have f2d := cell_next f0d _ hb6; have hbd6 := bnext hbd hb6)
        | (go_at_call 25; (with_reducible refine (Hke.out _ hbd6).mono ?_); rintro e w7 ⟨uk, rfl, hrow, hb7⟩; have f3d := cell_next f2d _ hb7; have hbd7 := bnext hbd6 hb7))
      obtain ⟨ak, ck, rfl, hck, hkr⟩ := keys_kr hrow (by simp) hbd6.size
      rw [List.length_map] at hck
      simp only [List.length_map] at *
      have HKR := Lib.hid hkr
      have HB7 := Lib.hid (bnext HBR.out hbd7)
      have hT7 : LI w7 _ _ _ _ := HT.out.below hbd7
      have HT7 := Lib.hid hT7
      have Hge : Hid (∀ k, F2 k → k < wr.heap.size) := Lib.hid fun k hk => (HT.out.ge k hk).2
      have hch : htE L x ≤ 1000000 := by
        unfold htE
        split
        · split
          · have := (HT.out.hts _ (List.getElem_mem (by assumption))).2; omega
          · omega
        · omega
      clear hrow f0d f2d hbd hbd6 hb6 hb7 hkr hT7 Hlen Hhe Hke
      have s3 := cell_next f3d
      by_cases hht : 1 ≤ ht ∧ ht ≤ 12
      case neg =>
        have hht2 : ht < 1 ∨ (1 ≤ ht ∧ 12 < ht) := by omega
        have Hpb := Lib.hid (put_bad_ii w7 p x v ht (by omega))
        clear hht
        have Hlen := Lib.hid (LI.len HT7.out hLl)
        generalize htE L x = hx0 at *
        rcases hht2 with hht | ⟨hht0, hht⟩
        all_goals
          go_wp2_with fail; (with_reducible refine (Hpb.out).mono ?_); rintro e w8 ⟨rfl, rfl⟩
          go_wp2_with fail; (with_reducible refine (Hlen.out).mono ?_); rintro e w9 ⟨rfl, rfl⟩
          go_wp2_with fail; (with_reducible refine (awake05 _).mono ?_); rintro e w8 ⟨rfl, hb8⟩
          have HB8 := Lib.hid (bnext HB7.out hb8)
          clear hb8
          go_wp2
          go_ret
          exact ⟨rfl, HB8.out⟩
      obtain ⟨hn, rfl⟩ := Int.eq_ofNat_of_zero_le (show 0 ≤ ht by omega)
      have hput := LI.put HT7.out hLl x v hn (by omega) (by omega)
      rw [Hf.out] at hput
      obtain ⟨g1, g2, g3, g4, g5⟩ := again_facts Hf.out v hn
      generalize putE ilt L x v hn = L8 at *
      have Hput := Lib.hid hput
      have G3 := Lib.hid g3
      have G2 := Lib.hid g2
      have G45 := Lib.hid (And.intro g4 g5)
      have G1 := Lib.hid g1
      clear hput g1 g2 g3 g4 g5
      obtain ⟨hh1, hh2⟩ := hht
      go_wp2_with fail; (with_reducible refine (Hput.out).mono ?_); rintro e w8 ⟨rfl, ⟨F8, hL8, _⟩, hcg, hb8⟩
      have HK8 := Lib.hid (HKR.out.chg hcg Hge.out).kr
      have HL8 := Lib.hid hL8
      have hb8' : Below w.heap.size w w8 := HB7.out.trans (hb8.mono HB1.out.size)
      have HB8 := Lib.hid hb8'
      obtain ⟨b', off', hbb, f0, _, _⟩ := H.out.cell HB8.out m hm
      rw [HLX.out] at f0
      clear hL8 hb8 hb8' hcg HKR f3d s3
      have hlL8 : L8.length ≤ 999999 := by have := G1.out; omega
      have hg8 := LI.get HL8.out hlL8 x
      rw [G45.out.1, G45.out.2] at hg8
      have Hg8 := Lib.hid hg8
      injection hbb with hbb
      injection hbb with hb1 hb2 hb3
      subst hb1
      have e9 : off' = off := by omega
      subst e9
      clear hb2 hb3 hg8 G45
      generalize htE L x = hx0 at *
      go_wp2_with fail; (with_reducible refine (Hg8.out).mono ?_); rintro e w9 ⟨rfl, hb9⟩
      have s0 := cell_next f0
      have f9 := s0 _ hb9
      have hT9 : LI w9 _ _ _ _ := HL8.out.below hb9
      have Hk9 := Lib.hid (LI.keys hT9 hlL8)
      have HB9 := Lib.hid (bnext HB8.out hb9)
      have HK9 := Lib.hid (HK8.out.below hb9)
      have HT9 := Lib.hid hT9
      clear hT9 f0 s0 Hg8 hb9 HK8 HB8 HL8
      go_wp2_with fail; (with_reducible refine (Hk9.out).mono ?_); rintro e wa ⟨ua, rfl, hra, hba⟩
      rw [G1.out, G2.out] at hra
      obtain ⟨aa, ca, rfl, hca, hka⟩ := keys_kr hra (by simp) (Nat.le_refl _)
      simp only [List.length_map] at *
      have HKA := Lib.hid hka.kr
      have HKK := Lib.hid (HK9.out.below hba)
      have hTa : LI wa _ _ _ _ := HT9.out.below hba
      have hfa := cell_next f9 _ hba
      have HBA := Lib.hid (bnext HB9.out hba)
      have hlen := LI.len hTa hlL8
      rw [G1.out] at hlen
      have Hlen := Lib.hid hlen
      have hhe := LI.height hTa hlL8 x
      rw [G3.out] at hhe
      have Hhe := Lib.hid hhe
      clear hlen hTa hka hra hhe Hk9 HK9 HB9 HT9 f9 hba
      go_wp2_with fail; (with_reducible refine (Hlen.out).mono ?_); rintro e wb ⟨rfl, rfl⟩
      go_wp2_with fail; (with_reducible refine (Hhe.out).mono ?_); rintro e wb ⟨rfl, hbb⟩
      have HKA2 := Lib.hid (HKA.out.below hbb)
      have HKK2 := Lib.hid (HKK.out.below hbb)
      have HBB := Lib.hid (bnext HBA.out hbb)
      clear HKA HKK HBA hbb Hlen Hhe hfa
      go_wp2
      go_loopw [156] (fun i wr => ∃ n : Nat, n ≤ L.length ∧ i = .int .i64 n ∧ Below wb.heap.size wb wr) (fun i _ => L.length - (intOf i).toNat)
      case atStart => exact ⟨0, Nat.zero_le _, rfl, Below.refl _ _⟩
      case round =>
        obtain ⟨n, hn, rfl, hbr⟩ := hrel
        by_cases hlt : n < L.length
        · obtain ⟨g1, o1, rfl, d1⟩ := HKA2.out.cell hbr n (by simpa using hlt)
          obtain ⟨g2, o2, rfl, d2⟩ := HKK2.out.cell hbr n (by simpa using hlt)
          generalize (List.map E3.k L)[n]'(by simpa using hlt) = y at *
          have Bq := bnext_grow (Below.refl wr.heap.size wr)
          have t1 := cell_next d1
          have t2 := cell_next d2
          clear d1 d2
          go_upto_region 23 with fail
          refine wp_region_quiet_below (by kernel_rfl) (by kernel_rfl) ?_; (repeat (go_big_quiet_step ((fail)))); refine wpQuiet_nil ?_; rintro _ ⟨pq, rfl⟩
          go_wp2
          go_roundw
          case rel => exact ⟨n + 1, by omega, by go_num, bnext hbr (Bq _ _)⟩
          case measure => simp [intOf]; omega
        · have HBC := Lib.hid (bnext HBB.out hbr)
          go_wp2_with fail; (with_reducible refine (awake05 _).mono ?_); rintro e wd ⟨rfl, hbd⟩
          have HBD := Lib.hid (bnext HBC.out hbd)
          clear hbd
          go_wp2
          go_ret
          exact ⟨rfl, HBD.out⟩
section
open Go.ChangeShapes Go.WideShapes Go.ChangeAt Go.RowKit Go.Joins Go.Deep
variable {H : Type} {enc : TypeId × Value → H} {W : World} {spare : Nat → Bool} {held : Bool} {base : Nat}
theorem ints_val {n : Nat} {v : Value} {y : DataW H × List MemPlace} (h : DataW.trod enc Try.prog W base spare held n 25 [v] = some y) : ∃ a l cap, v = .slice a l.length cap ∧ IR W a l ∧ l.length ≤ maxLen := by
  rcases open_ints Try.underlying25 Try.underlying3 (by kernel_rfl) h with ⟨hcs, _⟩ | ⟨x, len, c, zs, hcs, _, hl, hm, hz, _, hcell, hwz⟩
  · simp only [List.cons.injEq, and_true] at hcs
    subst hcs
    exact ⟨none, [], 0, rfl, ⟨fun h => by simp at h, fun x hx => by simp at hx⟩, by simp⟩
  · simp only [List.cons.injEq, and_true] at hcs
    subst hcs
    have hl2 : len ≤ zs.length := by rw [hz]; split <;> omega
    have hlen : (zs.take len).length = len := by simp; omega
    refine ⟨some x, zs.take len, c, by rw [hlen], ⟨fun hp => ?_, fun y hy => bounds_i64 (hwz y (List.mem_of_mem_take hy))⟩, by omega⟩
    rw [hlen] at hp
    obtain ⟨b, off, spot⟩ := x
    have hc0 := hcell 0 (by omega)
    have hspot : spot = none := by simpa [Addr.add] using World.cell?_spot hc0
    subst hspot
    refine ⟨b, off, rfl, fun j hj => ?_⟩
    rw [hlen] at hj
    have hjz : j < zs.length := by omega
    rw [← add_none, hcell j hjz]
    simp [List.getD, hjz]
theorem cellsAg : Try.prog.cellsOf 45 = 4 := by kernel_rfl
theorem again_open {r : Reach} {b0 : Nat} {v : Value} {d : DataW H} {p : List MemPlace} (hv : Value.okWide Try.prog W r b0 45 v) (h : DataW.Trod enc Try.prog W base spare held 45 v d p) :
    ∃ (a : Option Addr) (l : List Int) (cap : Nat) (x y z : Int), v = .agg #[.slice a l.length cap, .int .i64 x, .int .i64 y, .int .i64 z] ∧ IR W a l ∧ l.length ≤ maxLen := by
  obtain ⟨v0, v1, v2, v3, y0, y1, y2, y3, n, rfl, _, _, e, f, g, i⟩ := open_agg4 Try.underlying45 (by kernel_rfl) cellsAg hv h
  obtain ⟨a, l, cap, rfl, ho, hl⟩ := ints_val e
  obtain ⟨n0, e0, _, w0⟩ := DataW.trod_int Try.underlying3 f
  obtain ⟨n1, e1, _, w1⟩ := DataW.trod_int Try.underlying3 g
  obtain ⟨n2, e2, _, w2⟩ := DataW.trod_int Try.underlying3 i
  simp only [List.cons.injEq, and_true] at e0 e1 e2
  subst e0 e1 e2
  exact ⟨a, l, cap, n0, n1, n2, rfl, ho, hl⟩
end
end Go.Proofs.Ythpafhimmhacfaa
