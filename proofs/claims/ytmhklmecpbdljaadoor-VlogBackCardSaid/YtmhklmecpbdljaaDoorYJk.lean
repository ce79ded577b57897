/- Texts joined: Vl5, Vls. -/
import Derived.Test.YtmhklmecpbdljaaDoorYVi1
import Derived.Test.YtmhklmecpbdljaaDoorYLg5
import Derived.Test.YtmhklmecpbdljaaDoorYJe
/- Chapter 14: List. -/

namespace Go.Proofs.YtmhklmecpbdljaaDoor
open Go.RowKit Go.Shelf
set_option linter.unusedVariables false
set_option linter.unusedSimpArgs false

/-- a value that was found -/
structure Vv where
  x : It
  z : Int
  a : Int
  n : Int
def Vv.cells (y : Vv) : List Value := [.string y.x.u, .int .i64 y.x.s, .int .i64 y.x.k, .string y.x.v, .int .i64 y.z, .int .i64 y.a, .int .i64 y.n]
def vvs (l : List Vv) : List Value := l.flatMap Vv.cells
theorem vvs_len (l : List Vv) : (vvs l).length = l.length * 7 := by
  induction l with
  | nil => rfl
  | cons y l ih => show (Vv.cells y ++ vvs l).length = _; rw [List.length_append, ih, List.length_cons]; show 7 + _ = _; omega
theorem vvs_snoc (l : List Vv) (y : Vv) : vvs (l ++ [y]) = vvs l ++ y.cells := by simp [vvs]
theorem infoVv : (Tryd.prog.info? 69).map (fun i => (i.zero, i.size, i.bytes)) = some (some (.agg #[.string ⟨#[]⟩, .int .i64 0, .int .i64 0, .string ⟨#[]⟩, .int .i64 0, .int .i64 0, .int .i64 0]), 7, 72) := by kernel_rfl
open Classical in
/-- the value of a record -/
noncomputable def vdec (t : List UInt8) : Option It := if h : ∃ x : It, keyRight x.u x.s x.k = true ∧ t = recB x.u x.s x.k x.v then some (Classical.choose h) else none
theorem vdec_some {t : List UInt8} (ht : t.length ≤ 1000000000000) {x : It} (h1 : keyRight x.u x.s x.k = true) (h2 : t = recB x.u x.s x.k x.v) : vdec t = some x := by
  have hex : ∃ x : It, keyRight x.u x.s x.k = true ∧ t = recB x.u x.s x.k x.v := ⟨x, h1, h2⟩
  unfold vdec
  rw [dif_pos hex]
  obtain ⟨g1, g2⟩ := Classical.choose_spec hex
  generalize Classical.choose hex = y at *
  have s1 := recB_ge x.u x.s x.k x.v
  have s2 := recB_ge y.u y.s y.k y.v
  rw [← h2] at s1
  rw [← g2] at s2
  obtain ⟨⟨e1, e2, e3⟩, e4⟩ := recB_inj g1 h1 (by omega) (by omega) (g2.symm.trans h2)
  cases x; cases y; simp only at e1 e2 e3 e4; subst e1 e2 e3 e4; rfl
theorem vdec_none {t : List UInt8} (h : ∀ u s k v, keyRight u s k = true → t ≠ recB u s k v) : vdec t = none := by
  unfold vdec
  rw [dif_neg]
  rintro ⟨x, h1, h2⟩
  exact h _ _ _ _ h1 h2
/-- the value at a place -/
noncomputable def vone (z : Int) (at' : Nat) (t : List UInt8) : List Vv := match vdec t with | some x => [⟨x, z, (at' : Nat), (t.length : Nat)⟩] | none => []
noncomputable def vlist (z : Int) : Nat → List (List UInt8) → List Vv
  | _, [] => []
  | at', t :: K => vone z at' t ++ vlist z (at' + (frB t).length) K
theorem vlist_append (z : Int) : ∀ (K M : List (List UInt8)) (at' : Nat), vlist z at' (K ++ M) = vlist z at' K ++ vlist z (at' + (flR K).length) M
  | [], M, at' => by simp [vlist, flR]
  | t :: K, M, at' => by
    show vone z at' t ++ vlist z _ (K ++ M) = (vone z at' t ++ vlist z _ K) ++ _
    rw [vlist_append z K M, List.append_assoc]
    have e : (flR (t :: K)).length = (frB t).length + (flR K).length := by simp [flR]
    rw [e, Nat.add_assoc]
theorem vlist_one (z : Int) (at' : Nat) (t : List UInt8) : vlist z at' [t] = vone z at' t := by
  show vone z at' t ++ [] = _
  rw [List.append_nil]
theorem vone_len (z : Int) (at' : Nat) (t : List UInt8) : (vone z at' t).length ≤ 1 := by
  unfold vone; split <;> simp
theorem vlist_len (z : Int) : ∀ (K : List (List UInt8)) (at' : Nat), (vlist z at' K).length ≤ K.length
  | [], _ => Nat.le_refl _
  | t :: K, at' => by
    show (vone z at' t ++ vlist z _ K).length ≤ _
    have h1 := vone_len z at' t
    have h2 := vlist_len z K (at' + (frB t).length)
    rw [List.length_append, List.length_cons]; omega
theorem scan_ex : ∀ (n : Nat) (b : List UInt8), b.length ≤ n → ∃ K, ScanIs b K
  | 0, b, h => ⟨[], ScanIs.nil (by
      have : b = [] := List.eq_nil_of_length_eq_zero (by omega)
      subst this; rfl)⟩
  | n + 1, b, h => by
    cases e : oneP b with
    | none => exact ⟨[], ScanIs.nil e⟩
    | some x =>
      obtain ⟨t, m⟩ := x
      obtain ⟨_, ht, r, rfl⟩ := one_is e
      have h5 := frB_pos t
      rw [List.length_append] at h
      obtain ⟨K, hK, r', e1, e2⟩ := scan_ex n r (by omega)
      refine ⟨t :: K, fun u hu => ?_, r', ?_, e2⟩
      · rcases List.mem_cons.1 hu with rfl | hu
        · exact ht
        · exact hK u hu
      · rw [List.flatMap_cons, List.append_assoc, ← e1]
theorem scan_cat {K M : List (List UInt8)} {r : List UInt8} (hK : ∀ t ∈ K, t.length < 9223372036854775808) (h : ScanIs r M) : ScanIs (flR K ++ r) (K ++ M) := by
  obtain ⟨h1, r', rfl, h2⟩ := h
  refine ⟨fun t ht => ?_, r', ?_, h2⟩
  · rcases List.mem_append.1 ht with ht | ht
    · exact hK t ht
    · exact h1 t ht
  · show flR K ++ _ = _
    rw [List.flatMap_append, List.append_assoc]; rfl
section
variable {w w' : World} {B q p : Nat} {G F : Nat → Prop} {D D' : Dv} {zs zs' : List Nat}
set_option maxRecDepth 100000 in
set_option maxHeartbeats 4000000 in
theorem LI.list_no (h : LI w B q p F D zs) (z : Int) (er : Int) (hr : zread D z 0 (zpt D z) = ([], er)) (her : er ≠ 0) :
    Calls Tryd.prog 30 #[.pointer (some ⟨p, 0, none⟩), .int .i64 z] w fun e w' => e = .returned (.tuple #[.slice none 0 0, .int .i64 er]) ∧ Below w.heap.size w w' := by
  obtain ⟨v, G, hL, hF⟩ := h
  have HP := Lib.hid (hL.dev.pointer z)
  have hrd := hL.dev.read z 0 (zpt D z)
  rw [hr] at hrd
  have HR : Hid (Calls Tryd.prog 40 #[.pointer (some ⟨p, 0, none⟩), .int .i64 z, .int .i64 0, .int .i64 (zpt D z)] w fun e w' => ∃ v, e = .returned (.tuple #[v, .int .i64 er]) ∧ OB w' w.heap.size v [] ∧ Below w.heap.size w w') := Lib.hid hrd
  have hne : (er != 0) = true := by rw [bne_iff_ne]; exact her
  clear hL hF hrd her hr
  generalize zpt D z = pt at *
  go_enter Tryd.func30, Tryd.ntmps30
  go_wp2_with fail; (with_reducible refine (HP.out).mono ?_); rintro e w1 ⟨rfl, hw1⟩
  subst hw1
  go_wp2_with fail; (with_reducible refine (HR.out).mono ?_); rintro e w1 ⟨v1, rfl, ho1, hb1⟩
  obtain ⟨a1, n1, c1, rfl, hm1⟩ := ho1.shape
  clear ho1
  go_wp2
  go_ret2
  exact ⟨rfl, hb1⟩
set_option maxRecDepth 100000 in
set_option maxHeartbeats 8000000 in
theorem LI.list (h : LI w B q p F D zs) (hT : Tab9 w) (z : Int) (b : List UInt8) (K : List (List UInt8)) (hr : zread D z 0 (zpt D z) = (b, 0)) (hS : ScanIs b K) (hbl : b.length ≤ 65536) :
    Calls Tryd.prog 30 #[.pointer (some ⟨p, 0, none⟩), .int .i64 z] w fun e w' => ∃ u, e = .returned (.tuple #[u, .int .i64 0]) ∧ w'.ownsRow w.heap.size 69 7 u (vlist z 0 K).length (vvs (vlist z 0 K)) ∧ Below w.heap.size w w' := by
  obtain ⟨v, G, hL, hF⟩ := h
  have HP := Lib.hid (hL.dev.pointer z)
  have hrd := hL.dev.read z 0 (zpt D z)
  rw [hr] at hrd
  have HR : Hid (Calls Tryd.prog 40 #[.pointer (some ⟨p, 0, none⟩), .int .i64 z, .int .i64 0, .int .i64 (zpt D z)] w fun e w' => ∃ v, e = .returned (.tuple #[v, .int .i64 0]) ∧ OB w' w.heap.size v b ∧ Below w.heap.size w w') := Lib.hid hrd
  have HT := Lib.hid hT
  have HS := Lib.hid hS
  obtain ⟨i0, hi, hz0, hz1, hz2⟩ := info_parts infoVv
  clear hL hF hrd hr hS hT
  generalize zpt D z = pt at *
  go_enter Tryd.func30, Tryd.ntmps30
  go_wp2_with fail; (with_reducible refine (HP.out).mono ?_); rintro e w1 ⟨rfl, hw1⟩
  subst hw1
  go_wp2_with fail; (with_reducible refine (HR.out).mono ?_); rintro e w1 ⟨v1, rfl, ho1, hb1⟩
  obtain ⟨a1, n1, c1, rfl, hm1⟩ := ho1.shape
  obtain rfl := ho1.len
  have HB1 := Lib.hid hb1
  have HSc := Lib.hid (scan_any (HT.out.below hb1) ho1.reads (by omega))
  clear ho1 hb1 HR HP
  go_wp2_with fail; (with_reducible refine (HSc.out).mono ?_); rintro e w2 ⟨xs, u2, hS2, rfl, hrow2, hb2⟩
  have hxs : xs.map RX.l = K := hS2.uniq HS.out
  have h5 := hS2.few
  rw [List.length_map] at h5
  have HB2 := Lib.hid (HB1.out.trans (hb2.mono HB1.out.size))
  have hfl := hS2.le.1
  rw [hxs] at hfl
  obtain ⟨xa, xc, rfl, hxm, hbss⟩ := hrow2.bss
  have HBS := Lib.hid hbss
  have hKl : K.length = xs.length := by rw [← hxs, List.length_map]
  have hKx : ∀ k (h1 : k < xs.length) (h2 : k < K.length), K[k] = (xs[k]).l := fun k h1 h2 => by subst hxs; simp
  have hKb : ∀ k, (flR (K.take k)).length ≤ 65536 := fun k => Nat.le_trans (flR_take_le K k) (by omega)
  have hKt : ∀ k (h : k < K.length), (K[k]).length ≤ 65536 := fun k h => by
    have h1 := flR_mem (List.getElem_mem h)
    have h2 := frB_len K[k]
    omega
  have HKx := Lib.hid hKx
  have HKb := Lib.hid hKb
  have HKt := Lib.hid hKt
  have HKl := Lib.hid hKl
  clear hS2 hrow2 hb2 hxs hfl hbss HSc HB1 hKx hKb hKl hKt
  have hBS : (xs.map fun x => (x.v, x.l)).length = xs.length := List.length_map _
  go_wp2
  go_loopw [8, 9, 36] (fun v at0 i wr => ∃ k : Nat, k ≤ xs.length ∧ i = .int .i64 k ∧ at0 = .int .i64 ((flR (K.take k)).length : Nat) ∧ wr.ownsRow w2.heap.size 69 7 v (vlist z 0 (K.take k)).length (vvs (vlist z 0 (K.take k))) ∧ Below w2.heap.size w2 wr) (fun _ _ i _ => xs.length - (intOf i).toNat)
  case atStart => exact ⟨0, Nat.zero_le _, rfl, by simp [flR], World.ownsRow_nil _ _ _ _, Below.refl _ _⟩
  case round =>
    obtain ⟨k, hk, rfl, rfl, hrow, hb2r⟩ := hrel
    have HRow := Lib.hid hrow
    have hbr : Below w.heap.size w wr := HB2.out.trans (hb2r.mono HB2.out.size)
    have HBr := Lib.hid hbr
    have HB2r := Lib.hid hb2r
    obtain ⟨va, vc, rfl, hvc, _⟩ := row_shape hrow
    clear hrow
    by_cases hlt : k < xs.length
    · have hlk : k < K.length := by rw [HKl.out]; exact hlt
      obtain ⟨b', off, ao, cc, rfl, hve, d0, hrb, hmx⟩ := HBS.out.cell hb2r k (by rw [hBS]; exact hlt)
      simp only [List.getElem_map] at hve d0 hrb hmx
      have hkx := HKx.out k hlt hlk
      have htk : K.take (k + 1) = K.take k ++ [K[k]] := List.take_succ_eq_append_getElem hlk
      have hkt := HKt.out k hlk
      rw [hkx] at htk hkt
      have hvl := vlist_append z (K.take k) [(xs[k]).l] 0
      rw [Nat.zero_add, vlist_one] at hvl
      have hfl2 : (flR (K.take (k + 1))).length = (flR (K.take k)).length + (frB (xs[k]).l).length := by rw [htk, flR_snoc, List.length_append]
      have hvr := vread_any hrb (by omega)
      have HVr := Lib.hid hvr
      have hkb := HKb.out k
      have hvn : (vlist z 0 (K.take k)).length ≤ 65536 := by
        have := vlist_len z (K.take k) 0
        rw [List.length_take] at this
        omega
      have HSz : Hid (∀ W : World, Calls Tryd.prog 23 #[.int .i64 ((xs[k]).l.length : Nat)] W fun e w' => e = .returned (.int .i64 ((frB (xs[k]).l).length : Nat)) ∧ W = w') := Lib.hid fun W => by
        have := rsize_any (xs[k]).l.length W (by omega)
        rw [← frB_len] at this
        exact this
      have hfb : (frB (xs[k]).l).length ≤ 1000000 := by
        have h9 := num_len9 (n := (xs[k]).l.length) (by omega)
        have := frB_len (xs[k]).l
        omega
      have HTk := Lib.hid htk
      have HVl := Lib.hid hvl
      have HFl := Lib.hid hfl2
      clear hve hrb hmx hkx htk hvl hfl2 hvr hbr hb2r
      generalize (xs[k]).l = t at *
      generalize hPv : vlist z 0 (K.take k) = P at *
      clear hPv
      obtain ⟨a0, ha0⟩ : ∃ a0, (flR (K.take k)).length = a0 := ⟨_, rfl⟩
      rw [ha0] at HFl HVl hkb
      rw [ha0]
      clear ha0
      go_wp2_with fail; (with_reducible refine (HVr.out).mono ?_); rintro e w4 ⟨hb4, u, s, kk, vv, ok, rfl, hcase⟩
      have HB4 := Lib.hid (HBr.out.trans (hb4.mono HBr.out.size))
      have HB24 := Lib.hid (HB2r.out.trans (hb4.mono HB2r.out.size))
      have HRow4 := Lib.hid (row_past HRow.out hb4 (Nat.le_refl _))
      have hz4 := HB4.out.size
      clear hb4 HVr HRow d0
      have hbk := (Below.refl w4.heap.size w4).alloc (Nat.le_refl _) (.cells #[.string u, .int .i64 s, .int .i64 kk] 27)
      have HB5 := Lib.hid (HB4.out.trans (hbk.mono hz4))
      have HB25 := Lib.hid (HB24.out.trans (hbk.mono HB24.out.size))
      have HRow5 := Lib.hid (row_past HRow4.out hbk (Nat.le_refl _))
      have hz5 := HB5.out.size
      have hz25 := HB25.out.size
      cases ok with
      | false =>
        have hvo : vone z a0 t = [] := by
          have hn : vdec t = none := by
            rcases hcase with ⟨h, _⟩ | ⟨_, h⟩
            · cases h
            · exact vdec_none h
          unfold vone; rw [hn]
        have HNx : Hid (vlist z 0 (K.take (k + 1)) = P) := Lib.hid (by rw [HTk.out, HVl.out, hvo, List.append_nil])
        clear hcase hvo hbk
        go_wp2_with fail
        with_reducible refine (HSz.out _).mono ?_
        rintro e w6 ⟨rfl, hw6⟩
        subst hw6
        go_wp2
        go_roundw
        case rel => exact ⟨k + 1, by omega, by go_num, by rw [HFl.out]; go_num, by rw [HNx.out]; exact HRow5.out, HB25.out⟩
        case measure => simp [intOf]; omega
      | true =>
        obtain ⟨x0, x1, x2⟩ := cells3n (w := w4) (a := .string u) (b := .int .i64 s) (c := .int .i64 kk) (T := 27)
        have hvo : vone z a0 t = [⟨⟨u, s, kk, vv⟩, z, (a0 : Nat), (t.length : Nat)⟩] := by
          have hn : vdec t = some ⟨u, s, kk, vv⟩ := by
            rcases hcase with ⟨_, h1, h2⟩ | ⟨h, _⟩
            · exact vdec_some (by omega) h1 h2
            · cases h
          unfold vone; rw [hn]
        have HNx : Hid (vlist z 0 (K.take (k + 1)) = P ++ [⟨⟨u, s, kk, vv⟩, z, (a0 : Nat), (t.length : Nat)⟩]) := Lib.hid (by rw [HTk.out, HVl.out, hvo])
        have HZ : Hid (∀ v' w7, w7.ownsRow w2.heap.size 69 7 v' (P.length + 1) (vvs P ++ [.string u, .int .i64 s, .int .i64 kk, .string vv, .int .i64 z, .int .i64 a0, .int .i64 t.length]) → App (w4.alloc (.cells #[.string u, .int .i64 s, .int .i64 kk] 27)) w7 (.slice va P.length vc) v' → w7.ownsRow w2.heap.size 69 7 v' (vlist z 0 (K.take (k + 1))).length (vvs (vlist z 0 (K.take (k + 1)))) ∧ Below w2.heap.size w2 w7) := Lib.hid fun v' w7 h1 h2 => by
          refine ⟨?_, HB25.out.grown h2.grown hz25 fun q hq => (World.ownsRow.lt HRow5.out q hq).1⟩
          rw [HNx.out, vvs_snoc, List.length_append]
          exact h1
        clear hcase hvo hbk
        go_wp2_with (first
          | (at_builtin; go_loud (refine wpList_appN rfl (.tmp 47) (.tmp 56) 65 69 i0 (.agg #[.string ⟨#[]⟩, .int .i64 0, .int .i64 0, .string ⟨#[]⟩, .int .i64 0, .int .i64 0, .int .i64 0]) 7 72 Tryd.underlying65 hi hz0 hz1 hz2 rfl (by decide) rfl w2.heap.size _ P.length (vvs P) rfl HRow5.out #[.string u, .int .i64 s, .int .i64 kk, .string vv, .int .i64 z, .int .i64 a0, .int .i64 t.length] 1 1 (by first | rfl | (simp; done) | (simp; rfl)) rfl (by simp [Value.oneCell']) (by unfold maxLen; omega) (by omega) hz25 ?_); intro v7 w7 ho7 _ ha7; have HX7 := Lib.hid (HZ.out _ _ ho7 ha7); clear ho7 ha7)
          | (go_at_call 23; (with_reducible refine (HSz.out _).mono ?_; rintro e w8 ⟨rfl, rfl⟩)))
        go_roundw
        case rel => exact ⟨k + 1, by omega, by go_num, by rw [HFl.out]; go_num, HX7.out.1, HX7.out.2⟩
        case measure => simp [intOf]; omega
    · obtain rfl : k = xs.length := by omega
      have htk : K.take xs.length = K := List.take_of_length_le (by rw [HKl.out]; exact Nat.le_refl _)
      rw [htk] at HRow
      have HTk := Lib.hid htk
      go_wp2
      go_ret2
      exact ⟨_, rfl, by have h := HRow.out; rw [htk]; exact row_mono h HB2.out.size, HBr.out⟩
end
end Go.Proofs.YtmhklmecpbdljaaDoor
/- Chapter 14: rows of items and of values; what is no value. -/

namespace Go.Proofs.YtmhklmecpbdljaaDoor
open Go.RowKit Go.Shelf
set_option linter.unusedVariables false
set_option linter.unusedSimpArgs false

def It.cells (x : It) : List Value := [.string x.u, .int .i64 x.s, .int .i64 x.k, .string x.v]
def itvs (l : List It) : List Value := l.flatMap It.cells
theorem itvs_snoc (l : List It) (y : It) : itvs (l ++ [y]) = itvs l ++ y.cells := by simp [itvs]
theorem itvs_at : ∀ (l : List It) (i : Nat) (h : i < l.length), (itvs l)[i * 4]? = some (.string l[i].u) ∧ (itvs l)[i * 4 + 1]? = some (.int .i64 l[i].s) ∧ (itvs l)[i * 4 + 2]? = some (.int .i64 l[i].k) ∧ (itvs l)[i * 4 + 3]? = some (.string l[i].v)
  | x :: l, 0, _ => ⟨rfl, rfl, rfl, rfl⟩
  | x :: l, i + 1, h => by
    have ih := itvs_at l i (by simpa using h)
    have e : itvs (x :: l) = .string x.u :: .int .i64 x.s :: .int .i64 x.k :: .string x.v :: itvs l := rfl
    rw [e, show (i + 1) * 4 = i * 4 + 4 by omega]
    exact ih
theorem vvs_at : ∀ (l : List Vv) (i : Nat) (h : i < l.length), (vvs l)[i * 7]? = some (.string l[i].x.u) ∧ (vvs l)[i * 7 + 1]? = some (.int .i64 l[i].x.s) ∧ (vvs l)[i * 7 + 2]? = some (.int .i64 l[i].x.k) ∧ (vvs l)[i * 7 + 3]? = some (.string l[i].x.v) ∧ (vvs l)[i * 7 + 4]? = some (.int .i64 l[i].z) ∧ (vvs l)[i * 7 + 5]? = some (.int .i64 l[i].a) ∧ (vvs l)[i * 7 + 6]? = some (.int .i64 l[i].n)
  | x :: l, 0, _ => ⟨rfl, rfl, rfl, rfl, rfl, rfl, rfl⟩
  | x :: l, i + 1, h => by
    have ih := vvs_at l i (by simpa using h)
    have e : vvs (x :: l) = .string x.x.u :: .int .i64 x.x.s :: .int .i64 x.x.k :: .string x.x.v :: .int .i64 x.z :: .int .i64 x.a :: .int .i64 x.n :: vvs l := rfl
    rw [e, show (i + 1) * 7 = i * 7 + 7 by omega]
    exact ih
theorem infoIt : (Tryd.prog.info? 37).map (fun i => (i.zero, i.size, i.bytes)) = some (some (.agg #[.string ⟨#[]⟩, .int .i64 0, .int .i64 0, .string ⟨#[]⟩]), 4, 48) := by kernel_rfl
/-- an item of a row -/
theorem irow_at {w wr : World} {B : Nat} {a : Option Addr} {c : Nat} {l : List It} (h : w.ownsRow B 37 4 (.slice a l.length c) l.length (itvs l)) (hb : Below w.heap.size w wr) (i : Nat) (hi : i < l.length) : ∃ g, a = some ⟨g, 0, none⟩ ∧ wr.cell? ⟨g, i * 4, none⟩ = some (.string l[i].u) ∧ wr.cell? ⟨g, i * 4 + 1, none⟩ = some (.int .i64 l[i].s) ∧ wr.cell? ⟨g, i * 4 + 2, none⟩ = some (.int .i64 l[i].k) ∧ wr.cell? ⟨g, i * 4 + 3, none⟩ = some (.string l[i].v) := by
  obtain ⟨ao, c', e, _, _, hg⟩ := row_shape h
  simp only [Value.slice.injEq] at e
  obtain ⟨rfl, _, rfl⟩ := e
  obtain ⟨g, rfl, _⟩ := hg (by omega)
  obtain ⟨x0, x1, x2, x3⟩ := itvs_at l i hi
  have key : ∀ j v, (itvs l)[j]? = some v → wr.cell? ⟨g, j, none⟩ = some v := fun j v hv => by
    refine cell_next ?_ _ hb
    have := World.ownsRow.cells h (g := g) rfl j v hv
    rw [add_none] at this
    simpa using this
  exact ⟨g, rfl, key _ _ x0, key _ _ x1, key _ _ x2, key _ _ x3⟩
/-- a value of a row -/
theorem vrow_at {w wr : World} {B : Nat} {a : Option Addr} {n c : Nat} {l : List Vv} (h : w.ownsRow B 69 7 (.slice a n c) l.length (vvs l)) (hb : Below w.heap.size w wr) (i : Nat) (hi : i < l.length) : ∃ g, a = some ⟨g, 0, none⟩ ∧ wr.cell? ⟨g, i * 7, none⟩ = some (.string l[i].x.u) ∧ wr.cell? ⟨g, i * 7 + 1, none⟩ = some (.int .i64 l[i].x.s) ∧ wr.cell? ⟨g, i * 7 + 2, none⟩ = some (.int .i64 l[i].x.k) ∧ wr.cell? ⟨g, i * 7 + 3, none⟩ = some (.string l[i].x.v) ∧ wr.cell? ⟨g, i * 7 + 4, none⟩ = some (.int .i64 l[i].z) ∧ wr.cell? ⟨g, i * 7 + 5, none⟩ = some (.int .i64 l[i].a) ∧ wr.cell? ⟨g, i * 7 + 6, none⟩ = some (.int .i64 l[i].n) := by
  obtain ⟨ao, c', e, _, _, hg⟩ := row_shape h
  simp only [Value.slice.injEq] at e
  obtain ⟨rfl, _, rfl⟩ := e
  obtain ⟨g, rfl, _⟩ := hg (by omega)
  obtain ⟨x0, x1, x2, x3, x4, x5, x6⟩ := vvs_at l i hi
  have key : ∀ j v, (vvs l)[j]? = some v → wr.cell? ⟨g, j, none⟩ = some v := fun j v hv => by
    refine cell_next ?_ _ hb
    have := World.ownsRow.cells h (g := g) rfl j v hv
    rw [add_none] at this
    simpa using this
  exact ⟨g, rfl, key _ _ x0, key _ _ x1, key _ _ x2, key _ _ x3, key _ _ x4, key _ _ x5, key _ _ x6⟩
theorem ptrsH : Tryd.prog.stoodInHeld 25 = false := by kernel_rfl
theorem ptrsF : Tryd.prog.underlying 25 = some (.struct (Tryd.prog.fieldsOf 25)) := by kernel_rfl
theorem valsH : Tryd.prog.stoodInHeld 69 = false := by kernel_rfl
theorem valsF : Tryd.prog.underlying 69 = some (.struct (Tryd.prog.fieldsOf 69)) := by kernel_rfl
theorem neVv (u : ByteArray) (s k : Int) (v : ByteArray) (z a n : Int) (w : World) : (binOp .neq 69 (.agg #[.string u, .int .i64 s, .int .i64 k, .string v, .int .i64 z, .int .i64 a, .int .i64 n]) (.agg #[.string u, .int .i64 s, .int .i64 k, .string v, .int .i64 z, .int .i64 a, .int .i64 n])).run Tryd.prog w = .ok (.bool false) w := by
  rw [run_neq_struct, run_equalIn_agg w _ 69 _ _ valsF valsH]
  simp [Program.fieldsOf, Tryd.underlying69, Tryd.underlying27, Tryd.underlying25, go_sem, ksF, ksH, ptrsF, ptrsH]
theorem neKeyS (u : ByteArray) (s k : Int) (w : World) : (binOp .neq 27 (.agg #[.string u, .int .i64 s, .int .i64 k]) (.agg #[.string u, .int .i64 s, .int .i64 k])).run Tryd.prog w = .ok (.bool false) w := by
  rw [neKey, (keq_iff _ _ _ _ _ _).2 ⟨rfl, rfl, rfl⟩]; rfl
/-- a text that is longer than what stands behind it is no value -/
theorem junk_none {j : List UInt8} (h : j.length ≤ 50) : vdec (120 :: j) = none := by
  refine vdec_none fun u s k v hr e => ?_
  have hv := recB_ge u s k v
  rw [← e, List.length_cons] at hv
  obtain ⟨e1, _⟩ := rdText_of_rec (v := v) hr (by omega)
  rw [← e] at e1
  obtain ⟨n, q, h1, h2, _⟩ := rdText_some e1
  have h3 : rdNum 9 true (120 :: j) = some (120, j) := rdNum_last (by decide) (.inl (by decide))
  rw [h3, Option.some.injEq, Prod.mk.injEq] at h1
  obtain ⟨rfl, rfl⟩ := h1
  omega
theorem vdec_rec {u : ByteArray} {s k : Int} {v : ByteArray} (hr : keyRight u s k = true) (hv : v.size ≤ 100000) : vdec (recB u s k v) = some ⟨u, s, k, v⟩ :=
  vdec_some (by have := recB_len hr v (by omega); omega) (x := ⟨u, s, k, v⟩) hr rfl
end Go.Proofs.YtmhklmecpbdljaaDoor
