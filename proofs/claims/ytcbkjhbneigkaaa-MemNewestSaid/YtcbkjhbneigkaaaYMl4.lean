/- Chapter 11: MemNewest: plain laws, and its walk. -/
import Derived.Test.YtcbkjhbneigkaaaYMl2
import Derived.Test.YtcbkjhbneigkaaaYSkSrs
namespace Go.Proofs.Ytcbkjhbneigkaaa
open Go.RowKit
set_option linter.unusedVariables false
set_option linter.unusedSimpArgs false

def sAt (l : List ByteArray) (i : Nat) : ByteArray := if h : i < l.length then l[i] else ByteArray.empty
theorem sAt_in {l : List ByteArray} {i : Nat} (h : i < l.length) : sAt l i = l[i] := dif_pos h
def nE (K V : List ByteArray) (i : Nat) : ME := ⟨sAt K i, 2 * (i : Int) + 1, (if (sAt V i).size = 0 then 2 else 1), sAt V i⟩
def nM (K V : List ByteArray) : Nat → List ME
  | 0 => []
  | n + 1 => mput (nM K V n) (nE K V n)
theorem nM_len (K V : List ByteArray) : ∀ n, (nM K V n).length = n
  | 0 => rfl
  | n + 1 => by rw [nM, mput_len, nM_len K V n]
theorem nM_mem (K V : List ByteArray) (e : ME) : ∀ n, e ∈ nM K V n ↔ ∃ i, i < n ∧ e = nE K V i
  | 0 => by simp [nM]
  | n + 1 => by
    rw [nM, mput_mem, nM_mem K V e n]
    constructor
    · rintro (h | ⟨i, h, h2⟩)
      · exact ⟨n, by omega, h⟩
      · exact ⟨i, by omega, h2⟩
    · rintro ⟨i, h, h2⟩
      rcases Nat.lt_or_ge i n with h3 | h3
      · exact .inr ⟨i, h3, h2⟩
      · have : i = n := by omega
        subst this; exact .inl h2
/-- the last of the first that has a key at a number -/
def wantN (K : List ByteArray) (k : ByteArray) (at' : Int) : Nat → Int
  | 0 => -1
  | n + 1 => if sAt K n = k ∧ 2 * (n : Int) + 1 ≤ at' then (n : Nat) else wantN K k at' n
theorem wantN_is (K : List ByteArray) (k : ByteArray) (at' : Int) : ∀ n, (wantN K k at' n = -1 ∧ ∀ i, i < n → ¬ (sAt K i = k ∧ 2 * (i : Int) + 1 ≤ at')) ∨
    ∃ i : Nat, i < n ∧ wantN K k at' n = (i : Nat) ∧ sAt K i = k ∧ 2 * (i : Int) + 1 ≤ at' ∧ ∀ j, i < j → j < n → ¬ (sAt K j = k ∧ 2 * (j : Int) + 1 ≤ at')
  | 0 => .inl ⟨rfl, fun i h => by omega⟩
  | n + 1 => by
    unfold wantN
    by_cases h : sAt K n = k ∧ 2 * (n : Int) + 1 ≤ at'
    · rw [if_pos h]
      exact .inr ⟨n, by omega, rfl, h.1, h.2, fun j h1 h2 => by omega⟩
    · rw [if_neg h]
      rcases wantN_is K k at' n with ⟨h1, h2⟩ | ⟨i, h1, h2, h3, h4, h5⟩
      · refine .inl ⟨h1, fun i hi => ?_⟩
        rcases Nat.lt_or_ge i n with h3 | h3
        · exact h2 i h3
        · have : i = n := by omega
          subst this; exact h
      · refine .inr ⟨i, by omega, h2, h3, h4, fun j h6 h7 => ?_⟩
        rcases Nat.lt_or_ge j n with h8 | h8
        · exact h5 j h6 h8
        · have : j = n := by omega
          subst this; exact h
theorem nM_got {K V : List ByteArray} {n : Nat} {last : Int} (hi : MInv (nM K V n) last) (k : ByteArray) (at' : Int) :
    (wantN K k at' n = -1 ∧ mgot (nM K V n) k at' = ent0 ∧ mgotB (nM K V n) k at' = false) ∨
    ∃ i : Nat, i < n ∧ wantN K k at' n = (i : Nat) ∧ mgot (nM K V n) k at' = entV (nE K V i) ∧ mgotB (nM K V n) k at' = true := by
  rcases wantN_is K k at' n with ⟨h1, h2⟩ | ⟨i, h1, h2, h3, h4, h5⟩
  · refine .inl ⟨h1, mgot_no (mget_none fun f hf => mhit_not fun hh => ?_)⟩
    obtain ⟨i, hi, rfl⟩ := (nM_mem K V f n).1 hf
    exact h2 i hi hh
  · refine .inr ⟨i, h1, h2, ?_⟩
    obtain ⟨hc, he⟩ := mget_some hi.rise (u := k) (at' := at') ((nM_mem K V (nE K V i) n).2 ⟨i, h1, rfl⟩) (mhit_iff.2 ⟨h3, h4⟩) (fun f hf hh => by
      obtain ⟨j, hj, rfl⟩ := (nM_mem K V f n).1 hf
      have hh := mhit_iff.1 hh
      rcases Nat.lt_trichotomy j i with h6 | h6 | h6
      · refine .inr (newer_first (by rw [hh.1]; exact h3) ?_)
        show 2 * (j : Int) + 1 < 2 * (i : Int) + 1
        omega
      · subst h6; exact .inl rfl
      · exact absurd hh (h5 j h6 hj))
    exact mgot_in hc he
theorem one_apply {w1 W : World} {B t p g : Nat} {F : Nat → Prop} {M : List ME} {last seq k : Int} {u v : ByteArray} {e : TypeId} (h : TB w1 B t p F M last) (hb : Below w1.heap.size w1 W) (hg : W.heap[g]? = some (.cells #[.int .i64 k, .string u, .string v] e (0, 0))) (hge : w1.heap.size ≤ g)
    (hr : batRight seq [⟨k, u, v⟩] = true) (hs : last < seq) (hl : M.length ≤ 99998) :
    Calls Try.prog 10 #[.pointer (some ⟨t, 0, none⟩), .agg #[.int .i64 seq, .slice (some ⟨g, 0, none⟩) 1 1], .slice none 0 0] W fun e w' => e = .returned (.int .i64 0) ∧ ∃ F', TB w' B t p F' (mput M ⟨u, seq, k, v⟩) seq ∧ Below B W w' := by
  have hW := h.below hb
  have hn : ¬ GT t F g := fun hf => by have := (h.ge g hf).2; omega
  have hop := (batRight_all hr).1 ⟨k, u, v⟩ (by simp)
  unfold opRight at hop
  simp only [decide_eq_true_eq] at hop
  have hops : ∀ w', Chg (GT t F) W w' → OPs w' (some ⟨g, 0, none⟩) [⟨k, u, v⟩] := fun w' hc => by
    obtain ⟨c0, c1, c2, _⟩ := mcell_three (blk_chg hg hc hn)
    refine ⟨fun _ => ⟨g, 0, rfl, fun i hi => ?_⟩, fun x hx => ?_⟩
    · match i, hi with
      | 0, _ => exact ⟨c0, c1, c2⟩
    · simp only [List.mem_cons, List.not_mem_nil, or_false] at hx
      subst hx
      exact ⟨by simp only; omega, by simp only; omega, by simp only; unfold maxLen; omega, by simp only; unfold maxLen; omega⟩
  have := TB.apply hW (l := [⟨k, u, v⟩]) (D := []) (a := some ⟨g, 0, none⟩) (da := none) (c := 1) (dc := 0) (seq := seq) hops (fun w' _ => nil_ints w') (by simp; unfold maxLen; omega) (by decide) hr hs (by simp; omega)
  refine this.mono fun r w' ⟨h1, F', h2, _, _, h5⟩ => ⟨h1, F', ?_, h5⟩
  have e1 : mbat M [⟨k, u, v⟩] seq [(⟨k, u, v⟩ : OpD)].length = mput M ⟨u, seq, k, v⟩ := by
    show mput M (mE [⟨k, u, v⟩] seq 0) = _
    have : mE [⟨k, u, v⟩] seq 0 = ⟨u, seq, k, v⟩ := by
      show (⟨u, seq + ((0 : Nat) : Int), k, v⟩ : ME) = _
      rw [Int.natCast_zero, Int.add_zero]
    rw [this]
  have e2 : seq + ([(⟨k, u, v⟩ : OpD)].length : Nat) - 1 = seq := by simp
  rw [e1, e2] at h2
  exact h2
theorem nE_at {K V : List ByteArray} {i : Nat} (h : i < K.length) (h2 : i < V.length) : nE K V i = ⟨K[i], 2 * (i : Int) + 1, (if (V[i]).size = 0 then 2 else 1), V[i]⟩ := by
  unfold nE; rw [sAt_in h, sAt_in h2]
theorem one_right {u v : ByteArray} {k seq : Int} (h1 : 1 ≤ u.size) (h2 : u.size ≤ 64) (h3 : v.size ≤ 4096) (hk : k = 1 ∨ (k = 2 ∧ v.size = 0)) (hs : 0 ≤ seq) (hs2 : seq ≤ 1000) : batRight seq [⟨k, u, v⟩] = true := by
  unfold batRight
  have ho : opRight ⟨k, u, v⟩ = true := by
    unfold opRight
    refine decide_eq_true ⟨by simp only; omega, by simp only; omega, h1, h2, h3, fun e => ?_⟩
    simp only at e ⊢; omega
  simp [ho]
  omega
set_option maxRecDepth 100000 in
set_option maxHeartbeats 8000000 in
theorem newest11 {w : World} {a b : Option Addr} {c d : Nat} {K V : List ByteArray} (h : SR5 w a K) (h2 : SR5 w b V) (hl : K.length ≤ maxLen) (hl2 : V.length ≤ maxLen) :
    Calls Try.prog 3 #[.slice a K.length c, .slice b V.length d] w fun e w' => e = .returned (.bool true) ∧ Below w.heap.size w w' := by
  have H := Lib.hid h
  have H2 := Lib.hid h2
  unfold maxLen at hl hl2
  clear h h2
  by_cases hd : K.length ≤ 40 ∧ K.length ≤ V.length
  case neg =>
    have hd2 : 40 < K.length ∨ (K.length ≤ 40 ∧ V.length < K.length) := by omega
    clear hd
    rcases hd2 with hd | ⟨hd, hd2⟩
    all_goals
      go_enter Try.func3, Try.ntmps3
      go_wp2_with fail; (with_reducible refine (TB.new w).mono ?_); rintro e w1 ⟨t, p, F, rfl, hT, hb1⟩
      go_wp2_with fail; (with_reducible refine (awake11 _).mono ?_); rintro e w2 ⟨rfl, hb2⟩
      go_wp2
      go_ret
      exact ⟨rfl, bnext hb1 hb2⟩
  obtain ⟨hd, hd2⟩ := hd
  have hvk : decide (V.length < K.length) = false := decide_eq_false (by omega)
  have hvk2 : decide ((V.length : Int) < (K.length : Int)) = false := decide_eq_false (by omega)
  go_enter Try.func3, Try.ntmps3
  go_wp2_with fail; (with_reducible refine (TB.new w).mono ?_); rintro e w1 ⟨t, p, F, rfl, hT, hb1⟩
  have HT := Lib.hid hT
  have HB1 := Lib.hid hb1
  clear hT hb1
  go_wp2
  go_loopw [38] (fun i wr => ∃ (k : Nat) (F' : Nat → Prop), k ≤ K.length ∧ i = .int .i64 k ∧ TB wr w.heap.size t p F' (nM K V k) (2 * (k : Int) - 1) ∧ Below w.heap.size w wr) (fun i _ => K.length - (intOf i).toNat)
  case atStart => exact ⟨0, F, Nat.zero_le _, rfl, HT.out, HB1.out⟩
  case round =>
    clear HT HB1
    obtain ⟨k, F', hk, rfl, hT, hbr⟩ := hrel
    have HT := Lib.hid hT
    have HBr := Lib.hid hbr
    clear hT
    by_cases hlt : k < K.length
    · obtain ⟨b1, o1, rfl, d0, hz1⟩ := H.out.cell hbr k hlt
      obtain ⟨b2, o2, rfl, d1, hz2⟩ := H2.out.cell hbr k (by omega)
      unfold maxLen at hz1 hz2
      have hb2z : b2 < wr.heap.size := World.block_lt_of_cell? wr _ d1
      have hne := nE_at hlt (show k < V.length by omega)
      have hnm : nM K V (k + 1) = mput (nM K V k) (nE K V k) := rfl
      rw [hne] at hnm
      have hkl := nM_len K V k
      generalize hM1 : nM K V (k + 1) = M1 at *
      have HM1 := Lib.hid hM1
      generalize nM K V k = M0 at *
      generalize V[k] = y at *
      generalize K[k] = x at *
      clear hM1 hne
      have HNm := Lib.hid hnm
      clear hnm
      by_cases hok : 1 ≤ x.size ∧ x.size ≤ 64 ∧ y.size ≤ 500
      case neg =>
        have hx : x.size < 1 ∨ (1 ≤ x.size ∧ 64 < x.size) ∨ (1 ≤ x.size ∧ x.size ≤ 64 ∧ 500 < y.size) := by omega
        clear hok hbr
        rcases hx with hx | ⟨hx, hx2⟩ | ⟨hx, hx2, hx3⟩
        all_goals
          go_wp2_with fail; (with_reducible refine (awake11 _).mono ?_); rintro e w2 ⟨rfl, hb2⟩
          go_wp2
          go_ret
          exact ⟨rfl, bnext HBr.out hb2⟩
      obtain ⟨hx1, hx2, hx3⟩ := hok
      have hve := Strs.isEmpty_eq y
      have HAp : Hid (∀ kd W g, (kd = 1 ∨ (kd = 2 ∧ y.size = 0)) → Below wr.heap.size wr W → W.heap[g]? = some (.cells #[.int .i64 kd, .string x, .string y] 27 (0, 0)) → wr.heap.size ≤ g →
          Calls Try.prog 10 #[.pointer (some ⟨t, 0, none⟩), .agg #[.int .i64 (2 * (k : Int) + 1), .slice (some ⟨g, 0, none⟩) 1 1], .slice none 0 0] W fun e w' => e = .returned (.int .i64 0) ∧ ∃ F', TB w' w.heap.size t p F' (mput M0 ⟨x, 2 * (k : Int) + 1, kd, y⟩) (2 * (k : Int) + 1) ∧ Below w.heap.size W w') := Lib.hid fun kd W g hkd hb hg hge => one_apply HT.out hb hg hge (one_right hx1 hx2 (by omega) hkd (by omega) (by omega)) (by omega) (by omega)
      by_cases hy : y.size = 0
      · rw [decide_eq_true hy] at hve
        have Hy := Lib.hid hy
        clear hy hbr
        go_wp2_with fail
        with_reducible refine (HAp.out 2 _ _ ?hctrue ?hatrue ?hbtrue ?hgtrue).mono ?_
        case hctrue => exact .inr ⟨rfl, Hy.out⟩
        case hatrue => (repeat first | exact Below.refl _ _ | refine Below.drew ?_ | refine Below.alloc ?_ (by simp <;> omega) _ | refine Below.setCell ?_ (by simp <;> omega) _)
        case hbtrue => exact mnew_at (by simp)
        case hgtrue => simp
        rintro e w3 ⟨rfl, F3, hT3, hb3⟩
        have HT3 := Lib.hid hT3
        have HB3 : Hid (Below w.heap.size w w3) := Lib.hid (HBr.out.trans ((show Below w.heap.size wr _ by (repeat first | exact Below.refl _ _ | refine Below.drew ?_ | refine Below.alloc ?_ (by have := HBr.out.size; simp <;> omega) _ | refine Below.setCell ?_ (by have := HBr.out.size; simp <;> omega) _)).trans hb3))
        clear hT3 hb3
        go_wp2
        go_roundw
        case rel => exact ⟨k + 1, F3, by omega, by go_num, by
          rw [HM1.out, HNm.out, if_pos Hy.out, show 2 * ((k + 1 : Nat) : Int) - 1 = 2 * (k : Int) + 1 by omega]
          exact HT3.out, HB3.out⟩
        case measure => simp [intOf]; omega
      · rw [decide_eq_false hy] at hve
        have Hy := Lib.hid hy
        clear hy hbr
        go_wp2_with fail
        with_reducible refine (HAp.out 1 _ _ ?hcfalse ?hafalse ?hbfalse ?hgfalse).mono ?_
        case hcfalse => exact .inl rfl
        case hafalse => (repeat first | exact Below.refl _ _ | refine Below.drew ?_ | refine Below.alloc ?_ (by simp <;> omega) _ | refine Below.setCell ?_ (by simp <;> omega) _)
        case hbfalse => exact mnew_at (by simp)
        case hgfalse => simp
        rintro e w3 ⟨rfl, F3, hT3, hb3⟩
        have HT3 := Lib.hid hT3
        have HB3 : Hid (Below w.heap.size w w3) := Lib.hid (HBr.out.trans ((show Below w.heap.size wr _ by (repeat first | exact Below.refl _ _ | refine Below.drew ?_ | refine Below.alloc ?_ (by have := HBr.out.size; simp <;> omega) _ | refine Below.setCell ?_ (by have := HBr.out.size; simp <;> omega) _)).trans hb3))
        clear hT3 hb3
        go_wp2
        go_roundw
        case rel => exact ⟨k + 1, F3, by omega, by go_num, by
          rw [HM1.out, HNm.out, if_neg Hy.out, show 2 * ((k + 1 : Nat) : Int) - 1 = 2 * (k : Int) + 1 by omega]
          exact HT3.out, HB3.out⟩
        case measure => simp [intOf]; omega
    · obtain rfl : k = K.length := by omega
      have HB4 := Lib.hid hbr
      clear hbr
      go_wp2
      go_loopw [86] (fun i wx => ∃ j : Nat, j ≤ 2 * K.length + 2 ∧ i = .int .i64 j ∧ Below wr.heap.size wr wx) (fun i _ => 2 * K.length + 2 - (intOf i).toNat)
      case atStart => exact ⟨0, Nat.zero_le _, rfl, Below.refl _ _⟩
      case round =>
        obtain ⟨j, hj, rfl, hbx⟩ := hrel
        have HBx := Lib.hid hbx
        have HT5 := Lib.hid (HT.out.below hbx)
        have HB5 := Lib.hid (HBr.out.trans (hbx.mono HBr.out.size))
        clear hbx
        by_cases hlj : j < 2 * K.length + 2
        · have hjd : decide ((j : Int) < 2 * (K.length : Int) + 2) = true := decide_eq_true (by omega)
          go_wp2
          go_loopw [91] (fun i wy => ∃ m : Nat, m ≤ K.length ∧ i = .int .i64 m ∧ Below wr.heap.size wr wy) (fun i _ => K.length - (intOf i).toNat)
          case atStart => exact ⟨0, Nat.zero_le _, rfl, Below.refl _ _⟩
          case round =>
            obtain ⟨m, hm, rfl, hby⟩ := hrel
            have HBy := Lib.hid hby
            have HT6 := Lib.hid (HT5.out.below hby)
            have HB6 := Lib.hid (HB5.out.trans (hby.mono HB5.out.size))
            clear hby
            by_cases hlm : m < K.length
            · obtain ⟨b1, o1, rfl, d0, hz1⟩ := H.out.cell HB6.out m hlm
              generalize K[m] = x at *
              have hxz := hz1
              have H1 := Lib.hid (fun W (hb : Below w.heap.size w W) q (hq : q < K.length) => by
                obtain ⟨b', o', e', f0, _⟩ := H.out.cell hb q hq
                cases e'
                exact (f0 : W.cell? ⟨b1, o1 + q, none⟩ = some (.string K[q])))
              have HGet := Lib.hid (fun W (hb : Below wr.heap.size wr W) => (HT6.out.below hb).get (by rw [nM_len]; omega) x (j : Int) hxz (by omega) (by omega))
              have hgot := nM_got (V := V) (n := K.length) HT6.out.inv x (j : Int)
              have HGot := Lib.hid hgot
              clear hgot
              go_wp2
              go_loopw [97, 12] (fun i wt wz => ∃ q : Nat, q ≤ K.length ∧ i = .int .i64 q ∧ wt = .int .i64 (wantN K x (j : Int) q) ∧ Below wr.heap.size wr wz) (fun i _ _ => K.length - (intOf i).toNat)
              case atStart => exact ⟨0, Nat.zero_le _, rfl, rfl, Below.refl _ _⟩
              case round =>
                obtain ⟨q, hq, rfl, rfl, hbz⟩ := hrel
                have HBz := Lib.hid hbz
                have HB7 := Lib.hid (HB6.out.trans (hbz.mono HB6.out.size))
                by_cases hlq : q < K.length
                · have f0 := H1.out _ HB7.out q hlq
                  have hst : wantN K x (j : Int) (q + 1) = if sAt K q = x ∧ 2 * (q : Int) + 1 ≤ (j : Int) then ((q : Nat) : Int) else wantN K x (j : Int) q := rfl
                  rw [sAt_in hlq] at hst
                  have HSt := Lib.hid hst
                  generalize wantN K x (j : Int) q = wq at *
                  generalize K[q] = y at *
                  clear hst hbz
                  by_cases hx : y = x
                  · have hqq := str_eq hx
                    by_cases hle : 2 * (q : Int) + 1 ≤ (j : Int)
                    · have hd3 := decide_eq_true hle
                      have Hn : Hid (wantN K x (j : Int) (q + 1) = (q : Nat)) := Lib.hid (by rw [HSt.out, if_pos ⟨hx, hle⟩])
                      clear hx hle
                      go_wp2
                      go_roundw
                      case rel => exact ⟨q + 1, by omega, by go_num, by rw [Hn.out], HBz.out⟩
                      case measure => simp [intOf]; omega
                    · have hd3 := decide_eq_false hle
                      have Hn : Hid (wantN K x (j : Int) (q + 1) = wq) := Lib.hid (by rw [HSt.out, if_neg fun h => hle h.2])
                      clear hx hle
                      go_wp2
                      go_roundw
                      case rel => exact ⟨q + 1, by omega, by go_num, by rw [Hn.out], HBz.out⟩
                      case measure => simp [intOf]; omega
                  · have hqq := str_ne hx
                    have Hn : Hid (wantN K x (j : Int) (q + 1) = wq) := Lib.hid (by rw [HSt.out, if_neg fun h => hx h.1])
                    clear hx
                    go_wp2
                    go_roundw
                    case rel => exact ⟨q + 1, by omega, by go_num, by rw [Hn.out], HBz.out⟩
                    case measure => simp [intOf]; omega
                · obtain rfl : q = K.length := by omega
                  have HG := Lib.hid (HGet.out _ hbz)
                  clear hbz
                  rcases HGot.out with ⟨hw, hg1, hg2⟩ | ⟨i, hi, hw, hg1, hg2⟩
                  · rw [hg1, hg2] at HG
                    unfold ent0 at HG
                    rw [hw]
                    clear hw hg1 hg2 HGot
                    go_wp2_with fail; (with_reducible refine (HG.out).mono ?_); rintro e w8 ⟨rfl, hb8⟩
                    have HB8 := Lib.hid (HBz.out.trans (hb8.mono HBz.out.size))
                    clear hb8
                    go_upto_region 29 with (fail)
                    refine gen_wp (fun w' => Below w8.heap.size w8 w') ((Below.refl _ w8).alloc (Nat.le_refl _) _) ?_
                    rintro w9 hb9
                    have HB9 := Lib.hid (HB8.out.trans (hb9.mono HB8.out.size))
                    clear hb9
                    go_quiet (fail)
                    go_wp2
                    go_roundw
                    case rel => exact ⟨m + 1, by omega, by go_num, HBy.out.trans ((below_drewN HB9.out _).mono HBy.out.size)⟩
                    case measure => simp [intOf]; omega
                  · obtain ⟨b2, o2, rfl, d1, hz2⟩ := H2.out.cell HB7.out i (by omega)
                    have hne := nE_at hi (show i < V.length by omega)
                    rw [hg1, hg2, hne] at HG
                    unfold entV at HG
                    rw [hw]
                    generalize V[i] = y at *
                    generalize K[i] = y2 at *
                    have hve := Strs.isEmpty_eq y
                    have hqq := str_eq (rfl : y = y)
                    have hng : decide ((0 : Int) ≤ (i : Int)) = true := decide_eq_true (by omega)
                    clear hw hg1 hg2 HGot hne
                    by_cases hy : y.size = 0
                    · rw [decide_eq_true hy] at hve
                      simp only [if_pos hy] at HG
                      clear hy
                      go_wp2_with fail; (with_reducible refine (HG.out).mono ?_); rintro e w8 ⟨rfl, hb8⟩
                      have HB8 := Lib.hid (HBz.out.trans (hb8.mono HBz.out.size))
                      have d1 := cell_next d1 w8 hb8
                      clear hb8
                      go_upto_region 29 with (fail)
                      refine gen_wp (fun w' => Below w8.heap.size w8 w' ∧ w'.heap[w8.heap.size]? = some (.cells #[.string y2, .int .i64 (2 * (i : Int) + 1), .int .i64 2, .string y] 36 (0, 0))) ⟨(Below.refl _ w8).alloc (Nat.le_refl _) _, heap_alloc_new w8 _⟩ ?_
                      rintro w9 ⟨hb9, b9⟩
                      obtain ⟨x0, x1, x2, x3, _⟩ := mcell_four b9
                      have d1 := cell_next d1 w9 hb9
                      have HB9 := Lib.hid (HB8.out.trans (hb9.mono HB8.out.size))
                      clear hb9 b9
                      go_quiet (fail)
                      go_wp2
                      go_roundw
                      case rel => exact ⟨m + 1, by omega, by go_num, HBy.out.trans ((below_drewN HB9.out _).mono HBy.out.size)⟩
                      case measure => simp [intOf]; omega
                    · rw [decide_eq_false hy] at hve
                      simp only [if_neg hy] at HG
                      clear hy
                      go_wp2_with fail; (with_reducible refine (HG.out).mono ?_); rintro e w8 ⟨rfl, hb8⟩
                      have HB8 := Lib.hid (HBz.out.trans (hb8.mono HBz.out.size))
                      have d1 := cell_next d1 w8 hb8
                      clear hb8
                      go_upto_region 29 with (fail)
                      refine gen_wp (fun w' => Below w8.heap.size w8 w' ∧ w'.heap[w8.heap.size]? = some (.cells #[.string y2, .int .i64 (2 * (i : Int) + 1), .int .i64 1, .string y] 36 (0, 0))) ⟨(Below.refl _ w8).alloc (Nat.le_refl _) _, heap_alloc_new w8 _⟩ ?_
                      rintro w9 ⟨hb9, b9⟩
                      obtain ⟨x0, x1, x2, x3, _⟩ := mcell_four b9
                      have d1 := cell_next d1 w9 hb9
                      have HB9 := Lib.hid (HB8.out.trans (hb9.mono HB8.out.size))
                      clear hb9 b9
                      go_quiet (fail)
                      go_wp2
                      go_roundw
                      case rel => exact ⟨m + 1, by omega, by go_num, HBy.out.trans ((below_drewN HB9.out _).mono HBy.out.size)⟩
                      case measure => simp [intOf]; omega
            · go_wp2
              go_roundw
              case rel => exact ⟨j + 1, by omega, by go_num, HBx.out.trans (HBy.out.mono HBx.out.size)⟩
              case measure => simp [intOf]; omega
        · go_wp2_with fail; (with_reducible refine (awake11 _).mono ?_); rintro e w6 ⟨rfl, hb6⟩
          go_wp2
          go_ret
          exact ⟨rfl, bnext HB5.out hb6⟩
end Go.Proofs.Ytcbkjhbneigkaaa
