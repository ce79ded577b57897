/- Contracts of tithebarnref02: Number, Text, Read; of tithebarnref01.Copy. -/
import Derived.Test.YtkflingpogokcaaDoorYNum
import Derived.Test.YtkflingpogokcaaDoorYRd
namespace Go.Proofs.YtkflingpogokcaaDoor
open Go.RowKit
set_option linter.unusedVariables false

theorem bvs_plus128 (m : Nat) : (#[.int .u8 ((m : Int) % 128 + 128)] : Array Value) = (bvs [UInt8.ofNat (m % 128 + 128)]).toArray := by
  have e : (UInt8.ofNat (m % 128 + 128)).toNat = m % 128 + 128 := by rw [toNat_ofNat8]; omega
  have e2 : ((m : Int) % 128 + 128) = ((m % 128 + 128 : Nat) : Int) := by omega
  simp only [bvs, bv, List.map_cons, List.map_nil, e, e2]
theorem bvs_small (m : Nat) (h : m ≤ 255) : (#[.int .u8 (m : Int)] : Array Value) = (bvs [UInt8.ofNat m]).toArray := by
  have e : (UInt8.ofNat m).toNat = m := by rw [toNat_ofNat8]; omega
  simp only [bvs, bv, List.map_cons, List.map_nil, e]

/-- bytes in new memory -/
def NewB (w : World) (l : List UInt8) (e : Ending) (w' : World) : Prop :=
  ∃ v, e = .returned v ∧ OB w' w.heap.size v l ∧ Below w.heap.size w w'

set_option maxRecDepth 100000 in
set_option maxHeartbeats 2000000 in
theorem refnumber (n : Nat) (w : World) (hn : n < 9223372036854775808) :
    Calls Tryd.prog 57 #[.int .i64 n] w (NewB w (num n)) := by
  have h9 := num_len9 hn
  go_enter Tryd.func57, Tryd.ntmps57
  go_wp2
  go_loopw [0, 3] (fun i v wr => ∃ (m : Nat) (l : List UInt8), m ≤ n ∧ i = .int .i64 m ∧ OB wr w.heap.size v l ∧ l ++ num m = num n ∧ Below w.heap.size w wr) (fun i _ _ => (intOf i).toNat)
  case atStart => exact ⟨n, [], Nat.le_refl _, rfl, OB.nil _ _, rfl, Below.refl _ _⟩
  case round =>
    obtain ⟨m, l, hm, rfl, ho, heq, hb⟩ := hrel
    have hz := hb.size
    have hll : l.length + (num m).length ≤ 9 := by
      have := congrArg List.length heq
      simp only [List.length_append] at this
      omega
    have hp1 := num_pos m
    have Ho := Lib.hid ho
    have Heq := Lib.hid heq
    have Hb := Lib.hid hb
    clear ho heq hb
    by_cases h1 : 127 < m
    · go_wp2_with (at_builtin; go_loud (refine wpList_appb rfl (.tmp 6) (.tmp 11) rfl w.heap.size u3 l rfl Ho.out _ 1 1 [UInt8.ofNat (m % 128 + 128)] rfl ?_ rfl (by decide) ?_ hz ?_); (exact bvs_plus128 m); (simp only [List.length_cons, List.length_nil]; omega); intro v1 w1 ho1 ha1)
      go_roundw
      case rel => exact ⟨m / 128, l ++ [UInt8.ofNat (m % 128 + 128)], by omega, by go_num, ho1, by rw [← Heq.out, num_big h1]; simp, Hb.out.trans (Ho.out.below ha1 hz)⟩
      case measure => simp [intOf]; omega
    · go_wp2_with (at_builtin; go_loud (refine wpList_appb rfl (.tmp 15) (.tmp 18) rfl w.heap.size u3 l rfl Ho.out _ 1 1 [UInt8.ofNat m] rfl ?_ rfl (by decide) ?_ hz ?_); (exact bvs_small m (by omega)); (simp only [List.length_cons, List.length_nil]; omega); intro v1 w1 ho1 ha1)
      go_ret
      refine ⟨v1, rfl, ?_, Hb.out.trans (Ho.out.below ha1 hz)⟩
      rw [← Heq.out, num_small (by omega)]
      exact ho1

set_option maxHeartbeats 1000000 in
theorem reftext {w : World} {ao : Option Addr} {c : Nat} {m : List UInt8} (hr : RB w (.slice ao m.length c) m) (hlen : m.length + 9 ≤ 140737488355328) :
    Calls Tryd.prog 38 #[.slice ao m.length c] w (NewB w (num m.length ++ m)) := by
  have h9 := num_len9 (n := m.length) (by omega)
  have hn := refnumber m.length w (by omega)
  have Hn := Lib.hid hn
  have Hr := Lib.hid hr
  clear hn hr
  go_enter Tryd.func38, Tryd.ntmps38
  go_wp2_with fail; (with_reducible refine (Hn.out).mono ?_); rintro e w1 ⟨v1, rfl, ho1, hb1⟩
  have Ho1 := Lib.hid ho1
  have Hr1 := Lib.hid (Hr.out.below hb1)
  clear ho1
  go_wp2_with (at_builtin; go_loud (refine wpList_appr rfl (.tmp 5) (.tmp 6) rfl w.heap.size v1 (num m.length) rfl Ho1.out _ m rfl Hr1.out ?_ hb1.size ?_); (omega); intro v2 w2 ho2 hold ha2)
  go_ret
  exact ⟨v2, rfl, ho2, hb1.trans (Ho1.out.below ha2 hb1.size)⟩

set_option maxHeartbeats 1000000 in
theorem refcopy {w : World} {v : Value} {m : List UInt8} (hr : RB w v m) (hlen : m.length ≤ 140737488355328) :
    Calls Tryd.prog 18 #[v] w (NewB w m) := by
  have Hr := Lib.hid hr
  clear hr
  go_enter Tryd.func18, Tryd.ntmps18
  go_wp2_with (at_builtin; go_loud (refine wpList_appr rfl (.tmp 4) (.tmp 5) rfl w.heap.size (.slice none 0 0) [] rfl (OB.nil _ _) _ m rfl Hr.out ?_ (Nat.le_refl _) ?_); (simp only [List.length_nil]; omega); intro v2 w2 ho2 hold ha2)
  go_ret
  exact ⟨v2, rfl, ho2, (OB.nil w w.heap.size).below ha2 (Nat.le_refl _)⟩

/-- what Read tells -/
def ReadOut (w : World) (l : List UInt8) (o : Option (Nat × List UInt8)) (e : Ending) (w' : World) : Prop :=
  w = w' ∧
  match o with
  | some (n, r) => e = .returned (.tuple #[.int .i64 n, .int .i64 ((l.length : Int) - r.length)])
  | none => e = .returned (.tuple #[.int .i64 0, .int .i64 (-1)])
theorem ReadOut.no {w w' : World} {l : List UInt8} {o : Option (Nat × List UInt8)} (ho : o = none) (hw : w = w') : ReadOut w l o (.returned (.tuple #[.int .i64 0, .int .i64 (-1)])) w' := by
  subst ho; exact ⟨hw, rfl⟩
theorem ReadOut.yes {w w' : World} {l : List UInt8} {o : Option (Nat × List UInt8)} {n : Nat} {r : List UInt8} {y z : Int} (ho : o = some (n, r)) (hw : w = w') (hy : y = n) (hz : z = (l.length : Int) - r.length) : ReadOut w l o (.returned (.tuple #[.int .i64 y, .int .i64 z])) w' := by
  subst ho hy hz; exact ⟨hw, rfl⟩
theorem drop_cons2 (l : List UInt8) (j : Nat) (h : j < l.length) : l.drop j = l[j] :: l.drop (j + 1) := List.drop_eq_getElem_cons h

set_option maxRecDepth 100000 in
set_option maxHeartbeats 4000000 in
theorem refread {w : World} {ao : Option Addr} {c : Nat} {l : List UInt8} (hr : RB w (.slice ao l.length c) l) (hlen : l.length ≤ 140737488355328) (at0 : Nat) (hat : at0 ≤ l.length) :
    Calls Tryd.prog 42 #[.slice ao l.length c, .int .i64 at0] w (ReadOut w l (rdNum 9 true (l.drop at0))) := by
  have Hr := Lib.hid hr
  have hcap := hr.capl
  clear hr
  go_enter Tryd.func42, Tryd.ntmps42
  go_wp2
  go_loop [6, 7, 8] (fun n y k => ∃ (j N : Nat), j ≤ 9 ∧ at0 + j ≤ l.length ∧ k = .int .i64 j ∧ n = .int .i64 N ∧ y = .int .i64 ((128 ^ (min j 8) : Nat) : Int) ∧ N < 128 ^ j ∧ rdNum 9 true (l.drop at0) = upon N (128 ^ j) (rdNum (9 - j) (decide (j = 0)) (l.drop (at0 + j)))) (fun _ _ k => 9 - (intOf k).toNat)
  case atStart => exact ⟨0, 0, by omega, hat, rfl, rfl, rfl, by decide, (upon_start _).symm⟩
  case round =>
    obtain ⟨j, N, hj, hle, rfl, rfl, rfl, hN, heq⟩ := hrel
    have Heq := Lib.hid heq
    clear heq
    have hj' : j = 9 ∨ j = 0 ∨ j = 1 ∨ j = 2 ∨ j = 3 ∨ j = 4 ∨ j = 5 ∨ j = 6 ∨ j = 7 ∨ j = 8 := by omega
    rcases hj' with rfl | rfl | rfl | rfl | rfl | rfl | rfl | rfl | rfl | rfl
    · go_wp2
      go_ret2
      exact ReadOut.no (by rw [Heq.out]; rfl) rfl
    · by_cases hlt : at0 + 0 < l.length
      · have heq : rdNum 9 true (l.drop at0) = upon N 1 (rdNum (8 + 1) true (l[at0 + 0] :: l.drop (at0 + 1))) := by rw [Heq.out, drop_cons2 l _ hlt]; rfl
        have hN : N < 1 := hN
        obtain ⟨b, off, rfl⟩ := Hr.out.addr (by omega)
        have hcell : w.cell? ⟨b, off + (at0), none⟩ = some (.int .u8 ((l[at0 + 0]).toNat : Int)) := by
          obtain ⟨ao, c2, hv, _, hc⟩ := Hr.out
          obtain ⟨b2, off2, hb2, hcell⟩ := hc (by omega)
          simp only [Value.slice.injEq] at hv
          rw [hb2] at hv
          obtain ⟨h1, _⟩ := hv
          cases h1
          exact hcell (at0 + 0) hlt
        clear Heq
        generalize l[at0 + 0] = x at heq hcell
        have Heq := Lib.hid heq
        clear heq
        have hct := x.toNat_lt
        by_cases h1 : x.toNat < 128
        · by_cases h0 : x.toNat = 0
          · have hc0 : x = 0 := UInt8.toNat_inj.1 h0
            subst hc0
            have H0 : Hid (rdNum 9 true (l.drop at0) = some (N, l.drop (at0 + 1))) := Lib.hid (by rw [Heq.out]; simp [rdNum, upon])
            replace hcell : w.cell? ⟨b, off + (at0), none⟩ = some (.int .u8 0) := hcell
            clear h0 h1
            go_wp2
            go_ret2
            exact ReadOut.yes H0.out rfl rfl (by rw [List.length_drop]; omega)
          · have H0 : Hid (rdNum 9 true (l.drop at0) = some (N + 1 * x.toNat, l.drop (at0 + 1))) := Lib.hid (by rw [Heq.out, rdNum_last h1 (.inl h0)]; rfl)
            have hne : ((x.toNat : Int) == 0) = false := by rw [beq_eq_false_iff_ne]; omega
            clear h0
            go_wp2
            go_ret2
            exact ReadOut.yes H0.out rfl (by omega) (by rw [List.length_drop]; omega)
        · have H0 : Hid (rdNum 9 true (l.drop at0) = upon (N + 1 * (x.toNat % 128)) 128 (rdNum 8 false (l.drop (at0 + 1)))) := Lib.hid (by rw [Heq.out, rdNum_more (by omega), upon_next])
          have hne : ((x.toNat : Int) == 0) = false := by rw [beq_eq_false_iff_ne]; omega
          go_wp2
          go_round
          case rel => exact ⟨1, N + 1 * (x.toNat % 128), by omega, by omega, rfl, by go_num, rfl, by omega, H0.out⟩
          case measure => simp [intOf]
      · have H0 : Hid (rdNum 9 true (l.drop at0) = none) := Lib.hid (by rw [Heq.out, List.drop_of_length_le (by omega), rdNum_nil]; rfl)
        go_wp2
        go_ret2
        exact ReadOut.no H0.out rfl
    · by_cases hlt : at0 + 1 < l.length
      · have heq : rdNum 9 true (l.drop at0) = upon N 128 (rdNum (7 + 1) false (l[at0 + 1] :: l.drop (at0 + 2))) := by rw [Heq.out, drop_cons2 l _ hlt]; rfl
        have hN : N < 128 := hN
        obtain ⟨b, off, rfl⟩ := Hr.out.addr (by omega)
        have hcell : w.cell? ⟨b, off + (at0 + 1), none⟩ = some (.int .u8 ((l[at0 + 1]).toNat : Int)) := by
          obtain ⟨ao, c2, hv, _, hc⟩ := Hr.out
          obtain ⟨b2, off2, hb2, hcell⟩ := hc (by omega)
          simp only [Value.slice.injEq] at hv
          rw [hb2] at hv
          obtain ⟨h1, _⟩ := hv
          cases h1
          exact hcell (at0 + 1) hlt
        clear Heq
        generalize l[at0 + 1] = x at heq hcell
        have Heq := Lib.hid heq
        clear heq
        have hct := x.toNat_lt
        by_cases h1 : x.toNat < 128
        · by_cases h0 : x.toNat = 0
          · have hc0 : x = 0 := UInt8.toNat_inj.1 h0
            subst hc0
            have H0 : Hid (rdNum 9 true (l.drop at0) = none) := Lib.hid (by rw [Heq.out]; simp [rdNum, upon])
            replace hcell : w.cell? ⟨b, off + (at0 + 1), none⟩ = some (.int .u8 0) := hcell
            clear h0 h1
            go_wp2
            go_ret2
            exact ReadOut.no H0.out rfl
          · have H0 : Hid (rdNum 9 true (l.drop at0) = some (N + 128 * x.toNat, l.drop (at0 + 2))) := Lib.hid (by rw [Heq.out, rdNum_last h1 (.inl h0)]; rfl)
            have hne : ((x.toNat : Int) == 0) = false := by rw [beq_eq_false_iff_ne]; omega
            clear h0
            go_wp2
            go_ret2
            exact ReadOut.yes H0.out rfl (by omega) (by rw [List.length_drop]; omega)
        · have H0 : Hid (rdNum 9 true (l.drop at0) = upon (N + 128 * (x.toNat % 128)) 16384 (rdNum 7 false (l.drop (at0 + 2)))) := Lib.hid (by rw [Heq.out, rdNum_more (by omega), upon_next])
          have hne : ((x.toNat : Int) == 0) = false := by rw [beq_eq_false_iff_ne]; omega
          go_wp2
          go_round
          case rel => exact ⟨2, N + 128 * (x.toNat % 128), by omega, by omega, rfl, by go_num, rfl, by omega, H0.out⟩
          case measure => simp [intOf]
      · have H0 : Hid (rdNum 9 true (l.drop at0) = none) := Lib.hid (by rw [Heq.out, List.drop_of_length_le (by omega), rdNum_nil]; rfl)
        go_wp2
        go_ret2
        exact ReadOut.no H0.out rfl
    · by_cases hlt : at0 + 2 < l.length
      · have heq : rdNum 9 true (l.drop at0) = upon N 16384 (rdNum (6 + 1) false (l[at0 + 2] :: l.drop (at0 + 3))) := by rw [Heq.out, drop_cons2 l _ hlt]; rfl
        have hN : N < 16384 := hN
        obtain ⟨b, off, rfl⟩ := Hr.out.addr (by omega)
        have hcell : w.cell? ⟨b, off + (at0 + 2), none⟩ = some (.int .u8 ((l[at0 + 2]).toNat : Int)) := by
          obtain ⟨ao, c2, hv, _, hc⟩ := Hr.out
          obtain ⟨b2, off2, hb2, hcell⟩ := hc (by omega)
          simp only [Value.slice.injEq] at hv
          rw [hb2] at hv
          obtain ⟨h1, _⟩ := hv
          cases h1
          exact hcell (at0 + 2) hlt
        clear Heq
        generalize l[at0 + 2] = x at heq hcell
        have Heq := Lib.hid heq
        clear heq
        have hct := x.toNat_lt
        by_cases h1 : x.toNat < 128
        · by_cases h0 : x.toNat = 0
          · have hc0 : x = 0 := UInt8.toNat_inj.1 h0
            subst hc0
            have H0 : Hid (rdNum 9 true (l.drop at0) = none) := Lib.hid (by rw [Heq.out]; simp [rdNum, upon])
            replace hcell : w.cell? ⟨b, off + (at0 + 2), none⟩ = some (.int .u8 0) := hcell
            clear h0 h1
            go_wp2
            go_ret2
            exact ReadOut.no H0.out rfl
          · have H0 : Hid (rdNum 9 true (l.drop at0) = some (N + 16384 * x.toNat, l.drop (at0 + 3))) := Lib.hid (by rw [Heq.out, rdNum_last h1 (.inl h0)]; rfl)
            have hne : ((x.toNat : Int) == 0) = false := by rw [beq_eq_false_iff_ne]; omega
            clear h0
            go_wp2
            go_ret2
            exact ReadOut.yes H0.out rfl (by omega) (by rw [List.length_drop]; omega)
        · have H0 : Hid (rdNum 9 true (l.drop at0) = upon (N + 16384 * (x.toNat % 128)) 2097152 (rdNum 6 false (l.drop (at0 + 3)))) := Lib.hid (by rw [Heq.out, rdNum_more (by omega), upon_next])
          have hne : ((x.toNat : Int) == 0) = false := by rw [beq_eq_false_iff_ne]; omega
          go_wp2
          go_round
          case rel => exact ⟨3, N + 16384 * (x.toNat % 128), by omega, by omega, rfl, by go_num, rfl, by omega, H0.out⟩
          case measure => simp [intOf]
      · have H0 : Hid (rdNum 9 true (l.drop at0) = none) := Lib.hid (by rw [Heq.out, List.drop_of_length_le (by omega), rdNum_nil]; rfl)
        go_wp2
        go_ret2
        exact ReadOut.no H0.out rfl
    · by_cases hlt : at0 + 3 < l.length
      · have heq : rdNum 9 true (l.drop at0) = upon N 2097152 (rdNum (5 + 1) false (l[at0 + 3] :: l.drop (at0 + 4))) := by rw [Heq.out, drop_cons2 l _ hlt]; rfl
        have hN : N < 2097152 := hN
        obtain ⟨b, off, rfl⟩ := Hr.out.addr (by omega)
        have hcell : w.cell? ⟨b, off + (at0 + 3), none⟩ = some (.int .u8 ((l[at0 + 3]).toNat : Int)) := by
          obtain ⟨ao, c2, hv, _, hc⟩ := Hr.out
          obtain ⟨b2, off2, hb2, hcell⟩ := hc (by omega)
          simp only [Value.slice.injEq] at hv
          rw [hb2] at hv
          obtain ⟨h1, _⟩ := hv
          cases h1
          exact hcell (at0 + 3) hlt
        clear Heq
        generalize l[at0 + 3] = x at heq hcell
        have Heq := Lib.hid heq
        clear heq
        have hct := x.toNat_lt
        by_cases h1 : x.toNat < 128
        · by_cases h0 : x.toNat = 0
          · have hc0 : x = 0 := UInt8.toNat_inj.1 h0
            subst hc0
            have H0 : Hid (rdNum 9 true (l.drop at0) = none) := Lib.hid (by rw [Heq.out]; simp [rdNum, upon])
            replace hcell : w.cell? ⟨b, off + (at0 + 3), none⟩ = some (.int .u8 0) := hcell
            clear h0 h1
            go_wp2
            go_ret2
            exact ReadOut.no H0.out rfl
          · have H0 : Hid (rdNum 9 true (l.drop at0) = some (N + 2097152 * x.toNat, l.drop (at0 + 4))) := Lib.hid (by rw [Heq.out, rdNum_last h1 (.inl h0)]; rfl)
            have hne : ((x.toNat : Int) == 0) = false := by rw [beq_eq_false_iff_ne]; omega
            clear h0
            go_wp2
            go_ret2
            exact ReadOut.yes H0.out rfl (by omega) (by rw [List.length_drop]; omega)
        · have H0 : Hid (rdNum 9 true (l.drop at0) = upon (N + 2097152 * (x.toNat % 128)) 268435456 (rdNum 5 false (l.drop (at0 + 4)))) := Lib.hid (by rw [Heq.out, rdNum_more (by omega), upon_next])
          have hne : ((x.toNat : Int) == 0) = false := by rw [beq_eq_false_iff_ne]; omega
          go_wp2
          go_round
          case rel => exact ⟨4, N + 2097152 * (x.toNat % 128), by omega, by omega, rfl, by go_num, rfl, by omega, H0.out⟩
          case measure => simp [intOf]
      · have H0 : Hid (rdNum 9 true (l.drop at0) = none) := Lib.hid (by rw [Heq.out, List.drop_of_length_le (by omega), rdNum_nil]; rfl)
        go_wp2
        go_ret2
        exact ReadOut.no H0.out rfl
    · by_cases hlt : at0 + 4 < l.length
      · have heq : rdNum 9 true (l.drop at0) = upon N 268435456 (rdNum (4 + 1) false (l[at0 + 4] :: l.drop (at0 + 5))) := by rw [Heq.out, drop_cons2 l _ hlt]; rfl
        have hN : N < 268435456 := hN
        obtain ⟨b, off, rfl⟩ := Hr.out.addr (by omega)
        have hcell : w.cell? ⟨b, off + (at0 + 4), none⟩ = some (.int .u8 ((l[at0 + 4]).toNat : Int)) := by
          obtain ⟨ao, c2, hv, _, hc⟩ := Hr.out
          obtain ⟨b2, off2, hb2, hcell⟩ := hc (by omega)
          simp only [Value.slice.injEq] at hv
          rw [hb2] at hv
          obtain ⟨h1, _⟩ := hv
          cases h1
          exact hcell (at0 + 4) hlt
        clear Heq
        generalize l[at0 + 4] = x at heq hcell
        have Heq := Lib.hid heq
        clear heq
        have hct := x.toNat_lt
        by_cases h1 : x.toNat < 128
        · by_cases h0 : x.toNat = 0
          · have hc0 : x = 0 := UInt8.toNat_inj.1 h0
            subst hc0
            have H0 : Hid (rdNum 9 true (l.drop at0) = none) := Lib.hid (by rw [Heq.out]; simp [rdNum, upon])
            replace hcell : w.cell? ⟨b, off + (at0 + 4), none⟩ = some (.int .u8 0) := hcell
            clear h0 h1
            go_wp2
            go_ret2
            exact ReadOut.no H0.out rfl
          · have H0 : Hid (rdNum 9 true (l.drop at0) = some (N + 268435456 * x.toNat, l.drop (at0 + 5))) := Lib.hid (by rw [Heq.out, rdNum_last h1 (.inl h0)]; rfl)
            have hne : ((x.toNat : Int) == 0) = false := by rw [beq_eq_false_iff_ne]; omega
            clear h0
            go_wp2
            go_ret2
            exact ReadOut.yes H0.out rfl (by omega) (by rw [List.length_drop]; omega)
        · have H0 : Hid (rdNum 9 true (l.drop at0) = upon (N + 268435456 * (x.toNat % 128)) 34359738368 (rdNum 4 false (l.drop (at0 + 5)))) := Lib.hid (by rw [Heq.out, rdNum_more (by omega), upon_next])
          have hne : ((x.toNat : Int) == 0) = false := by rw [beq_eq_false_iff_ne]; omega
          go_wp2
          go_round
          case rel => exact ⟨5, N + 268435456 * (x.toNat % 128), by omega, by omega, rfl, by go_num, rfl, by omega, H0.out⟩
          case measure => simp [intOf]
      · have H0 : Hid (rdNum 9 true (l.drop at0) = none) := Lib.hid (by rw [Heq.out, List.drop_of_length_le (by omega), rdNum_nil]; rfl)
        go_wp2
        go_ret2
        exact ReadOut.no H0.out rfl
    · by_cases hlt : at0 + 5 < l.length
      · have heq : rdNum 9 true (l.drop at0) = upon N 34359738368 (rdNum (3 + 1) false (l[at0 + 5] :: l.drop (at0 + 6))) := by rw [Heq.out, drop_cons2 l _ hlt]; rfl
        have hN : N < 34359738368 := hN
        obtain ⟨b, off, rfl⟩ := Hr.out.addr (by omega)
        have hcell : w.cell? ⟨b, off + (at0 + 5), none⟩ = some (.int .u8 ((l[at0 + 5]).toNat : Int)) := by
          obtain ⟨ao, c2, hv, _, hc⟩ := Hr.out
          obtain ⟨b2, off2, hb2, hcell⟩ := hc (by omega)
          simp only [Value.slice.injEq] at hv
          rw [hb2] at hv
          obtain ⟨h1, _⟩ := hv
          cases h1
          exact hcell (at0 + 5) hlt
        clear Heq
        generalize l[at0 + 5] = x at heq hcell
        have Heq := Lib.hid heq
        clear heq
        have hct := x.toNat_lt
        by_cases h1 : x.toNat < 128
        · by_cases h0 : x.toNat = 0
          · have hc0 : x = 0 := UInt8.toNat_inj.1 h0
            subst hc0
            have H0 : Hid (rdNum 9 true (l.drop at0) = none) := Lib.hid (by rw [Heq.out]; simp [rdNum, upon])
            replace hcell : w.cell? ⟨b, off + (at0 + 5), none⟩ = some (.int .u8 0) := hcell
            clear h0 h1
            go_wp2
            go_ret2
            exact ReadOut.no H0.out rfl
          · have H0 : Hid (rdNum 9 true (l.drop at0) = some (N + 34359738368 * x.toNat, l.drop (at0 + 6))) := Lib.hid (by rw [Heq.out, rdNum_last h1 (.inl h0)]; rfl)
            have hne : ((x.toNat : Int) == 0) = false := by rw [beq_eq_false_iff_ne]; omega
            clear h0
            go_wp2
            go_ret2
            exact ReadOut.yes H0.out rfl (by omega) (by rw [List.length_drop]; omega)
        · have H0 : Hid (rdNum 9 true (l.drop at0) = upon (N + 34359738368 * (x.toNat % 128)) 4398046511104 (rdNum 3 false (l.drop (at0 + 6)))) := Lib.hid (by rw [Heq.out, rdNum_more (by omega), upon_next])
          have hne : ((x.toNat : Int) == 0) = false := by rw [beq_eq_false_iff_ne]; omega
          go_wp2
          go_round
          case rel => exact ⟨6, N + 34359738368 * (x.toNat % 128), by omega, by omega, rfl, by go_num, rfl, by omega, H0.out⟩
          case measure => simp [intOf]
      · have H0 : Hid (rdNum 9 true (l.drop at0) = none) := Lib.hid (by rw [Heq.out, List.drop_of_length_le (by omega), rdNum_nil]; rfl)
        go_wp2
        go_ret2
        exact ReadOut.no H0.out rfl
    · by_cases hlt : at0 + 6 < l.length
      · have heq : rdNum 9 true (l.drop at0) = upon N 4398046511104 (rdNum (2 + 1) false (l[at0 + 6] :: l.drop (at0 + 7))) := by rw [Heq.out, drop_cons2 l _ hlt]; rfl
        have hN : N < 4398046511104 := hN
        obtain ⟨b, off, rfl⟩ := Hr.out.addr (by omega)
        have hcell : w.cell? ⟨b, off + (at0 + 6), none⟩ = some (.int .u8 ((l[at0 + 6]).toNat : Int)) := by
          obtain ⟨ao, c2, hv, _, hc⟩ := Hr.out
          obtain ⟨b2, off2, hb2, hcell⟩ := hc (by omega)
          simp only [Value.slice.injEq] at hv
          rw [hb2] at hv
          obtain ⟨h1, _⟩ := hv
          cases h1
          exact hcell (at0 + 6) hlt
        clear Heq
        generalize l[at0 + 6] = x at heq hcell
        have Heq := Lib.hid heq
        clear heq
        have hct := x.toNat_lt
        by_cases h1 : x.toNat < 128
        · by_cases h0 : x.toNat = 0
          · have hc0 : x = 0 := UInt8.toNat_inj.1 h0
            subst hc0
            have H0 : Hid (rdNum 9 true (l.drop at0) = none) := Lib.hid (by rw [Heq.out]; simp [rdNum, upon])
            replace hcell : w.cell? ⟨b, off + (at0 + 6), none⟩ = some (.int .u8 0) := hcell
            clear h0 h1
            go_wp2
            go_ret2
            exact ReadOut.no H0.out rfl
          · have H0 : Hid (rdNum 9 true (l.drop at0) = some (N + 4398046511104 * x.toNat, l.drop (at0 + 7))) := Lib.hid (by rw [Heq.out, rdNum_last h1 (.inl h0)]; rfl)
            have hne : ((x.toNat : Int) == 0) = false := by rw [beq_eq_false_iff_ne]; omega
            clear h0
            go_wp2
            go_ret2
            exact ReadOut.yes H0.out rfl (by omega) (by rw [List.length_drop]; omega)
        · have H0 : Hid (rdNum 9 true (l.drop at0) = upon (N + 4398046511104 * (x.toNat % 128)) 562949953421312 (rdNum 2 false (l.drop (at0 + 7)))) := Lib.hid (by rw [Heq.out, rdNum_more (by omega), upon_next])
          have hne : ((x.toNat : Int) == 0) = false := by rw [beq_eq_false_iff_ne]; omega
          go_wp2
          go_round
          case rel => exact ⟨7, N + 4398046511104 * (x.toNat % 128), by omega, by omega, rfl, by go_num, rfl, by omega, H0.out⟩
          case measure => simp [intOf]
      · have H0 : Hid (rdNum 9 true (l.drop at0) = none) := Lib.hid (by rw [Heq.out, List.drop_of_length_le (by omega), rdNum_nil]; rfl)
        go_wp2
        go_ret2
        exact ReadOut.no H0.out rfl
    · by_cases hlt : at0 + 7 < l.length
      · have heq : rdNum 9 true (l.drop at0) = upon N 562949953421312 (rdNum (1 + 1) false (l[at0 + 7] :: l.drop (at0 + 8))) := by rw [Heq.out, drop_cons2 l _ hlt]; rfl
        have hN : N < 562949953421312 := hN
        obtain ⟨b, off, rfl⟩ := Hr.out.addr (by omega)
        have hcell : w.cell? ⟨b, off + (at0 + 7), none⟩ = some (.int .u8 ((l[at0 + 7]).toNat : Int)) := by
          obtain ⟨ao, c2, hv, _, hc⟩ := Hr.out
          obtain ⟨b2, off2, hb2, hcell⟩ := hc (by omega)
          simp only [Value.slice.injEq] at hv
          rw [hb2] at hv
          obtain ⟨h1, _⟩ := hv
          cases h1
          exact hcell (at0 + 7) hlt
        clear Heq
        generalize l[at0 + 7] = x at heq hcell
        have Heq := Lib.hid heq
        clear heq
        have hct := x.toNat_lt
        by_cases h1 : x.toNat < 128
        · by_cases h0 : x.toNat = 0
          · have hc0 : x = 0 := UInt8.toNat_inj.1 h0
            subst hc0
            have H0 : Hid (rdNum 9 true (l.drop at0) = none) := Lib.hid (by rw [Heq.out]; simp [rdNum, upon])
            replace hcell : w.cell? ⟨b, off + (at0 + 7), none⟩ = some (.int .u8 0) := hcell
            clear h0 h1
            go_wp2
            go_ret2
            exact ReadOut.no H0.out rfl
          · have H0 : Hid (rdNum 9 true (l.drop at0) = some (N + 562949953421312 * x.toNat, l.drop (at0 + 8))) := Lib.hid (by rw [Heq.out, rdNum_last h1 (.inl h0)]; rfl)
            have hne : ((x.toNat : Int) == 0) = false := by rw [beq_eq_false_iff_ne]; omega
            clear h0
            go_wp2
            go_ret2
            exact ReadOut.yes H0.out rfl (by omega) (by rw [List.length_drop]; omega)
        · have H0 : Hid (rdNum 9 true (l.drop at0) = upon (N + 562949953421312 * (x.toNat % 128)) 72057594037927936 (rdNum 1 false (l.drop (at0 + 8)))) := Lib.hid (by rw [Heq.out, rdNum_more (by omega), upon_next])
          have hne : ((x.toNat : Int) == 0) = false := by rw [beq_eq_false_iff_ne]; omega
          go_wp2
          go_round
          case rel => exact ⟨8, N + 562949953421312 * (x.toNat % 128), by omega, by omega, rfl, by go_num, rfl, by omega, H0.out⟩
          case measure => simp [intOf]
      · have H0 : Hid (rdNum 9 true (l.drop at0) = none) := Lib.hid (by rw [Heq.out, List.drop_of_length_le (by omega), rdNum_nil]; rfl)
        go_wp2
        go_ret2
        exact ReadOut.no H0.out rfl
    · by_cases hlt : at0 + 8 < l.length
      · have heq : rdNum 9 true (l.drop at0) = upon N 72057594037927936 (rdNum (0 + 1) false (l[at0 + 8] :: l.drop (at0 + 9))) := by rw [Heq.out, drop_cons2 l _ hlt]; rfl
        have hN : N < 72057594037927936 := hN
        obtain ⟨b, off, rfl⟩ := Hr.out.addr (by omega)
        have hcell : w.cell? ⟨b, off + (at0 + 8), none⟩ = some (.int .u8 ((l[at0 + 8]).toNat : Int)) := by
          obtain ⟨ao, c2, hv, _, hc⟩ := Hr.out
          obtain ⟨b2, off2, hb2, hcell⟩ := hc (by omega)
          simp only [Value.slice.injEq] at hv
          rw [hb2] at hv
          obtain ⟨h1, _⟩ := hv
          cases h1
          exact hcell (at0 + 8) hlt
        clear Heq
        generalize l[at0 + 8] = x at heq hcell
        have Heq := Lib.hid heq
        clear heq
        have hct := x.toNat_lt
        by_cases h1 : x.toNat < 128
        · by_cases h0 : x.toNat = 0
          · have hc0 : x = 0 := UInt8.toNat_inj.1 h0
            subst hc0
            have H0 : Hid (rdNum 9 true (l.drop at0) = none) := Lib.hid (by rw [Heq.out]; simp [rdNum, upon])
            replace hcell : w.cell? ⟨b, off + (at0 + 8), none⟩ = some (.int .u8 0) := hcell
            clear h0 h1
            go_wp2
            go_ret2
            exact ReadOut.no H0.out rfl
          · have H0 : Hid (rdNum 9 true (l.drop at0) = some (N + 72057594037927936 * x.toNat, l.drop (at0 + 9))) := Lib.hid (by rw [Heq.out, rdNum_last h1 (.inl h0)]; rfl)
            have hne : ((x.toNat : Int) == 0) = false := by rw [beq_eq_false_iff_ne]; omega
            clear h0
            go_wp2
            go_ret2
            exact ReadOut.yes H0.out rfl (by omega) (by rw [List.length_drop]; omega)
        · have H0 : Hid (rdNum 9 true (l.drop at0) = upon (N + 72057594037927936 * (x.toNat % 128)) 9223372036854775808 (rdNum 0 false (l.drop (at0 + 9)))) := Lib.hid (by rw [Heq.out, rdNum_more (by omega), upon_next])
          have hne : ((x.toNat : Int) == 0) = false := by rw [beq_eq_false_iff_ne]; omega
          go_wp2
          go_round
          case rel => exact ⟨9, N + 72057594037927936 * (x.toNat % 128), by omega, by omega, rfl, by go_num, rfl, by omega, H0.out⟩
          case measure => simp [intOf]
      · have H0 : Hid (rdNum 9 true (l.drop at0) = none) := Lib.hid (by rw [Heq.out, List.drop_of_length_le (by omega), rdNum_nil]; rfl)
        go_wp2
        go_ret2
        exact ReadOut.no H0.out rfl
end Go.Proofs.YtkflingpogokcaaDoor
