/- Texts joined: Wr, WrMore. -/
import Derived.Test.YtmhklmecpbdljaaDoorYNum
import Derived.Test.YtmhklmecpbdljaaDoorYRd
/- Contracts of wire.Writer. -/

namespace Go.Proofs.YtmhklmecpbdljaaDoor
open Go.RowKit
set_option linter.unusedVariables false

/-- at block p lies a Writer: v owns the bytes that were laid; is it bad? -/
def WR (w : World) (p B : Nat) (v : Value) (l : List UInt8) (bad : Bool) : Prop :=
  w.heap[p]? = some (.cells #[v, .bool bad] 101 (0, 0)) ∧ OB w B v l ∧ v.ownBlock ≠ some p
/-- what a Writer may turn -/
def fpW (p : Nat) (v : Value) : Nat → Prop := fun k => k = p ∨ v.ownBlock = some k

theorem WR.chg {F : Nat → Prop} {w w' : World} {p B : Nat} {v : Value} {l : List UInt8} {bad : Bool} (h : WR w p B v l bad) (hc : Chg F w w') (hd : ∀ k, fpW p v k → ¬ F k) : WR w' p B v l bad :=
  ⟨blk_chg h.1 hc (hd p (.inl rfl)), h.2.1.chg hc fun k hk => hd k (.inr hk), h.2.2⟩
theorem WR.below {w w' : World} {p B : Nat} {v : Value} {l : List UInt8} {bad : Bool} (h : WR w p B v l bad) (hb : Below w.heap.size w w') : WR w' p B v l bad :=
  h.chg (F := fun _ => False) (Chg.of_below hb) fun _ _ h => h
theorem WR.lt {w : World} {p B : Nat} {v : Value} {l : List UInt8} {bad : Bool} (h : WR w p B v l bad) : ∀ k, fpW p v k → k < w.heap.size := by
  rintro k (rfl | hk)
  · exact blk_lt h.1
  · exact (h.2.1.lt hk).2
theorem WR.ge {w : World} {p B : Nat} {v : Value} {l : List UInt8} {bad : Bool} (h : WR w p B v l bad) (hp : B ≤ p) : ∀ k, fpW p v k → B ≤ k := by
  rintro k (rfl | hk)
  · exact hp
  · exact (h.2.1.lt hk).1

/-- a method of a Writer was called -/
def WOut (w : World) (p B : Nat) (v : Value) (l : List UInt8) (bad : Bool) (e : Ending) (w' : World) : Prop :=
  e = .returned (.pointer (some ⟨p, 0, none⟩)) ∧ ∃ v', WR w' p B v' l bad ∧ Chg (fpW p v) w w' ∧ Lies w v v'

theorem fpW_lies {w : World} {p : Nat} {v v' : Value} (h : Lies w v v') : ∀ k, k < w.heap.size → fpW p v' k → fpW p v k := by
  rintro k hk (rfl | h1)
  · exact .inl rfl
  · rcases h with e | ⟨g, e, hg⟩
    · exact .inr (by rw [← e]; exact h1)
    · rw [e] at h1; cases h1; omega

/-- an append, and the store of what it made into the Writer's field -/
theorem WR.app {w w1 : World} {p B : Nat} {v v1 : Value} {l l' : List UInt8} {bad : Bool} (h : WR w p B v l bad) (ho : OB w1 B v1 l') (ha : App w w1 v v1) :
    WR (w1.setCell ⟨p, 0, none⟩ v1) p B v1 l' bad ∧ Chg (fpW p v) w (w1.setCell ⟨p, 0, none⟩ v1) ∧ Lies w v v1 := by
  have hp := blk_lt h.1
  have hl : Lies w v v1 := ha.lies
  have hne := hl.off hp h.2.2
  have h1 : w1.heap[p]? = some (.cells #[v, .bool bad] 101 (0, 0)) := blk_chg h.1 (Chg.of_app ha) h.2.2
  refine ⟨⟨heap_set0 h1, ho.chg (Chg.set w1 p 0 v1) (fun k hk e => hne (by rw [hk, e])), hne⟩, ?_, hl⟩
  exact ((Chg.of_app ha).mono fun k hk => .inr hk).trans ((Chg.set w1 p 0 v1).mono fun k hk => .inl hk)
theorem WR.k0 {w w1 : World} {p B : Nat} {v v1 : Value} {l : List UInt8} {bad : Bool} (h : WR w p B v l bad) (ha : App w w1 v v1) : w1.cell? ⟨p, 0, none⟩ = some v ∧ w1.frozen? ⟨p, 0, none⟩ = false := by
  have h1 : w1.heap[p]? = some (.cells #[v, .bool bad] 101 (0, 0)) := blk_chg h.1 (Chg.of_app ha) h.2.2
  exact ⟨(cell_two h1).1, (cell_two h1).2.2.1⟩

set_option maxHeartbeats 1000000 in
theorem wraw {w : World} {p B : Nat} {v : Value} {l : List UInt8} {bad : Bool} (h : WR w p B v l bad) {u : Value} {m : List UInt8} (hr : RB w u m) (hlen : l.length + m.length ≤ 140737488355328) (hB : B ≤ w.heap.size) :
    Calls Tryd.prog 76 #[.pointer (some ⟨p, 0, none⟩), u] w (WOut w p B v (l ++ m) bad) := by
  obtain ⟨k0, k1, f0, f1⟩ := cell_two h.1
  have H := Lib.hid h
  have Hr := Lib.hid hr
  clear h hr
  go_enter Tryd.func76, Tryd.ntmps76
  go_wp2_with (at_builtin; refine wpList_appr rfl (.tmp 9) (.tmp 10) rfl B v l rfl H.out.2.1 _ m rfl Hr.out ?_ hB ?_; (exact hlen); intro v1 w1 ho1 hold ha1; obtain ⟨a1, n1, c1, rfl, hm1⟩ := ho1.shape; obtain ⟨k0', f0'⟩ := H.out.k0 ha1; clear hold)
  go_ret
  exact ⟨rfl, _, H.out.app ho1 ha1⟩

theorem or128 (m : Nat) : bits .or .u8 ((m : Int) % 256) 128 = ((m % 128 + 128 : Nat) : Int) := by
  have h : ∀ x : Fin 256, bits .or .u8 ((x.val : Nat) : Int) 128 = ((x.val % 128 + 128 : Nat) : Int) := by decide +kernel
  have h2 := h ⟨m % 256, by omega⟩
  have e : ((m : Int) % 256) = ((m % 256 : Nat) : Int) := by omega
  rw [e, h2]
  show ((m % 256 % 128 + 128 : Nat) : Int) = _
  omega
theorem bvs_or128 (m : Nat) : (#[.int .u8 (bits .or .u8 ((m : Int) % 256) 128)] : Array Value) = (bvs [UInt8.ofNat (m % 128 + 128)]).toArray := by
  rw [or128]
  have e : (UInt8.ofNat (m % 128 + 128)).toNat = m % 128 + 128 := by rw [toNat_ofNat8]; omega
  simp only [bvs, bv, List.map_cons, List.map_nil, e]
theorem bvs_low (m : Nat) (h : m ≤ 255) : (#[.int .u8 (m : Int)] : Array Value) = (bvs [UInt8.ofNat m]).toArray := by
  have e : (UInt8.ofNat m).toNat = m := by rw [toNat_ofNat8]; omega
  simp only [bvs, bv, List.map_cons, List.map_nil, e]

set_option maxRecDepth 100000 in
set_option maxHeartbeats 2000000 in
theorem wnumber {w : World} {p B : Nat} {v : Value} {l : List UInt8} {bad : Bool} (h : WR w p B v l bad) (n : Nat) (hn : n < 9223372036854775808) (hlen : l.length + 9 ≤ 140737488355328) (hB : B ≤ w.heap.size) :
    Calls Tryd.prog 50 #[.pointer (some ⟨p, 0, none⟩), .int .i64 n] w (WOut w p B v (l ++ num n) bad) := by
  have h9 := num_len9 hn
  have H := Lib.hid h
  clear h
  go_enter Tryd.func50, Tryd.ntmps50
  go_wp2
  go_loopw [1] (fun i wr => ∃ (m : Nat) (v' : Value) (l' : List UInt8), m ≤ n ∧ i = .int .i64 m ∧ WR wr p B v' l' bad ∧ l' ++ num m = l ++ num n ∧ Chg (fpW p v) w wr ∧ Lies w v v') (fun i _ => (intOf i).toNat)
  case atStart => exact ⟨n, v, l, Nat.le_refl _, rfl, H.out, rfl, Chg.refl _ _, Lies.refl _ _⟩
  case round =>
    obtain ⟨m, v', l', hm, rfl, hw, heq, hch, hli⟩ := hrel
    have hz := Nat.le_trans hB hch.size
    have hll : l'.length + (num m).length ≤ l.length + 9 := by
      have := congrArg List.length heq
      simp only [List.length_append] at this
      omega
    have hp1 := num_pos m
    obtain ⟨k0, k1, f0, f1⟩ := cell_two hw.1
    have Hw := Lib.hid hw
    have Heq := Lib.hid heq
    have Hch := Lib.hid hch
    have Hli := Lib.hid hli
    clear hw heq hch hli
    by_cases h1 : 127 < m
    · go_wp2_with (at_builtin; go_loud (refine wpList_appb rfl (.tmp 17) (.tmp 21) rfl B v' l' rfl Hw.out.2.1 _ 1 1 [UInt8.ofNat (m % 128 + 128)] rfl ?_ rfl (by decide) ?_ hz ?_); (exact bvs_or128 m); (simp only [List.length_cons, List.length_nil]; omega); intro v1 w1 ho1 ha1; obtain ⟨a1, n1, c1, rfl, hm1⟩ := ho1.shape; obtain ⟨k0', f0'⟩ := Hw.out.k0 ha1)
      go_roundw
      case rel => exact ⟨m / 128, _, l' ++ [UInt8.ofNat (m % 128 + 128)], by omega, by go_num, (Hw.out.app ho1 ha1).1, by rw [← Heq.out, num_big h1]; simp, Hch.out.trans2 (Hw.out.app ho1 ha1).2.1 (fpW_lies Hli.out), Hli.out.trans (Hw.out.app ho1 ha1).2.2 Hch.out.size⟩
      case measure => simp [intOf]; omega
    · go_wp2_with (at_builtin; go_loud (refine wpList_appb rfl (.tmp 31) (.tmp 34) rfl B v' l' rfl Hw.out.2.1 _ 1 1 [UInt8.ofNat m] rfl ?_ rfl (by decide) ?_ hz ?_); (exact bvs_low m (by omega)); (simp only [List.length_cons, List.length_nil]; omega); intro v1 w1 ho1 ha1; obtain ⟨a1, n1, c1, rfl, hm1⟩ := ho1.shape; obtain ⟨k0', f0'⟩ := Hw.out.k0 ha1)
      go_ret
      have h2 := Hw.out.app ho1 ha1
      refine ⟨rfl, _, ?_, Hch.out.trans2 h2.2.1 (fpW_lies Hli.out), Hli.out.trans h2.2.2 Hch.out.size⟩
      rw [← Heq.out, num_small (by omega)]
      exact h2.1
end Go.Proofs.YtmhklmecpbdljaaDoor
/- Contracts of wire.Writer: Text, Bytes, and Number of one below 0. -/

namespace Go.Proofs.YtmhklmecpbdljaaDoor
open Go.RowKit
set_option linter.unusedVariables false

theorem WOut.trans {w w1 w2 : World} {p B : Nat} {v v1 : Value} {l1 l2 : List UInt8} {b1 b2 : Bool} {e : Ending} (hc : Chg (fpW p v) w w1) (hl : Lies w v v1) (h : WOut w1 p B v1 l2 b2 e w2) : WOut w p B v l2 b2 e w2 := by
  obtain ⟨rfl, v2, h1, h2, h3⟩ := h
  exact ⟨rfl, v2, h1, hc.trans2 h2 (fpW_lies hl), hl.trans h3 hc.size⟩

set_option maxHeartbeats 1000000 in
theorem wtext {w : World} {p B : Nat} {v : Value} {l : List UInt8} {bad : Bool} (h : WR w p B v l bad) {ao : Option Addr} {c : Nat} {m : List UInt8} (hr : RB w (.slice ao m.length c) m) (hd : 0 < m.length → ∀ k, (Value.slice ao m.length c).ownBlock = some k → ¬ fpW p v k)
    (hlen : l.length + 9 + m.length ≤ 140737488355328) (hB : B ≤ w.heap.size) :
    Calls Tryd.prog 60 #[.pointer (some ⟨p, 0, none⟩), .slice ao m.length c] w (WOut w p B v (l ++ num m.length ++ m) bad) := by
  have hn := wnumber h m.length (by omega) (by omega) hB
  have h9 := num_len9 (n := m.length) (by omega)
  have Hn := Lib.hid hn
  have Hr := Lib.hid hr
  have Hd := Lib.hid hd
  clear hn hr h hd
  go_enter Tryd.func60, Tryd.ntmps60
  go_wp2_with fail; (with_reducible refine (Hn.out).mono ?_); rintro e w1 ⟨rfl, v1, hw1, hc1, hl1⟩
  have hr1 := Hr.out.chg hc1 Hd.out
  have h2 := wraw hw1 hr1 (by simp only [List.length_append]; omega) (Nat.le_trans hB hc1.size)
  have H2 := Lib.hid h2
  have Hc1 := Lib.hid hc1
  have Hl1 := Lib.hid hl1
  clear h2 hr1 hw1 hc1 hl1
  go_wp2_with fail; (with_reducible refine (H2.out).mono ?_); rintro e w2 ⟨rfl, v2, hw2, hc2, hl2⟩
  go_wp2
  go_ret
  exact ⟨rfl, v2, hw2, Hc1.out.trans2 hc2 (fpW_lies Hl1.out), Hl1.out.trans hl2 Hc1.out.size⟩

set_option maxHeartbeats 1000000 in
theorem wnumber_neg {w : World} {p B : Nat} {v : Value} {l : List UInt8} {bad : Bool} (h : WR w p B v l bad) (n : Int) (hn : n < 0) :
    Calls Tryd.prog 50 #[.pointer (some ⟨p, 0, none⟩), .int .i64 n] w (WOut w p B v l true) := by
  obtain ⟨k0, k1, f0, f1⟩ := cell_two h.1
  have H := Lib.hid h
  clear h
  go_enter Tryd.func50, Tryd.ntmps50
  go_wp2
  go_ret
  refine ⟨rfl, v, ⟨heap_set1 H.out.1, H.out.2.1.chg (Chg.set w p 1 _) (fun k hk e => H.out.2.2 (by rw [hk, e])), H.out.2.2⟩, (Chg.set w p 1 _).mono fun k hk => .inl hk, Lies.refl _ _⟩

/-- all that was laid, in new memory -/
def BytesOut (w : World) (l : List UInt8) (e : Ending) (w' : World) : Prop :=
  ∃ v, e = .returned (.tuple #[v, .int .i64 0]) ∧ OB w' w.heap.size v l ∧ (∃ g, v = .slice (some ⟨g, 0, none⟩) l.length l.length) ∧ Below w.heap.size w w'

set_option maxHeartbeats 1000000 in
theorem wbytes {w : World} {p B : Nat} {v : Value} {l : List UInt8} (h : WR w p B v l false) (hlen : l.length ≤ 140737488355328) :
    Calls Tryd.prog 51 #[.pointer (some ⟨p, 0, none⟩)] w (BytesOut w l) := by
  obtain ⟨ao, n, c, rfl, _⟩ := h.2.1.shape
  obtain rfl := h.2.1.len
  have k := h.1
  obtain ⟨k0, k1, f0, f1⟩ := cell_two k
  have hp := blk_lt k
  have H := Lib.hid h
  clear h k
  go_enter Tryd.func51, Tryd.ntmps51
  go_wp2_with (first
    | (at_make; refine wpList_mkb rfl (.tmp 13) (.tmp 13) rfl w.heap.size l.length rfl rfl hlen (Nat.le_refl _) ?_; intro w1 ho1 hb1; have q0 : w1.cell? ⟨p, 0, none⟩ = some (.slice ao l.length c) := (hb1.cell (p := ⟨p, 0, none⟩) hp).trans k0; have Ho1 := Lib.hid ho1; have hr1 := Lib.hid (H.out.2.1.reads.below hb1); clear ho1)
    | (refine wpList_copyb rfl (.tmp 15) (.tmp 19) rfl w.heap.size w.heap.size l.length l.length (List.replicate l.length 0) rfl Ho1.out _ l rfl hr1.out ?_; intro w2 ho2 hc2))
  go_ret2
  rw [cpy_same _ _ (by simp)] at ho2
  exact ⟨_, rfl, ho2, ⟨_, rfl⟩, hb1.trans (hc2.below (fun k hk => by omega) hb1.size)⟩

set_option maxHeartbeats 1000000 in
theorem wbytes_bad {w : World} {p B : Nat} {v : Value} {l : List UInt8} (h : WR w p B v l true) :
    Calls Tryd.prog 51 #[.pointer (some ⟨p, 0, none⟩)] w fun e w' => e = .returned (.tuple #[.slice none 0 0, .int .i64 20]) ∧ w = w' := by
  obtain ⟨k0, k1, f0, f1⟩ := cell_two h.1
  clear h
  go_enter Tryd.func51, Tryd.ntmps51
  go_wp2
  go_ret2
  exact ⟨rfl, rfl⟩
theorem low_toNat (n : Int) : ((UInt8.ofNat (n % 256).toNat).toNat : Int) = n % 256 := by
  rw [toNat_ofNat8]; omega
theorem bvs_lowN (n : Int) : (#[.int .u8 (n % 256)] : Array Value) = (bvs [UInt8.ofNat (n % 256).toNat]).toArray := by
  simp only [bvs, bv, List.map_cons, List.map_nil, low_toNat]
end Go.Proofs.YtmhklmecpbdljaaDoor
