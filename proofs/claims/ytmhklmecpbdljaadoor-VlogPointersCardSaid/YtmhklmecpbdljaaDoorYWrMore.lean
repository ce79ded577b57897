/- Contracts of wire.Writer: Text, Bytes, and Number of one below 0. -/
import Derived.Test.YtmhklmecpbdljaaDoorYWr
namespace Go.Proofs.YtmhklmecpbdljaaDoor
open Go.RowKit
set_option linter.unusedVariables false

theorem WOut.trans {w w1 w2 : World} {p B : Nat} {v v1 : Value} {l1 l2 : List UInt8} {b1 b2 : Bool} {e : Ending} (hc : Chg (fpW p v) w w1) (hl : Lies w v v1) (h : WOut w1 p B v1 l2 b2 e w2) : WOut w p B v l2 b2 e w2 := by
  obtain ⟨rfl, v2, h1, h2, h3⟩ := h
  exact ⟨rfl, v2, h1, hc.trans2 h2 (fpW_lies hl), hl.trans h3 hc.size⟩

set_option maxHeartbeats 1000000 in
theorem wtext {w : World} {p B : Nat} {v : Value} {l : List UInt8} {bad : Bool} (h : WR w p B v l bad) {ao : Option Addr} {c : Nat} {m : List UInt8} (hr : RB w (.slice ao m.length c) m) (hd : 0 < m.length → ∀ k, (Value.slice ao m.length c).ownBlock = some k → ¬ fpW p v k)
    (hlen : l.length + 9 + m.length ≤ 140737488355328) (hB : B ≤ w.heap.size) :
    Calls Tryd.prog 60 #[.pointer (some ⟨p, 0, none⟩), .slice ao m.length c] w (WOut w p B v (l ++ num m.length ++ m) bad) := by
  have hn := wnumber h m.length (by omega) (by omega) hB
  have h9 := num_len9 (n := m.length) (by omega)
  have Hn := Lib.hid hn
  have Hr := Lib.hid hr
  have Hd := Lib.hid hd
  clear hn hr h hd
  go_enter Tryd.func60, Tryd.ntmps60
  go_wp2_with fail; (with_reducible refine (Hn.out).mono ?_); rintro e w1 ⟨rfl, v1, hw1, hc1, hl1⟩
  have hr1 := Hr.out.chg hc1 Hd.out
  have h2 := wraw hw1 hr1 (by simp only [List.length_append]; omega) (Nat.le_trans hB hc1.size)
  have H2 := Lib.hid h2
  have Hc1 := Lib.hid hc1
  have Hl1 := Lib.hid hl1
  clear h2 hr1 hw1 hc1 hl1
  go_wp2_with fail; (with_reducible refine (H2.out).mono ?_); rintro e w2 ⟨rfl, v2, hw2, hc2, hl2⟩
  go_wp2
  go_ret
  exact ⟨rfl, v2, hw2, Hc1.out.trans2 hc2 (fpW_lies Hl1.out), Hl1.out.trans hl2 Hc1.out.size⟩

set_option maxHeartbeats 1000000 in
theorem wnumber_neg {w : World} {p B : Nat} {v : Value} {l : List UInt8} {bad : Bool} (h : WR w p B v l bad) (n : Int) (hn : n < 0) :
    Calls Tryd.prog 50 #[.pointer (some ⟨p, 0, none⟩), .int .i64 n] w (WOut w p B v l true) := by
  obtain ⟨k0, k1, f0, f1⟩ := cell_two h.1
  have H := Lib.hid h
  clear h
  go_enter Tryd.func50, Tryd.ntmps50
  go_wp2
  go_ret
  refine ⟨rfl, v, ⟨heap_set1 H.out.1, H.out.2.1.chg (Chg.set w p 1 _) (fun k hk e => H.out.2.2 (by rw [hk, e])), H.out.2.2⟩, (Chg.set w p 1 _).mono fun k hk => .inl hk, Lies.refl _ _⟩

/-- all that was laid, in new memory -/
def BytesOut (w : World) (l : List UInt8) (e : Ending) (w' : World) : Prop :=
  ∃ v, e = .returned (.tuple #[v, .int .i64 0]) ∧ OB w' w.heap.size v l ∧ (∃ g, v = .slice (some ⟨g, 0, none⟩) l.length l.length) ∧ Below w.heap.size w w'

set_option maxHeartbeats 1000000 in
theorem wbytes {w : World} {p B : Nat} {v : Value} {l : List UInt8} (h : WR w p B v l false) (hlen : l.length ≤ 140737488355328) :
    Calls Tryd.prog 51 #[.pointer (some ⟨p, 0, none⟩)] w (BytesOut w l) := by
  obtain ⟨ao, n, c, rfl, _⟩ := h.2.1.shape
  obtain rfl := h.2.1.len
  have k := h.1
  obtain ⟨k0, k1, f0, f1⟩ := cell_two k
  have hp := blk_lt k
  have H := Lib.hid h
  clear h k
  go_enter Tryd.func51, Tryd.ntmps51
  go_wp2_with (first
    | (at_make; refine wpList_mkb rfl (.tmp 13) (.tmp 13) rfl w.heap.size l.length rfl rfl hlen (Nat.le_refl _) ?_; intro w1 ho1 hb1; have q0 : w1.cell? ⟨p, 0, none⟩ = some (.slice ao l.length c) := (hb1.cell (p := ⟨p, 0, none⟩) hp).trans k0; have Ho1 := Lib.hid ho1; have hr1 := Lib.hid (H.out.2.1.reads.below hb1); clear ho1)
    | (refine wpList_copyb rfl (.tmp 15) (.tmp 19) rfl w.heap.size w.heap.size l.length l.length (List.replicate l.length 0) rfl Ho1.out _ l rfl hr1.out ?_; intro w2 ho2 hc2))
  go_ret2
  rw [cpy_same _ _ (by simp)] at ho2
  exact ⟨_, rfl, ho2, ⟨_, rfl⟩, hb1.trans (hc2.below (fun k hk => by omega) hb1.size)⟩

set_option maxHeartbeats 1000000 in
theorem wbytes_bad {w : World} {p B : Nat} {v : Value} {l : List UInt8} (h : WR w p B v l true) :
    Calls Tryd.prog 51 #[.pointer (some ⟨p, 0, none⟩)] w fun e w' => e = .returned (.tuple #[.slice none 0 0, .int .i64 20]) ∧ w = w' := by
  obtain ⟨k0, k1, f0, f1⟩ := cell_two h.1
  clear h
  go_enter Tryd.func51, Tryd.ntmps51
  go_wp2
  go_ret2
  exact ⟨rfl, rfl⟩
theorem low_toNat (n : Int) : ((UInt8.ofNat (n % 256).toNat).toNat : Int) = n % 256 := by
  rw [toNat_ofNat8]; omega
theorem bvs_lowN (n : Int) : (#[.int .u8 (n % 256)] : Array Value) = (bvs [UInt8.ofNat (n % 256).toNat]).toArray := by
  simp only [bvs, bv, List.map_cons, List.map_nil, low_toNat]
end Go.Proofs.YtmhklmecpbdljaaDoor
