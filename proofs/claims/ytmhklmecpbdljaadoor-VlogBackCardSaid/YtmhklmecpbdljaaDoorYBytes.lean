/- The contract of ikey.Key.Bytes: the bytes of a right key. -/
import Derived.Test.YtmhklmecpbdljaaDoorYKey
namespace Go.Proofs.YtmhklmecpbdljaaDoor
open Go.RowKit
set_option linter.unusedVariables false

theorem cell_bytesRow (w : World) (u : ByteArray) (cap : Nat) (e : TypeId) (fr : Nat × Nat) (j : Nat) (hj : j < u.size) (B : Nat) (hB : B = w.heap.size) :
    (w.alloc (.cells (bytesRow u cap) e fr)).drew.cell? ⟨B, j, none⟩ = some (.int .u8 ((u.data.toList.getD j 0).toNat : Int)) := by
  subst hB
  show (w.alloc (.cells (bytesRow u cap) e fr)).cell? ⟨w.heap.size, j, none⟩ = _
  have hh : (w.alloc (.cells (bytesRow u cap) e fr)).heap[w.heap.size]? = some (.cells (bytesRow u cap) e fr) := heap_alloc_new w _
  rw [cell_of_row _ _ _ _ _ _ hh]
  unfold bytesRow
  have hj' : j < u.data.size := hj
  rw [Array.getElem?_append_left (by simpa using hj')]
  rw [Array.getElem?_map, Array.getElem?_eq_getElem hj']
  simp [List.getD, Array.getElem?_eq_getElem hj']

/-- a user's bytes: a 0 stands as 0, 255 -/
def esc (l : List UInt8) : List UInt8 := l.flatMap fun c => if c = 0 then [0, 255] else [c]
theorem esc_snoc (l : List UInt8) (c : UInt8) : esc (l ++ [c]) = esc l ++ (if c = 0 then [0, 255] else [c]) := by simp [esc]
theorem esc_le (l : List UInt8) : (esc l).length ≤ 2 * l.length := by
  induction l with
  | nil => simp [esc]
  | cons a l ih =>
    have : esc (a :: l) = (if a = 0 then [0, 255] else [a]) ++ esc l := by unfold esc; rw [List.flatMap_cons]
    rw [this, List.length_append, List.length_cons]
    have h2 : (if a = 0 then [0, 255] else [a] : List UInt8).length ≤ 2 := by split <;> simp
    omega
/-- byte k of a number, from behind -/
def byteAt (n : Nat) (k : Nat) : UInt8 := UInt8.ofNat (n / 2 ^ (8 * k) % 256)
def six (n : Nat) : List UInt8 := [byteAt n 5, byteAt n 4, byteAt n 3, byteAt n 2, byteAt n 1, byteAt n 0]
def keyBytes (l : List UInt8) (s k : Int) : List UInt8 := esc l ++ [0, 1] ++ six (1099511627776 - s).toNat ++ [UInt8.ofNat (255 - k).toNat]
theorem take_snoc' (l : List UInt8) (k : Nat) (h : k < l.length) : l.take (k + 1) = l.take k ++ [l.getD k 0] := by
  rw [List.take_succ_eq_append_getElem h]; simp [List.getD, h]
theorem length_data (u : ByteArray) : u.data.toList.length = u.size := by rw [Array.length_toList]; rfl

theorem bvs_byteAt (g : Int) (k : Nat) (h : 0 ≤ g) (x : Int) (hx : x = g / 2 ^ (8 * k) % 256) : (#[.int .u8 x] : Array Value) = (bvs [byteAt g.toNat k]).toArray := by
  subst hx
  have e : ((byteAt g.toNat k).toNat : Int) = g / 2 ^ (8 * k) % 256 := by
    obtain ⟨n, rfl⟩ := Int.eq_ofNat_of_zero_le h
    rw [Int.toNat_natCast]
    unfold byteAt
    have : (UInt8.ofNat (n / 2 ^ (8 * k) % 256)).toNat = n / 2 ^ (8 * k) % 256 := by simp
    rw [this]
    simp
  simp only [bvs, bv, List.map_cons, List.map_nil, e]
theorem bvs_ofInt (x : Int) (h0 : 0 ≤ x) (h1 : x < 256) : (#[.int .u8 x] : Array Value) = (bvs [UInt8.ofNat x.toNat]).toArray := by
  have e : ((UInt8.ofNat x.toNat).toNat : Int) = x := by
    have : (UInt8.ofNat x.toNat).toNat = x.toNat % 256 := by simp
    rw [this]; omega
  simp only [bvs, bv, List.map_cons, List.map_nil, e]
/-- the shift of round r -/
def shn : Nat → Int | 0 => 40 | 1 => 32 | 2 => 24 | 3 => 16 | 4 => 8 | 5 => 0 | _ => -8

set_option maxRecDepth 100000 in
set_option maxHeartbeats 2000000 in
theorem keybytes (u : ByteArray) (s k : Int) (w : World) (h : keyRight u s k = true) :
    Calls Tryd.prog 59 #[.agg #[.string u, .int .i64 s, .int .i64 k]] w fun e w' => ∃ v, e = .returned (.tuple #[v, .int .i64 0]) ∧ OB w' w.heap.size v (keyBytes u.data.toList s k) ∧ Below w.heap.size w w' := by
  have hr := h
  simp only [keyRight, decide_eq_true_eq] at h
  obtain ⟨h1, h2, h3, h4, h5, h6⟩ := h
  have hconv := fun (w : World) => run_bytes_of_string (P := Tryd.prog) w 9 23 5 u Tryd.underlying9 Tryd.underlying23 Tryd.underlying5
  have hL := length_data u
  have HL := Lib.hid hL
  clear hL
  go_enter Tryd.func59, Tryd.ntmps59
  go_wp2_with (go_at_call 75; refine (check_ok u s k _ hr).mono ?_; rintro e w' ⟨rfl, rfl⟩)
  clear hconv
  refine gen_wp (fun w' => (∀ j, j < u.size → w'.cell? ⟨w.heap.size + 1 + 1, j, none⟩ = some (.int .u8 ((u.data.toList.getD j 0).toNat : Int))) ∧ w'.cell? ⟨w.heap.size, 1, none⟩ = some (.int .i64 s) ∧ w'.cell? ⟨w.heap.size, 2, none⟩ = some (.int .i64 k) ∧ w'.heap.size = w.heap.size + 3 ∧ Below w.heap.size w w') ?_ ?_
  · refine ⟨fun j hj => ?_, ?_, ?_, ?_, ?_⟩
    · exact cell_bytesRow _ u _ _ _ j hj _ (by simp)
    · go_simp
    · go_simp
    · simp
    · (repeat first | exact Below.refl _ _ | refine Below.drew ?_ | refine Below.alloc ?_ (by simp <;> omega) _ | refine Below.setCell ?_ (by simp <;> omega) _)
  · generalize grownCap _ _ _ _ = cap
    rintro w2 ⟨hu, hs, hk, hz, hb⟩
    have Hu := Lib.hid hu
    have Hz := Lib.hid hz
    clear hu hz
    go_loopw [5, 19] (fun v i wr => ∃ j : Nat, j ≤ u.size ∧ i = .int .i64 j ∧ OB wr (w.heap.size + 3) v (esc (u.data.toList.take j)) ∧ Below (w.heap.size + 3) w2 wr) (fun _ i _ => u.size - (intOf i).toNat)
    case atStart => exact ⟨0, Nat.zero_le _, rfl, OB.nil _ _, Below.refl _ _⟩
    case round =>
      obtain ⟨j, hj, rfl, hown, hbel⟩ := hrel
      by_cases hlt : j < u.size
      · have hcell := (hbel.cell (p := ⟨w.heap.size + 1 + 1, j, none⟩) (by simp)).trans (Hu.out j hlt)
        have hsz := hbel.size
        have Hes : Hid (esc (u.data.toList.take (j + 1)) = esc (u.data.toList.take j) ++ (if u.data.toList.getD j 0 = 0 then [0, 255] else [u.data.toList.getD j 0])) := by
          rw [take_snoc' _ _ (by rw [HL.out]; exact hlt), esc_snoc]
          exact Lib.hid rfl
        have hle := esc_le (u.data.toList.take j)
        have hle2 : (u.data.toList.take j).length ≤ j := List.length_take_le _ _
        have hn : w.heap.size + 3 ≤ wr.heap.size := by have := Hz.out; omega
        generalize u.data.toList.getD j 0 = c at hcell Hes
        generalize esc (u.data.toList.take j) = es at hown Hes hle
        by_cases hc0 : c = 0
        · subst hc0
          have hcell : wr.cell? ⟨w.heap.size + 1 + 1, j, none⟩ = some (.int .u8 0) := hcell
          go_wp2_with (first
            | (at_builtin; refine wpList_appb rfl (.tmp 23) (.tmp 25) rfl (w.heap.size + 3) u5 es rfl hown #[.int .u8 0] 1 1 [0] rfl rfl rfl (by decide) ?_ hn ?_; (first | omega | (simp only [List.length_cons, List.length_nil]; omega) | (simp only [List.length_append, List.length_cons, List.length_nil]; omega)); intro v1 w1 ho1 ha1; have hn1 := Nat.le_trans hn ha1.grown.size)
            | (at_builtin; refine wpList_appb rfl (.tmp 29) (.tmp 30) rfl (w.heap.size + 3) v1 (es ++ [0]) rfl ho1 #[.int .u8 255] 1 1 [255] rfl rfl rfl (by decide) ?_ hn1 ?_; (first | omega | (simp only [List.length_cons, List.length_nil]; omega) | (simp only [List.length_append, List.length_cons, List.length_nil]; omega)); intro v2 w2 ho2 ha2))
          go_roundw
          case rel => exact ⟨j + 1, by omega, by go_num, by rw [Hes.out]; simpa using ho2, hbel.trans ((hown.below ha1 hn).trans (ho1.below ha2 hn1))⟩
          case measure => simp [intOf]; omega
        · have Hc0 := Lib.hid hc0
          have hc1 : ((c.toNat : Int) == 0) = false := by
            rw [beq_eq_false_iff_ne]
            intro h
            apply hc0
            apply UInt8.toNat_inj.1
            simpa using h
          clear hc0
          go_wp2_with (first
            | (at_builtin; refine wpList_appb rfl (.tmp 23) (.tmp 25) rfl (w.heap.size + 3) u5 es rfl hown #[.int .u8 c.toNat] 1 1 [c] rfl rfl rfl (by decide) ?_ hn ?_; (first | omega | (simp only [List.length_cons, List.length_nil]; omega) | (simp only [List.length_append, List.length_cons, List.length_nil]; omega)); intro v1 w1 ho1 ha1; have hn1 := Nat.le_trans hn ha1.grown.size))
          go_roundw
          case rel => exact ⟨j + 1, by omega, by go_num, by rw [Hes.out, if_neg Hc0.out]; exact ho1, hbel.trans (hown.below ha1 hn)⟩
          case measure => simp [intOf]; omega
      · obtain rfl : j = u.size := by omega
        have hsz := hbel.size
        have hn : w.heap.size + 3 ≤ wr.heap.size := by have := Hz.out; omega
        have hle := esc_le (u.data.toList.take u.size)
        have hle2 : (u.data.toList.take u.size).length ≤ u.size := List.length_take_le _ _
        have Hes : Hid (u.data.toList.take u.size = u.data.toList) := List.take_of_length_le (by rw [HL.out]; exact Nat.le_refl _)
        rw [Hes.out] at hown hle hle2
        have hs1 := (hbel.cell (p := ⟨w.heap.size, 1, none⟩) (by simp <;> omega)).trans hs
        have hk1 := (hbel.cell (p := ⟨w.heap.size, 2, none⟩) (by simp <;> omega)).trans hk
        generalize hes : esc u.data.toList = es at hown hle
        have Hese := Lib.hid hes
        clear hes hlt hj
        go_upto_block 2 with (first
            | (at_builtin; refine wpList_appb rfl (.tmp 33) (.tmp 34) rfl (w.heap.size + 3) u5 es rfl hown #[.int .u8 0, .int .u8 1] 2 2 [0, 1] rfl rfl rfl (by decide) ?_ hn ?_; (first | omega | (simp only [List.length_cons, List.length_nil]; omega) | (simp only [List.length_append, List.length_cons, List.length_nil]; omega)); intro v1 w1 ho1 ha1; have hn1 := Nat.le_trans hn ha1.grown.size; have hs2 := ((hown.below ha1 hn).cell (p := ⟨w.heap.size, 1, none⟩) (by simp <;> omega)).trans hs1; have hk2 := ((hown.below ha1 hn).cell (p := ⟨w.heap.size, 2, none⟩) (by simp <;> omega)).trans hk1))
        obtain ⟨g, hg⟩ : ∃ g, 1099511627776 - s = g := ⟨_, rfl⟩
        rw [hg]
        have hg1 : 0 ≤ g := by omega
        have hg2 : g ≤ 1099511627776 := by omega
        have Hg := Lib.hid hg
        clear hg
        go_wp2_with fail
        go_loopw [5, 9] (fun v sh wx => ∃ r : Nat, r ≤ 6 ∧ sh = .int .i64 (shn r) ∧ OB wx (w.heap.size + 3) v (es ++ [0, 1] ++ (six g.toNat).take r) ∧ Below (w.heap.size + 3) w1 wx) (fun _ sh _ => (intOf sh + 8).toNat)
        case atStart => exact ⟨0, by omega, rfl, by simpa using ho1, Below.refl _ _⟩
        case round =>
          obtain ⟨r, hr, hsh, hown2, hbel2⟩ := hrel
          have hr' : r = 0 ∨ r = 1 ∨ r = 2 ∨ r = 3 ∨ r = 4 ∨ r = 5 ∨ r = 6 := by omega
          rcases hr' with rfl | rfl | rfl | rfl | rfl | rfl | rfl
          · have hsh : u9 = .int .i64 40 := hsh
            subst hsh
            have hn2 := Nat.le_trans hn1 hbel2.size
            go_wp2_with (first
              | (at_builtin; refine wpList_appb rfl (.tmp 43) (.tmp 48) rfl (w.heap.size + 3) u5 (es ++ [0, 1] ++ (six g.toNat).take 0) rfl hown2 _ 1 1 [byteAt g.toNat 5] rfl ?_ rfl (by decide) ?_ hn2 ?_; (exact bvs_byteAt g 5 hg1 _ (by simp <;> omega)); (simp only [List.length_append, List.length_cons, List.length_nil, List.length_take, six]; omega); intro v2 w2 ho2 ha2))
            go_roundw
            case rel => exact ⟨1, by omega, rfl, by simpa [six] using ho2, hbel2.trans (hown2.below ha2 hn2)⟩
            case measure => simp [intOf]
          · have hsh : u9 = .int .i64 32 := hsh
            subst hsh
            have hn2 := Nat.le_trans hn1 hbel2.size
            go_wp2_with (first
              | (at_builtin; refine wpList_appb rfl (.tmp 43) (.tmp 48) rfl (w.heap.size + 3) u5 (es ++ [0, 1] ++ (six g.toNat).take 1) rfl hown2 _ 1 1 [byteAt g.toNat 4] rfl ?_ rfl (by decide) ?_ hn2 ?_; (exact bvs_byteAt g 4 hg1 _ (by simp <;> omega)); (simp only [List.length_append, List.length_cons, List.length_nil, List.length_take, six]; omega); intro v2 w2 ho2 ha2))
            go_roundw
            case rel => exact ⟨2, by omega, rfl, by simpa [six] using ho2, hbel2.trans (hown2.below ha2 hn2)⟩
            case measure => simp [intOf]
          · have hsh : u9 = .int .i64 24 := hsh
            subst hsh
            have hn2 := Nat.le_trans hn1 hbel2.size
            go_wp2_with (first
              | (at_builtin; refine wpList_appb rfl (.tmp 43) (.tmp 48) rfl (w.heap.size + 3) u5 (es ++ [0, 1] ++ (six g.toNat).take 2) rfl hown2 _ 1 1 [byteAt g.toNat 3] rfl ?_ rfl (by decide) ?_ hn2 ?_; (exact bvs_byteAt g 3 hg1 _ (by simp <;> omega)); (simp only [List.length_append, List.length_cons, List.length_nil, List.length_take, six]; omega); intro v2 w2 ho2 ha2))
            go_roundw
            case rel => exact ⟨3, by omega, rfl, by simpa [six] using ho2, hbel2.trans (hown2.below ha2 hn2)⟩
            case measure => simp [intOf]
          · have hsh : u9 = .int .i64 16 := hsh
            subst hsh
            have hn2 := Nat.le_trans hn1 hbel2.size
            go_wp2_with (first
              | (at_builtin; refine wpList_appb rfl (.tmp 43) (.tmp 48) rfl (w.heap.size + 3) u5 (es ++ [0, 1] ++ (six g.toNat).take 3) rfl hown2 _ 1 1 [byteAt g.toNat 2] rfl ?_ rfl (by decide) ?_ hn2 ?_; (exact bvs_byteAt g 2 hg1 _ (by simp <;> omega)); (simp only [List.length_append, List.length_cons, List.length_nil, List.length_take, six]; omega); intro v2 w2 ho2 ha2))
            go_roundw
            case rel => exact ⟨4, by omega, rfl, by simpa [six] using ho2, hbel2.trans (hown2.below ha2 hn2)⟩
            case measure => simp [intOf]
          · have hsh : u9 = .int .i64 8 := hsh
            subst hsh
            have hn2 := Nat.le_trans hn1 hbel2.size
            go_wp2_with (first
              | (at_builtin; refine wpList_appb rfl (.tmp 43) (.tmp 48) rfl (w.heap.size + 3) u5 (es ++ [0, 1] ++ (six g.toNat).take 4) rfl hown2 _ 1 1 [byteAt g.toNat 1] rfl ?_ rfl (by decide) ?_ hn2 ?_; (exact bvs_byteAt g 1 hg1 _ (by simp <;> omega)); (simp only [List.length_append, List.length_cons, List.length_nil, List.length_take, six]; omega); intro v2 w2 ho2 ha2))
            go_roundw
            case rel => exact ⟨5, by omega, rfl, by simpa [six] using ho2, hbel2.trans (hown2.below ha2 hn2)⟩
            case measure => simp [intOf]
          · have hsh : u9 = .int .i64 0 := hsh
            subst hsh
            have hn2 := Nat.le_trans hn1 hbel2.size
            go_wp2_with (first
              | (at_builtin; refine wpList_appb rfl (.tmp 43) (.tmp 48) rfl (w.heap.size + 3) u5 (es ++ [0, 1] ++ (six g.toNat).take 5) rfl hown2 _ 1 1 [byteAt g.toNat 0] rfl ?_ rfl (by decide) ?_ hn2 ?_; (exact bvs_byteAt g 0 hg1 _ (by simp <;> omega)); (simp only [List.length_append, List.length_cons, List.length_nil, List.length_take, six]; omega); intro v2 w2 ho2 ha2))
            go_roundw
            case rel => exact ⟨6, by omega, rfl, by simpa [six] using ho2, hbel2.trans (hown2.below ha2 hn2)⟩
            case measure => simp [intOf]
          · have hsh : u9 = .int .i64 (-8) := hsh
            subst hsh
            have hn2 := Nat.le_trans hn1 hbel2.size
            have hk3 := (hbel2.cell (p := ⟨w.heap.size, 2, none⟩) (by simp <;> omega)).trans hk2
            go_wp2_with (first
              | (at_builtin; refine wpList_appb rfl (.tmp 50) (.tmp 55) rfl (w.heap.size + 3) u5 (es ++ [0, 1] ++ (six g.toNat).take 6) rfl hown2 _ 1 1 [UInt8.ofNat (255 - k).toNat] rfl ?_ rfl (by decide) ?_ hn2 ?_; (exact bvs_ofInt _ (by omega) (by omega)); (simp only [List.length_append, List.length_cons, List.length_nil, List.length_take, six]; omega); intro v9 w9 ho9 ha9))
            go_ret2
            refine ⟨v9, rfl, ?_, ?_⟩
            · unfold keyBytes
              rw [Hese.out, Hg.out]
              have e6 : (six g.toNat).take 6 = six g.toNat := rfl
              rw [e6] at ho9
              exact ho9.mono (by omega)
            · exact hb.trans ((hbel.trans ((hown.below ha1 hn).trans (hbel2.trans (hown2.below ha9 hn2)))).mono (by omega))
end Go.Proofs.YtmhklmecpbdljaaDoor
