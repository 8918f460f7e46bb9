/- weftlaw12.Book: pat, far, roomy. Conditions: the bytes can be read; the numbers are small. -/
import Derived.Test.YtgnndggbjipioaaABApp
namespace Go.Proofs.Ytgnndggbjipioaa
open Go.RowKit

/-- the byte of a mark at a place -/
def patB (m i : Nat) : UInt8 := UInt8.ofNat (m / 2 ^ (8 * (i % 3)))
def pats (m n : Nat) : List UInt8 := (List.range n).map (patB m)
theorem pats_length (m n : Nat) : (pats m n).length = n := by simp [pats]
theorem pats_succ (m n : Nat) : pats m (n + 1) = pats m n ++ [patB m n] := by simp [pats, List.range_succ]
theorem pats_get (m n : Nat) {i : Nat} (h : i < n) : (pats m n)[i]? = some (patB m i) := by simp [pats, h]
theorem pats_take (m : Nat) {a b : Nat} (h : b ≤ a) : (pats m a).take b = pats m b := by
  unfold pats
  rw [← List.map_take, List.take_range, Nat.min_eq_left h]

theorem ofNat_bv (x : Nat) : bv (UInt8.ofNat x) = .int .u8 ((x % 256 : Nat) : Int) := by
  show Value.int .u8 (((UInt8.ofNat x).toNat : Nat) : Int) = _
  rw [UInt8.toNat_ofNat']

set_option maxHeartbeats 1000000 in
theorem pat_any (w : World) (m i : Nat) (hm : m ≤ 4611686018427387904) (hi : i ≤ 4611686018427387904) : Calls Try.prog 57 #[.int .i64 (m : Int), .int .i64 (i : Int)] w fun e w' => e = .returned (bv (patB m i)) ∧ w = w' := by
  have hr : i % 3 < 3 := Nat.mod_lt _ (by omega)
  have h0 : (0 : Int) ≤ (i : Int) := by omega
  have h1 : (0 : Int) ≤ (m : Int) := by omega
  have e1 : (i : Int) % 3 = ((i % 3 : Nat) : Int) := by omega
  have e2 : (i : Int).tmod 3 = ((i % 3 : Nat) : Int) := by rw [Int.tmod_eq_emod_of_nonneg h0]; omega
  rcases (show i % 3 = 0 ∨ i % 3 = 1 ∨ i % 3 = 2 by omega) with h | h | h <;> rw [h] at e1 e2
  · have hv : bv (patB m i) = .int .u8 ((m : Int) % 256) := by
      unfold patB
      rw [h, ofNat_bv, show m / 2 ^ (8 * 0) = m by simp, Int.natCast_emod]
      rfl
    rw [hv]
    clear hv
    go_enter Try.func57, Try.ntmps57
    go_wp2
    go_ret
    exact ⟨rfl, rfl⟩
  · have hv : bv (patB m i) = .int .u8 ((m : Int) / 256 % 256) := by
      unfold patB
      rw [h, ofNat_bv, show (2 : Nat) ^ (8 * 1) = 256 by decide, Int.natCast_emod, Int.natCast_ediv]
      rfl
    rw [hv]
    clear hv
    go_enter Try.func57, Try.ntmps57
    go_wp2
    go_ret
    exact ⟨rfl, rfl⟩
  · have hv : bv (patB m i) = .int .u8 ((m : Int) / 65536 % 256) := by
      unfold patB
      rw [h, ofNat_bv, show (2 : Nat) ^ (8 * 2) = 65536 by decide, Int.natCast_emod, Int.natCast_ediv]
      rfl
    rw [hv]
    clear hv
    go_enter Try.func57, Try.ntmps57
    go_wp2
    go_ret
    exact ⟨rfl, rfl⟩

set_option maxHeartbeats 1000000 in
theorem far_any (w : World) (r : Int) (h0 : -9223372036854775808 ≤ r) (h1 : r ≤ 9223372036854775807) : Calls Try.prog 58 #[.int .i64 r] w fun e w' => e = .returned (.int .i64 (min r 70000)) ∧ w = w' := by
  by_cases h : r ≤ 70000
  · have hm : min r 70000 = r := by omega
    rw [hm]
    clear hm
    go_enter Try.func58, Try.ntmps58
    go_wp2
    go_ret
    exact ⟨rfl, rfl⟩
  · have hm : min r 70000 = 70000 := by omega
    have h' : 70000 < r := by omega
    rw [hm]
    clear hm h
    go_enter Try.func58, Try.ntmps58
    go_wp2
    go_ret
    exact ⟨rfl, rfl⟩

/-! ### bytes with spare room behind them -/

def spareB : List UInt8 := (List.range 64).map fun j => UInt8.ofNat (137 + j)
def roomyB (bs : List UInt8) : List UInt8 := bs ++ spareB
theorem roomyB_length (bs : List UInt8) : (roomyB bs).length = bs.length + 64 := by simp [roomyB, spareB]
theorem roomyB_take (bs : List UInt8) : (roomyB bs).take bs.length = bs := by simp [roomyB]

/-- Bytes in a new block of their own, all of it. -/
def PostRoom (w : World) (bs : List UInt8) (e : Ending) (w' : World) : Prop := e = .returned (.slice (some ⟨w.heap.size, 0, none⟩) (bs.length + 64) (bs.length + 64)) ∧ Row1 w' 5 w.heap.size (bs.length + 64) ((roomyB bs).map bv) ∧ Old w w'

theorem row_made {w : World} {N : Nat} : Row1 (w.alloc (.cells (madeCells #[.int .u8 0] N) 5)) 5 w.heap.size N [] := ⟨_, heap_alloc_new _ _, by simp [madeCells], by simp, by simp⟩

set_option maxHeartbeats 2000000 in
theorem roomy_any (w : World) (S : Nat → Prop) (A : Option Addr) (c : Nat) (bs : List UInt8) (ha : Bts S w A bs) (hl : bs.length ≤ 100000000000) : Calls Try.prog 35 #[.slice A bs.length c] w (PostRoom w bs) := by
  obtain ⟨i5, hi, hz0, hz1, hz2⟩ := info_parts info5
  obtain ⟨N, hN⟩ : ∃ N, N = bs.length + 64 := ⟨_, rfl⟩
  have hmk := run_make (P := Try.prog) w 46 5 i5 (.int .u8 0) Try.underlying46 hi hz0 .i64 .i64 (N : Int) (N : Int) (by omega) (by omega) (by rw [hz2]; omega) (by omega)
  simp only [hz1, Nat.mul_one, Int.toNat_natCast, show (Value.int .u8 0).cells = #[.int .u8 0] from rfl] at hmk
  have b1 : IntKind.i64.wrap ((bs.length : Int) + 64) = (N : Int) := by rw [IntKind.wrap_i64]; omega
  have hrl := roomyB_length bs
  unfold PostRoom
  rw [← hN] at hrl ⊢
  have HN := hid hN
  have HRL := hid hrl
  clear hN hi hz0 hz1 hz2 hrl
  have hnl : bs.length < N := by have := HN.out; omega
  have hnm : N ≤ 100000000064 := by have := HN.out; omega
  go_enter Try.func35, Try.ntmps35
  obtain ⟨W0, hW0⟩ : ∃ W, W = w.alloc (.cells (madeCells #[.int .u8 0] N) 5) := ⟨_, rfl⟩
  have k0 : Old w W0 := by rw [hW0]; exact (Keeps.refl _ _).alloc _
  have hr0 : Row1 W0 5 w.heap.size N [] := by rw [hW0]; exact row_made
  have HS := hid hr0
  have HK := hid k0
  go_upto_region 3 with fail
  rw [← hW0]
  clear hW0 hmk k0 hr0
  go_wp2
  go_loopw [5] (fun i wr => ∃ k : Nat, i = .int .i64 k ∧ k ≤ N ∧ Hid (Row1 wr 5 w.heap.size N (((roomyB bs).take k).map bv)) ∧ Hid (Old w wr)) (fun i _ => N - (intOf i).toNat)
  case atStart => exact ⟨0, rfl, Nat.zero_le _, HS, HK⟩
  case round =>
    clear HS HK
    obtain ⟨k, rfl, hk, hrow, hold⟩ := hrel
    have i0 : (0 : Int) ≤ (k : Int) := by omega
    by_cases hlt : k < N
    · have hlen : (((roomyB bs).take k).map bv).length = k := by rw [List.length_map, List.length_take, HRL.out]; omega
      obtain ⟨u, hu⟩ := hrow.out.some_ hlt
      have hf := hrow.out.frozen
      have hpush := fun v => hrow.out.push (by rw [hlen]; exact hlt) v
      rw [hlen] at hpush
      have hkr : k < (roomyB bs).length := by rw [HRL.out]; exact hlt
      have hnx : ((roomyB bs).take k).map bv ++ [bv (roomyB bs)[k]] = ((roomyB bs).take (k + 1)).map bv := by rw [List.take_succ_eq_append_getElem hkr, List.map_append]; rfl
      have i1 : (k : Int) < (N : Int) := by omega
      have hk2 : Keeps (· ≠ w.heap.size) wr wr := Keeps.refl _ _
      by_cases hb : k < bs.length
      · have i2 : (k : Int) < (bs.length : Int) := by omega
        obtain ⟨b, o, rfl, _, h0⟩ := (ha.keep (hold.out.old _)).at_ hb
        have hgk : (roomyB bs)[k] = bs[k] := by
          have h1 : (roomyB bs)[k]? = some bs[k] := by unfold roomyB; rw [List.getElem?_append_left hb]; exact List.getElem?_eq_getElem hb
          rw [List.getElem?_eq_getElem hkr] at h1
          exact Option.some.inj h1
        have hst := hpush (bv (roomyB bs)[k])
        rw [hnx, hgk] at hst
        have HR := hid hst
        have HK := hid (hold.out.trans (hk2.setCell (p := ⟨w.heap.size, k, none⟩) (fun _ h => h rfl) (bv bs[k])) fun k' hk' _ => by show k' ≠ _; omega)
        clear hst hnx hpush hlen hgk hk2
        generalize bs[k] = x at *
        go_wp2
        exact ⟨⟨k + 1, by go_num, by omega, HR, HK⟩, by simp [intOf]; omega⟩
      · have i2 : ¬ (k : Int) < (bs.length : Int) := by omega
        have hgk : bv (roomyB bs)[k] = .int .u8 (IntKind.u8.wrap (137 + (k : Int) - (bs.length : Int))) := by
          have hl : k - bs.length < 64 := by have := HN.out; omega
          have e : (roomyB bs)[k] = UInt8.ofNat (137 + (k - bs.length)) := by
            have h1 : (roomyB bs)[k]? = some (UInt8.ofNat (137 + (k - bs.length))) := by unfold roomyB; rw [List.getElem?_append_right (by omega)]; simp [spareB, hl]
            rw [List.getElem?_eq_getElem hkr] at h1
            exact Option.some.inj h1
          rw [e, ofNat_bv, IntKind.wrap_u8]
          congr 1
          omega
        have b2 : IntKind.i64.wrap (137 + (k : Int)) = 137 + (k : Int) := by rw [IntKind.wrap_i64]; omega
        have b3 : IntKind.i64.wrap (137 + (k : Int) - (bs.length : Int)) = 137 + (k : Int) - (bs.length : Int) := by rw [IntKind.wrap_i64]; omega
        have hst := hpush (bv (roomyB bs)[k])
        rw [hnx, hgk] at hst
        have HR := hid hst
        have HK := hid (hold.out.trans (hk2.setCell (p := ⟨w.heap.size, k, none⟩) (fun _ h => h rfl) (.int .u8 (IntKind.u8.wrap (137 + (k : Int) - (bs.length : Int))))) fun k' hk' _ => by show k' ≠ _; omega)
        clear hst hnx hpush hlen hgk hk2
        generalize hx : IntKind.u8.wrap (137 + (k : Int) - (bs.length : Int)) = x at *
        go_wp2
        exact ⟨⟨k + 1, by go_num, by omega, HR, HK⟩, by simp [intOf]; omega⟩
    · obtain rfl : k = N := by omega
      have h := hrow.out
      rw [List.take_of_length_le (by rw [HRL.out]; exact Nat.le_refl _)] at h
      have HR := hid h
      clear h
      go_wp2
      go_ret
      exact ⟨rfl, HR.out, hold.out⟩
end Go.Proofs.Ytgnndggbjipioaa
