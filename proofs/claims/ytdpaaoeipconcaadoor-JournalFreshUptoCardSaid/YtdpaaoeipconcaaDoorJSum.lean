/- journal.sum: the sum of bytes, by the table: it is crc. Conditions: the bytes can be read; the table lies where it was laid. -/
import Derived.Test.YtdpaaoeipconcaaDoorJMem
namespace Go.Proofs.YtdpaaoeipconcaaDoor
open Go.RowKit

/-- The table lies where it was laid. -/
def Tab (w : World) : Prop := ∀ i, i < 16 → w.cell? ⟨0, i, none⟩ = some (.int .u32 (tab[i]! : Nat))
theorem Tab.keep {S : Nat → Prop} {w w' : World} (h : Tab w) (hk : Keeps S w w') (hs : S 0) : Tab w' := fun i hi => (hk.cell (p := ⟨0, i, none⟩) (lt_of_cell (p := ⟨0, i, none⟩) (h i hi)) hs).trans (h i hi)
theorem Tab.pos {w : World} (h : Tab w) : 0 < w.heap.size := lt_of_cell (p := ⟨0, 0, none⟩) (h 0 (by omega))

theorem ofInt_u32 {a : Nat} (h : a < 4294967296) : (BitVec.ofInt 32 (a : Int)).toNat = a := by
  simp
  omega
theorem xor_u32 {a b : Nat} (ha : a < 4294967296) (hb : b < 4294967296) : bits .xor .u32 (a : Int) (b : Int) = ((a ^^^ b : Nat) : Int) := by
  show IntKind.u32.wrap ((BitVec.ofInt 32 (a : Int) ^^^ BitVec.ofInt 32 (b : Int)).toNat : Int) = _
  rw [BitVec.toNat_xor, ofInt_u32 ha, ofInt_u32 hb, IntKind.wrap_u32]
  have := Nat.xor_lt_two_pow (n := 32) ha hb
  omega
theorem and_u32 {a b : Nat} (ha : a < 4294967296) (hb : b < 4294967296) : bits .and .u32 (a : Int) (b : Int) = ((a &&& b : Nat) : Int) := by
  show IntKind.u32.wrap ((BitVec.ofInt 32 (a : Int) &&& BitVec.ofInt 32 (b : Int)).toNat : Int) = _
  rw [BitVec.toNat_and, ofInt_u32 ha, ofInt_u32 hb, IntKind.wrap_u32]
  have := Nat.and_lt_two_pow (n := 32) a hb
  omega

theorem tab_lt (i : Nat) : tab[i]! < 4294967296 := by
  by_cases h : i < 16
  · have : ∀ i < 16, tab[i]! < 4294967296 := by decide
    exact this i h
  · simp [tab, show ¬ i < 16 from h]

/-- The steps of a half byte, for the walk. -/
theorem half_step {w : World} (hT : Tab w) {r : Nat} (hr : r < 4294967296) :
    bits .and .u32 (r : Int) 15 = ((r % 16 : Nat) : Int) ∧ ∃ t : Nat, w.cell? ⟨0, r % 16, none⟩ = some (.int .u32 (t : Int)) ∧ bits .xor .u32 ((r : Int) / 16) (t : Int) = ((step4 r : Nat) : Int) := by
  refine ⟨?_, tab[r % 16]!, hT _ (Nat.mod_lt _ (by omega)), ?_⟩
  · have := and_u32 (a := r) (b := 15) hr (by omega)
    rw [show r % 16 = r &&& 15 from (Nat.and_two_pow_sub_one_eq_mod r 4).symm]
    exact this
  · rw [step4_tab, show (r : Int) / 16 = ((r / 16 : Nat) : Int) by omega]
    exact xor_u32 (by omega) (tab_lt _)

set_option maxHeartbeats 1000000 in
theorem sum_any (w : World) (S : Nat → Prop) (A : Option Addr) (c : Nat) (bs : List UInt8) (hT : Tab w) (ha : Bts S w A bs) :
    Calls Tryd.prog 75 #[.slice A bs.length c] w fun e w' => e = .returned (.int .u32 (crc bs : Nat)) ∧ w = w' := by
  have hal := ha.1
  go_enter Tryd.func75, Tryd.ntmps75
  go_wp2
  go_loopw [3, 8] (fun r i wr => ∃ k : Nat, i = .int .i64 k ∧ k ≤ bs.length ∧ r = .int .u32 (crcR 4294967295 (bs.take k) : Nat) ∧ wr = w) (fun _ i _ => bs.length - (intOf i).toNat)
  case atStart => exact ⟨0, rfl, Nat.zero_le _, by simp [crcR], rfl⟩
  case round =>
    obtain ⟨k, rfl, hk, rfl, rfl⟩ := hrel
    by_cases hlt : k < bs.length
    · obtain ⟨b1, o1, rfl, _, h1⟩ := ha.at_ hlt
      have i1 : (0 : Int) ≤ (k : Int) := by omega
      have i2 : (k : Int) < (bs.length : Int) := by omega
      obtain ⟨r0, hr0⟩ : ∃ r0, r0 = crcR 4294967295 (bs.take k) := ⟨_, rfl⟩
      have hR : Hid (crcR 4294967295 (bs.take (k + 1)) = stepB r0 bs[k]) := hid (by
        rw [List.take_succ_eq_append_getElem hlt, crcR, List.foldl_append, hr0]; rfl)
      have l0 : r0 < 4294967296 := by rw [hr0]; exact crcR_lt _ (by omega)
      rw [← hr0]
      clear hr0
      generalize bs[k] = x at *
      have lx := x.toNat_lt
      have l1 : r0 ^^^ x.toNat < 4294967296 := Nat.xor_lt_two_pow (n := 32) l0 (by omega)
      have e1 : bits .xor .u32 (r0 : Int) ((x.toNat : Int) % 4294967296) = ((r0 ^^^ x.toNat : Nat) : Int) := by
        rw [show (x.toNat : Int) % 4294967296 = (x.toNat : Int) by omega]
        exact xor_u32 l0 (by omega)
      have e1' : bits .xor .u32 (r0 : Int) (x.toNat : Int) = ((r0 ^^^ x.toNat : Nat) : Int) := xor_u32 l0 (by omega)
      obtain ⟨a1, t1, c1, x1⟩ := half_step hT l1
      obtain ⟨a2, t2, c2, x2⟩ := half_step hT (step4_lt l1)
      have hR' : Hid (crcR 4294967295 (bs.take (k + 1)) = step4 (step4 (r0 ^^^ x.toNat))) := hR
      clear hR
      have l2 := step4_lt l1
      have l3 := step4_lt l2
      generalize step4 (step4 (r0 ^^^ x.toNat)) = r3 at *
      generalize step4 (r0 ^^^ x.toNat) = r2 at *
      generalize r0 ^^^ x.toNat = r1 at *
      have m1 : r1 % 16 < 16 := Nat.mod_lt _ (by omega)
      have m2 : r2 % 16 < 16 := Nat.mod_lt _ (by omega)
      generalize r1 % 16 = n1 at *
      generalize r2 % 16 = n2 at *
      have j1 : (0 : Int) ≤ (n1 : Int) ∧ (n1 : Int) < 16 := by omega
      have j2 : (0 : Int) ≤ (n2 : Int) ∧ (n2 : Int) < 16 := by omega
      go_wp2
      exact ⟨⟨k + 1, by go_num, by omega, by rw [hR'.out], by first | rfl | trivial⟩, by simp [intOf]; omega⟩
    · obtain rfl : k = bs.length := by omega
      rw [List.take_length]
      have l0 : crcR 4294967295 bs < 4294967296 := crcR_lt _ (by omega)
      have e0 : bits .xor .u32 IntKind.u32.max (crcR 4294967295 bs : Nat) = ((crc bs : Nat) : Int) := by
        have := xor_u32 (a := 4294967295) (b := crcR 4294967295 bs) (by omega) l0
        rw [Nat.xor_comm] at this
        exact this
      go_wp2
      go_ret
      refine ⟨?_, rfl⟩
      rw [← e0]
      rfl
end Go.Proofs.YtdpaaoeipconcaaDoor
