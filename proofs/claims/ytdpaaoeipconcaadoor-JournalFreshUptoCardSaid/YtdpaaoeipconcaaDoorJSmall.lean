/- journal.clone, seal; weftref12.join, four, number, CRC: small functions over bytes. Conditions: the bytes can be read. -/
import Derived.Test.YtdpaaoeipconcaaDoorJLong
namespace Go.Proofs.YtdpaaoeipconcaaDoor
open Go.RowKit

theorem info5 : (Tryd.prog.info? 5).map (fun i => (i.zero, i.size, i.bytes)) = some (some (.int .u8 0), 1, 1) := by kernel_rfl

def PostOwn (w : World) (bs : List UInt8) (e : Ending) (w' : World) : Prop := ∃ v, e = .returned v ∧ OwnB (fun k => w.heap.size ≤ k) w' v bs ∧ Old w w'

theorem OwnB.of_block {w : World} {g n : Nat} {bs : List UInt8} (hg : w.heap[g]? = some (.cells (bs.map bv).toArray 5 (0, 0))) (hn : n = bs.length) (hl : bs.length ≤ 281474976710656) : OwnB (fun k => k = g) w (.slice (some ⟨g, 0, none⟩) n n) bs := by
  subst hn
  exact ⟨⟨by simp, .inr ⟨g, bs.length, _, rfl, Nat.zero_le _, hg, Nat.le_refl _, by unfold maxLen; omega, by simp, List.take_of_length_le (by simp)⟩⟩, by simp [Value.ownBlock], hl⟩

set_option maxHeartbeats 1000000 in
theorem jclone_any (w : World) (S : Nat → Prop) (A : Option Addr) (n c : Nat) (bs : List UInt8) (ha : Bts S w A bs) (hn : n = bs.length) (hl : bs.length ≤ 140737488355328) :
    Calls Tryd.prog 57 #[.slice A n c] w (PostOwn w bs) := by
  subst hn
  go_enter Tryd.func57, Tryd.ntmps57
  go_wp2_with (at_builtin; refine wpList_append_ex _ (by rfl) _ _ 22 5 (by rfl) Tryd.underlying22 info5 (by rfl) (by omega) (by rfl) (World.ownsRow_nil _ _ _ _) A bs.length c (bs.map bv) (by rfl) (by simp) (fun h => (by obtain ⟨ad, e, _, h⟩ := ha.src (by simpa using h); exact ⟨ad, e, h⟩)) (bv_one bs) (by omega) (by unfold maxLen; omega) ?_; intro v2 w2 hown2 hgrow2 hat2)
  go_ret
  have K : Old w w2 := (Keeps.refl _ w).grown hgrow2 (fun k _ h => by simp [Value.ownBlock] at h)
  refine ⟨v2, rfl, ⟨by simpa using hown2, fun k hk => ?_, by omega⟩, K⟩
  rcases hat2 with e | e
  · rw [e] at hk; simp [Value.ownBlock] at hk
  · rw [e] at hk; injection hk with hk; omega

set_option maxHeartbeats 1000000 in
theorem join_any (w : World) (S T : Nat → Prop) (A B : Option Addr) (n m c d : Nat) (xs ys : List UInt8) (ha : Bts S w A xs) (hb : Bts T w B ys) (hn : n = xs.length) (hm : m = ys.length) (hl : xs.length + ys.length ≤ 140737488355328) :
    Calls Tryd.prog 59 #[.slice A n c, .slice B m d] w (PostOwn w (xs ++ ys)) := by
  subst hn hm
  go_enter Tryd.func59, Tryd.ntmps59
  go_upto_region 3 with (at_builtin; refine wpList_append_ex _ (by rfl) _ _ 22 5 (by rfl) Tryd.underlying22 info5 (by rfl) (by omega) (by rfl) (World.ownsRow_nil _ _ _ _) A xs.length c (xs.map bv) (by rfl) (by simp) (fun h => (by obtain ⟨ad, e, _, h⟩ := ha.src (by simpa using h); exact ⟨ad, e, h⟩)) (bv_one xs) (by omega) (by unfold maxLen; omega) ?_; intro v2 w2 hown2 hgrow2 hat2)
  have K : Old w w2 := (Keeps.refl _ w).grown hgrow2 (fun k _ h => by simp [Value.ownBlock] at h)
  have hb2 := hb.keep (K.old _)
  have hf : ∀ k, v2.ownBlock = some k → w.heap.size ≤ k := fun k hk => by
    rcases hat2 with e | e
    · rw [e] at hk; simp [Value.ownBlock] at hk
    · rw [e] at hk; injection hk with hk; omega
  simp only [Nat.zero_add, List.nil_append] at hown2
  clear hat2 hgrow2
  have hsz := K.size
  go_wp2_with (at_builtin; refine wpList_append_ex _ (by rfl) _ _ 22 5 (by rfl) Tryd.underlying22 info5 (by rfl) (by omega) (by rfl) hown2 B ys.length d (ys.map bv) (by rfl) (by simp) (fun h => (by obtain ⟨ad, e, _, h⟩ := hb2.src (by simpa using h); exact ⟨ad, e, h⟩)) (bv_one ys) (by omega) (by unfold maxLen; omega) ?_; intro v3 w3 hown3 hgrow3 hat3)
  go_ret
  have K3 : Keeps (fun k => v2.ownBlock ≠ some k) w2 w3 := (Keeps.refl _ w2).grown hgrow3 (fun k _ h hn => hn h)
  refine ⟨v3, rfl, ⟨by simpa using hown3, fun k hk => ?_, by simp; omega⟩, K.trans K3 fun k hk _ h => by have := hf k h; omega⟩
  rcases hat3 with e | e
  · rw [e] at hk; exact hf k hk
  · rw [e] at hk; injection hk with hk; omega

set_option maxHeartbeats 1000000 in
theorem four_any (w : World) (n : Nat) (hn : n < 4294967296) : Calls Tryd.prog 67 #[.int .i64 (n : Int)] w (PostOwn w (four n)) := by
  have v0 : (.int .u8 ((n : Int) / 16777216 % 256) : Value) = bv (UInt8.ofNat (n / 16777216)) := by rw [bv_ofNat]; congr 1
  have v1 : (.int .u8 ((n : Int) / 65536 % 256) : Value) = bv (UInt8.ofNat (n / 65536)) := by rw [bv_ofNat]; congr 1
  have v2 : (.int .u8 ((n : Int) / 256 % 256) : Value) = bv (UInt8.ofNat (n / 256)) := by rw [bv_ofNat]; congr 1
  have v3 : (.int .u8 ((n : Int) % 256) : Value) = bv (UInt8.ofNat n) := by rw [bv_ofNat]; congr 1
  have e0 : (n : Int) / 16777216 % 256 = (n : Int) / 16777216 := by omega
  have fin : ∀ W, W = w.alloc (.cells #[bv (UInt8.ofNat (n / 16777216)), bv (UInt8.ofNat (n / 65536)), bv (UInt8.ofNat (n / 256)), bv (UInt8.ofNat n)] 5) → PostOwn w (four n) (.returned (.slice (some ⟨w.heap.size, 0, none⟩) 4 4)) W := fun W hW => by
    subst hW
    exact ⟨_, rfl, (OwnB.of_block (bs := four n) (heap_alloc_new _ _) rfl (by rw [four_length]; omega)).mono fun k _ h => by have h' : k = w.heap.size := h; omega, (Keeps.refl _ _).alloc _⟩
  have FIN := hid fin
  have V := hid (And.intro v0 (And.intro v1 (And.intro v2 (And.intro v3 e0))))
  clear fin v0 v1 v2 v3 e0
  go_enter Tryd.func67, Tryd.ntmps67
  go_wp2
  go_ret
  obtain ⟨v0, v1, v2, v3, e0⟩ := V.out
  exact FIN.out _ (by first | rw [v0, v1, v2, v3] | rw [← v0, e0, ← v1, ← v2, ← v3] | trace_state)

set_option maxHeartbeats 1000000 in
theorem number_any (w : World) (S : Nat → Prop) (A : Option Addr) (n c : Nat) (bs : List UInt8) (a : Nat) (ha : Bts S w A bs) (hn : n = bs.length) (h4 : a + 4 ≤ n) :
    Calls Tryd.prog 80 #[.slice A n c, .int .i64 (a : Int)] w fun e w' => e = .returned (.int .i64 (num bs a : Nat)) ∧ ∃ m, w.drewN m = w' := by
  subst hn
  have hal := ha.1
  obtain ⟨b, o, rfl⟩ := ha.addr (by omega)
  have c0 := ha.get (j := a) (by omega)
  have c1 := ha.get (j := a + 1) (by omega)
  have c2 := ha.get (j := a + 2) (by omega)
  have c3 := ha.get (j := a + 3) (by omega)
  have i0 : (0 : Int) ≤ (a : Int) := by omega
  have i1 : (a : Int) < (bs.length : Int) := by omega
  have i2 : (a : Int) + 1 < (bs.length : Int) := by omega
  have i3 : (a : Int) + 2 < (bs.length : Int) := by omega
  have i4 : (a : Int) + 3 < (bs.length : Int) := by omega
  have b1 : IntKind.i64.wrap ((a : Int) + 1) = (a : Int) + 1 := by rw [IntKind.wrap_i64]; omega
  have b2 : IntKind.i64.wrap ((a : Int) + 2) = (a : Int) + 2 := by rw [IntKind.wrap_i64]; omega
  have b3 : IntKind.i64.wrap ((a : Int) + 3) = (a : Int) + 3 := by rw [IntKind.wrap_i64]; omega
  have hnum : ((num bs a : Nat) : Int) = ((((bs.getD a 0).toNat : Int) * 256 + (bs.getD (a + 1) 0).toNat) * 256 + (bs.getD (a + 2) 0).toNat) * 256 + (bs.getD (a + 3) 0).toNat := by simp [num]
  have t0 := (bs.getD a 0).toNat_lt
  have t1 := (bs.getD (a + 1) 0).toNat_lt
  have t2 := (bs.getD (a + 2) 0).toNat_lt
  have t3 := (bs.getD (a + 3) 0).toNat_lt
  rw [hnum]
  clear hnum
  generalize (bs.getD a 0).toNat = x0 at *
  generalize (bs.getD (a + 1) 0).toNat = x1 at *
  generalize (bs.getD (a + 2) 0).toNat = x2 at *
  generalize (bs.getD (a + 3) 0).toNat = x3 at *
  go_enter Tryd.func80, Tryd.ntmps80
  go_wp2
  go_quiet (fail)
  go_wp2
  go_ret
  exact ⟨rfl, nq, rfl⟩

theorem ofInt_u64 {a : Nat} (h : a < 9223372036854775808) : (BitVec.ofInt 64 (a : Int)).toNat = a := by
  simp
  omega
theorem xor_i64 {a b : Nat} (ha : a < 4294967296) (hb : b < 4294967296) : bits .xor .i64 (a : Int) (b : Int) = ((a ^^^ b : Nat) : Int) := by
  show IntKind.i64.wrap ((BitVec.ofInt 64 (a : Int) ^^^ BitVec.ofInt 64 (b : Int)).toNat : Int) = _
  rw [BitVec.toNat_xor, ofInt_u64 (by omega), ofInt_u64 (by omega), IntKind.wrap_i64]
  have := Nat.xor_lt_two_pow (n := 32) ha hb
  omega

/-- so many bits of the sum -/
def itS : Nat → Nat → Nat
  | 0, r => r
  | n + 1, r => step1 (itS n r)
theorem itS_lt {r : Nat} (h : r < 4294967296) : ∀ n, itS n r < 4294967296
  | 0 => h
  | n + 1 => step1_lt (itS_lt h n)
theorem itS_8 (r : Nat) : itS 8 r = step4 (step4 r) := rfl

set_option maxHeartbeats 2000000 in
theorem crc_any (w : World) (S : Nat → Prop) (A : Option Addr) (n c : Nat) (bs : List UInt8) (ha : Bts S w A bs) (hn : n = bs.length) :
    Calls Tryd.prog 68 #[.slice A n c] w fun e w' => e = .returned (.int .i64 (crc bs : Nat)) ∧ w = w' := by
  subst hn
  have hal := ha.1
  go_enter Tryd.func68, Tryd.ntmps68
  go_wp2
  go_loopw [3, 4, 5] (fun r i _ wr => ∃ k : Nat, i = .int .i64 k ∧ k ≤ bs.length ∧ r = .int .i64 (crcR 4294967295 (bs.take k) : Nat) ∧ wr = w) (fun _ i _ _ => bs.length - (intOf i).toNat)
  case atStart => exact ⟨0, rfl, Nat.zero_le _, by simp [crcR], rfl⟩
  case round =>
    obtain ⟨k, rfl, hk, rfl, rfl⟩ := hrel
    by_cases hlt : k < bs.length
    · obtain ⟨b1, o1, rfl, _, h1⟩ := ha.at_ hlt
      have i1 : (0 : Int) ≤ (k : Int) := by omega
      have i2 : (k : Int) < (bs.length : Int) := by omega
      obtain ⟨r0, hr0⟩ : ∃ r0, r0 = crcR 4294967295 (bs.take k) := ⟨_, rfl⟩
      have hR : Hid (crcR 4294967295 (bs.take (k + 1)) = step4 (step4 (r0 ^^^ bs[k].toNat))) := hid (by
        rw [List.take_succ_eq_append_getElem hlt, crcR, List.foldl_append, hr0]; rfl)
      have l0 : r0 < 4294967296 := by rw [hr0]; exact crcR_lt _ (by omega)
      rw [← hr0]
      clear hr0
      generalize bs[k] = x at *
      have lx := x.toNat_lt
      have l1 : r0 ^^^ x.toNat < 4294967296 := Nat.xor_lt_two_pow (n := 32) l0 (by omega)
      have e1 : bits .xor .i64 (r0 : Int) (x.toNat : Int) = ((r0 ^^^ x.toNat : Nat) : Int) := xor_i64 l0 (by omega)
      generalize r0 ^^^ x.toNat = r1 at *
      go_wp2
      go_loopw [3, 5] (fun r j wx => ∃ m : Nat, j = .int .i64 m ∧ m ≤ 8 ∧ r = .int .i64 (itS m r1 : Nat) ∧ wx = wr) (fun _ j _ => 8 - (intOf j).toNat)
      case atStart => exact ⟨0, rfl, by omega, rfl, rfl⟩
      case round =>
        obtain ⟨m, rfl, hm, rfl, rfl⟩ := hrel
        have l2 := itS_lt l1 m
        by_cases h8 : m < 8
        · have hS : Hid (itS (m + 1) r1 = step1 (itS m r1)) := hid rfl
          generalize itS m r1 = r2 at *
          have j1 : (m : Int) < 8 := by omega
          by_cases hp : r2 % 2 = 1
          · have hp1 : (r2 : Int) % 2 = 1 := by omega
            have e2 : bits .xor .i64 ((r2 : Int) / 2) 3988292384 = ((step1 r2 : Nat) : Int) := by
              unfold step1
              rw [if_pos hp, show (r2 : Int) / 2 = ((r2 / 2 : Nat) : Int) by omega]
              exact xor_i64 (a := r2 / 2) (b := 3988292384) (by omega) (by omega)
            go_wp2
            exact ⟨⟨m + 1, by go_num, by omega, by rw [hS.out], by first | rfl | trivial⟩, by simp [intOf]; omega⟩
          · have hp1 : ¬ (r2 : Int) % 2 = 1 := by omega
            have e2 : (r2 : Int) / 2 = ((step1 r2 : Nat) : Int) := by
              unfold step1
              rw [if_neg hp]
              omega
            go_wp2
            exact ⟨⟨m + 1, by go_num, by omega, by rw [hS.out], by first | rfl | trivial⟩, by simp [intOf]; omega⟩
        · obtain rfl : m = 8 := by omega
          rw [itS_8, ← hR.out]
          go_wp2
          exact ⟨⟨k + 1, by go_num, by omega, rfl, by first | rfl | trivial⟩, by simp [intOf]; omega⟩
    · obtain rfl : k = bs.length := by omega
      rw [List.take_length]
      have l0 : crcR 4294967295 bs < 4294967296 := crcR_lt _ (by omega)
      have e0 : bits .xor .i64 (crcR 4294967295 bs : Nat) 4294967295 = ((crc bs : Nat) : Int) := xor_i64 (a := crcR 4294967295 bs) (b := 4294967295) l0 (by omega)
      go_wp2
      go_ret
      exact ⟨rfl, rfl⟩
end Go.Proofs.YtdpaaoeipconcaaDoor
