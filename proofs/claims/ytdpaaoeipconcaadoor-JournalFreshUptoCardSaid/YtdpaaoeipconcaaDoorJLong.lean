/- journal.putLong, long, seal, clone: numbers of four bytes in memory. Conditions: the bytes can be read; the places lie inside. -/
import Derived.Test.YtdpaaoeipconcaaDoorJSum
namespace Go.Proofs.YtdpaaoeipconcaaDoor
open Go.RowKit

theorem bv_ofNat (n : Nat) : bv (UInt8.ofNat n) = .int .u8 ((n % 256 : Nat) : Int) := by
  simp [bv]

theorem set4 (cur : List UInt8) (a : Nat) (x0 x1 x2 x3 : UInt8) (h : a + 4 ≤ cur.length) :
    ((((cur.map bv).toArray.setIfInBounds a (bv x0)).setIfInBounds (a + 1) (bv x1)).setIfInBounds (a + 2) (bv x2)).setIfInBounds (a + 3) (bv x3) = ((cur.take a ++ [x0, x1, x2, x3] ++ cur.drop (a + 4)).map bv).toArray := by
  simp only [List.setIfInBounds_toArray]
  congr 1
  have e : cur = cur.take a ++ (cur[a] :: cur[a + 1] :: cur[a + 2] :: cur[a + 3] :: cur.drop (a + 4)) := by
    rw [← List.drop_eq_getElem_cons, ← List.drop_eq_getElem_cons, ← List.drop_eq_getElem_cons, ← List.drop_eq_getElem_cons, List.take_append_drop]
  have hl : (cur.take a).length = a := by simp; omega
  generalize cur.take a = p at *
  generalize cur.drop (a + 4) = q at *
  generalize cur[a] = y0 at *
  generalize cur[a + 1] = y1 at *
  generalize cur[a + 2] = y2 at *
  generalize cur[a + 3] = y3 at *
  subst e
  subst hl
  simp

def PostPut (w : World) (g : Nat) (cs : List UInt8) (t : Nat) (e : Ending) (w' : World) : Prop :=
  e = .returned (.tuple #[]) ∧ w'.heap[g]? = some (.cells (cs.map bv).toArray t (0, 0)) ∧ Keeps (· ≠ g) w w' ∧ w'.heap.size = w.heap.size

set_option maxHeartbeats 1000000 in
theorem putLong_any (w : World) (g n c t : Nat) (cur : List UInt8) (a v : Nat) (hg : w.heap[g]? = some (.cells (cur.map bv).toArray t (0, 0))) (hn : a + 4 ≤ n) (hc : a + 4 ≤ cur.length) (ha : a < 4294967296) (hv : v < 4294967296) :
    Calls Tryd.prog 76 #[.slice (some ⟨g, 0, none⟩) n c, .int .i64 (a : Int), .int .u32 (v : Int)] w (PostPut w g (cur.take a ++ four v ++ cur.drop (a + 4)) t) := by
  have i0 : (0 : Int) ≤ (a : Int) := by omega
  have i1 : (a : Int) < (n : Int) := by omega
  have i2 : (a : Int) + 1 < (n : Int) := by omega
  have i3 : (a : Int) + 2 < (n : Int) := by omega
  have i4 : (a : Int) + 3 < (n : Int) := by omega
  have b1 : IntKind.i64.wrap ((a : Int) + 1) = (a : Int) + 1 := by rw [IntKind.wrap_i64]; omega
  have b2 : IntKind.i64.wrap ((a : Int) + 2) = (a : Int) + 2 := by rw [IntKind.wrap_i64]; omega
  have b3 : IntKind.i64.wrap ((a : Int) + 3) = (a : Int) + 3 := by rw [IntKind.wrap_i64]; omega
  have f0 : ∀ j, w.frozen? ⟨g, j, none⟩ = false := fun j => frozen_of_heap hg
  have cc : ∀ j, j < 4 → ∃ x, w.cell? ⟨g, a + j, none⟩ = some x := fun j hj => by
    rw [cell_of_heap hg]
    have : a + j < (cur.map bv).toArray.size := by simp; omega
    exact ⟨_, Array.getElem?_eq_getElem this⟩
  obtain ⟨x0, c0⟩ := cc 0 (by omega)
  obtain ⟨x1, c1⟩ := cc 1 (by omega)
  obtain ⟨x2, c2⟩ := cc 2 (by omega)
  obtain ⟨x3, c3⟩ := cc 3 (by omega)
  rw [Nat.add_zero] at c0
  have v0 : (.int .u8 ((v : Int) / 16777216 % 256) : Value) = bv (UInt8.ofNat (v / 16777216)) := by rw [bv_ofNat]; congr 1
  have v1 : (.int .u8 ((v : Int) / 65536 % 256) : Value) = bv (UInt8.ofNat (v / 65536)) := by rw [bv_ofNat]; congr 1
  have v2 : (.int .u8 ((v : Int) / 256 % 256) : Value) = bv (UInt8.ofNat (v / 256)) := by rw [bv_ofNat]; congr 1
  have v3 : (.int .u8 ((v : Int) % 256) : Value) = bv (UInt8.ofNat v) := by rw [bv_ofNat]; congr 1
  have fin : ∀ W, W = (((w.setCell ⟨g, a, none⟩ (bv (UInt8.ofNat (v / 16777216)))).setCell ⟨g, a + 1, none⟩ (bv (UInt8.ofNat (v / 65536)))).setCell ⟨g, a + 2, none⟩ (bv (UInt8.ofNat (v / 256)))).setCell ⟨g, a + 3, none⟩ (bv (UInt8.ofNat v)) →
      PostPut w g (cur.take a ++ four v ++ cur.drop (a + 4)) t (.returned (.tuple #[])) W := fun W hW => by
    subst hW
    refine ⟨rfl, ?_, ((((Keeps.refl _ _).setCell (fun _ h => h rfl) _).setCell (fun _ h => h rfl) _).setCell (fun _ h => h rfl) _).setCell (fun _ h => h rfl) _, by simp⟩
    rw [heap_setCell (heap_setCell (heap_setCell (heap_setCell hg _) _) _) _, set4 cur a _ _ _ _ hc]
    rfl
  have FIN := hid fin
  clear fin cc hg hc
  go_enter Tryd.func76, Tryd.ntmps76
  go_wp2
  go_end0
  exact FIN.out _ (by first | rw [v0, v1, v2, v3] | rw [← v0, show (v : Int) / 16777216 % 256 = (v : Int) / 16777216 by omega])

theorem or_u32 {a b : Nat} (ha : a < 4294967296) (hb : b < 4294967296) : bits .or .u32 (a : Int) (b : Int) = ((a ||| b : Nat) : Int) := by
  show IntKind.u32.wrap ((BitVec.ofInt 32 (a : Int) ||| BitVec.ofInt 32 (b : Int)).toNat : Int) = _
  rw [BitVec.toNat_or, ofInt_u32 ha, ofInt_u32 hb, IntKind.wrap_u32]
  have := Nat.or_lt_two_pow (n := 32) ha hb
  omega
theorem or_join {a b k i : Nat} (hk : a = 2 ^ i * k) (hb : b < 2 ^ i) (ha : a + b < 4294967296) : bits .or .u32 (a : Int) (b : Int) = ((a + b : Nat) : Int) := by
  subst hk
  rw [or_u32 (by omega) (by omega), Nat.two_pow_add_eq_or_of_lt hb]

theorem Bts.get {S : Nat → Prop} {w : World} {b o : Nat} {bs : List UInt8} (h : Bts S w (some ⟨b, o, none⟩) bs) {j : Nat} (hj : j < bs.length) : w.cell? ⟨b, o + j, none⟩ = some (.int .u8 ((bs.getD j 0).toNat : Int)) := by
  obtain ⟨b', o', e, _, hc⟩ := h.at_ hj
  injection e with e
  injection e with e1 e2 _
  subst e1 e2
  rw [hc]
  simp [bv, List.getD_eq_getElem?_getD, List.getElem?_eq_getElem hj]
theorem Bts.addr {S : Nat → Prop} {w : World} {A : Option Addr} {bs : List UInt8} (h : Bts S w A bs) (hn : 0 < bs.length) : ∃ b o, A = some ⟨b, o, none⟩ := by
  obtain ⟨b, o, e, _, _⟩ := h.at_ hn
  exact ⟨b, o, e⟩

set_option maxHeartbeats 1000000 in
theorem long_any (w : World) (S : Nat → Prop) (A : Option Addr) (n c : Nat) (bs : List UInt8) (a : Nat) (ha : Bts S w A bs) (hn : n = bs.length) (h4 : a + 4 ≤ n) :
    Calls Tryd.prog 78 #[.slice A n c, .int .i64 (a : Int)] w fun e w' => e = .returned (.int .u32 (num bs a : Nat)) ∧ ∃ m, w.drewN m = w' := by
  subst hn
  have hal := ha.1
  obtain ⟨b, o, rfl⟩ := ha.addr (by omega)
  have c0 := ha.get (j := a) (by omega)
  have c1 := ha.get (j := a + 1) (by omega)
  have c2 := ha.get (j := a + 2) (by omega)
  have c3 := ha.get (j := a + 3) (by omega)
  have i0 : (0 : Int) ≤ (a : Int) := by omega
  have i1 : (a : Int) < (bs.length : Int) := by omega
  have i2 : (a : Int) + 1 < (bs.length : Int) := by omega
  have i3 : (a : Int) + 2 < (bs.length : Int) := by omega
  have i4 : (a : Int) + 3 < (bs.length : Int) := by omega
  have b1 : IntKind.i64.wrap ((a : Int) + 1) = (a : Int) + 1 := by rw [IntKind.wrap_i64]; omega
  have b2 : IntKind.i64.wrap ((a : Int) + 2) = (a : Int) + 2 := by rw [IntKind.wrap_i64]; omega
  have b3 : IntKind.i64.wrap ((a : Int) + 3) = (a : Int) + 3 := by rw [IntKind.wrap_i64]; omega
  have hnum : num bs a = (((bs.getD a 0).toNat * 256 + (bs.getD (a + 1) 0).toNat) * 256 + (bs.getD (a + 2) 0).toNat) * 256 + (bs.getD (a + 3) 0).toNat := rfl
  have t0 := (bs.getD a 0).toNat_lt
  have t1 := (bs.getD (a + 1) 0).toNat_lt
  have t2 := (bs.getD (a + 2) 0).toNat_lt
  have t3 := (bs.getD (a + 3) 0).toNat_lt
  rw [hnum]
  clear hnum
  generalize (bs.getD a 0).toNat = x0 at *
  generalize (bs.getD (a + 1) 0).toNat = x1 at *
  generalize (bs.getD (a + 2) 0).toNat = x2 at *
  generalize (bs.getD (a + 3) 0).toNat = x3 at *
  have o1 : bits .or .u32 ((x0 : Int) * 16777216) ((x1 : Int) * 65536) = ((x0 * 16777216 + x1 * 65536 : Nat) : Int) := by
    have := or_join (a := x0 * 16777216) (b := x1 * 65536) (k := x0) (i := 24) (by omega) (by omega) (by omega)
    simpa using this
  have o2 : bits .or .u32 ((x0 * 16777216 + x1 * 65536 : Nat) : Int) ((x2 : Int) * 256) = ((x0 * 16777216 + x1 * 65536 + x2 * 256 : Nat) : Int) := by
    have := or_join (a := x0 * 16777216 + x1 * 65536) (b := x2 * 256) (k := x0 * 256 + x1) (i := 16) (by omega) (by omega) (by omega)
    simpa using this
  have o3 : bits .or .u32 ((x0 * 16777216 + x1 * 65536 + x2 * 256 : Nat) : Int) (x3 : Int) = ((((x0 * 256 + x1) * 256 + x2) * 256 + x3 : Nat) : Int) := by
    have := or_join (a := x0 * 16777216 + x1 * 65536 + x2 * 256) (b := x3) (k := (x0 * 256 + x1) * 256 + x2) (i := 8) (by omega) (by omega) (by omega)
    rw [this]
    omega
  have O := hid (And.intro o1 (And.intro o2 o3))
  clear o1 o2 o3
  go_enter Tryd.func78, Tryd.ntmps78
  go_wp2
  go_quiet (fail)
  rw [O.out.1, O.out.2.1, O.out.2.2]
  go_wp2
  go_ret
  exact ⟨rfl, nq, rfl⟩
end Go.Proofs.YtdpaaoeipconcaaDoor
