/- A change of one byte, or of the four bytes of a number, changes the sum; what a damaged or turned area reads as. Plain laws, no program in sight. -/
import Derived.Test.YtdpaaoeipconcaaDoorJArea
namespace Go.Proofs.YtdpaaoeipconcaaDoor

theorem xor_cancel {a b : Nat} (h : a ^^^ b = 0) : a = b := by
  have : a ^^^ b ^^^ b = b := by rw [h, Nat.zero_xor]
  rw [Nat.xor_assoc, Nat.xor_self, Nat.xor_zero] at this
  exact this
theorem xor_right {a b c : Nat} (h : a ^^^ c = b ^^^ c) : a = b := by
  have := congrArg (· ^^^ c) h
  simpa [Nat.xor_assoc] using this
theorem xor_left {a b c : Nat} (h : c ^^^ a = c ^^^ b) : a = b := by
  rw [Nat.xor_comm c, Nat.xor_comm c] at h
  exact xor_right h

theorem step1_zero {x : Nat} (hx : x < 4294967296) (h : step1 x = 0) : x = 0 := by
  unfold step1 at h
  split at h
  · have := xor_cancel h
    omega
  · omega
theorem step4_zero {x : Nat} (hx : x < 4294967296) (h : step4 x = 0) : x = 0 :=
  step1_zero hx (step1_zero (step1_lt hx) (step1_zero (step1_lt (step1_lt hx)) (step1_zero (step1_lt (step1_lt (step1_lt hx))) h)))
theorem step4_xor (a b : Nat) : step4 (a ^^^ b) = step4 a ^^^ step4 b := by simp only [step4, step1_xor]
def step8 (x : Nat) : Nat := step4 (step4 x)
theorem step8_xor (a b : Nat) : step8 (a ^^^ b) = step8 a ^^^ step8 b := by simp only [step8, step4_xor]
theorem step8_lt {x : Nat} (h : x < 4294967296) : step8 x < 4294967296 := step4_lt (step4_lt h)
theorem step8_zero {x : Nat} (hx : x < 4294967296) (h : step8 x = 0) : x = 0 := step4_zero hx (step4_zero (step4_lt hx) h)
theorem stepB_eq (r : Nat) (b : UInt8) : stepB r b = step8 (r ^^^ b.toNat) := rfl
theorem stepB_xor (r r' : Nat) (b b' : UInt8) : stepB r b ^^^ stepB r' b' = step8 ((r ^^^ r') ^^^ (b.toNat ^^^ b'.toNat)) := by
  rw [stepB_eq, stepB_eq, ← step8_xor]
  congr 1
  rw [Nat.xor_assoc, Nat.xor_assoc]
  congr 1
  rw [← Nat.xor_assoc, ← Nat.xor_assoc, Nat.xor_comm b.toNat]

theorem crcR_append (a b : List UInt8) (r : Nat) : crcR r (a ++ b) = crcR (crcR r a) b := by simp [crcR, List.foldl_append]
theorem crcR_inj (bs : List UInt8) : ∀ {r r' : Nat}, r < 4294967296 → r' < 4294967296 → crcR r bs = crcR r' bs → r = r' := by
  induction bs with
  | nil => intro r r' _ _ h; exact h
  | cons b bs ih =>
    intro r r' h h' e
    have e1 := ih (stepB_lt h b) (stepB_lt h' b) e
    have hb := b.toNat_lt
    have hx : step8 ((r ^^^ r') ^^^ (b.toNat ^^^ b.toNat)) = 0 := by rw [← stepB_xor, e1, Nat.xor_self]
    rw [Nat.xor_self, Nat.xor_zero] at hx
    exact xor_cancel (step8_zero (Nat.xor_lt_two_pow (n := 32) h h') hx)
theorem byte_xor_lt (a b : UInt8) : a.toNat ^^^ b.toNat < 256 := Nat.xor_lt_two_pow (n := 8) a.toNat_lt b.toNat_lt

/-- One byte changed: another sum. -/
theorem crc_byte {p s : List UInt8} {b b' : UInt8} (h : crc (p ++ b :: s) = crc (p ++ b' :: s)) : b = b' := by
  have h1 := xor_right h
  rw [crcR_append, crcR_append] at h1
  have hp := crcR_lt p (r := 4294967295) (by decide)
  have h2 := crcR_inj s (stepB_lt hp b) (stepB_lt hp b') h1
  have hx : step8 ((crcR 4294967295 p ^^^ crcR 4294967295 p) ^^^ (b.toNat ^^^ b'.toNat)) = 0 := by rw [← stepB_xor, h2, Nat.xor_self]
  rw [Nat.xor_self, Nat.zero_xor] at hx
  have := byte_xor_lt b b'
  exact UInt8.toNat_inj.1 (xor_cancel (step8_zero (by omega) hx))

theorem tab_small : ∀ c, c < 16 → tab[c]! < 268435456 → c = 0 := by decide
theorem step4_small {x : Nat} (hx : x < 4294967296) (h : step4 x < 268435456) : x % 16 = 0 ∧ step4 x = x / 16 := by
  have e := step4_tab x
  have hc : x % 16 < 16 := Nat.mod_lt _ (by decide)
  have ht : tab[x % 16]! = step4 x ^^^ x / 16 := by
    rw [e, Nat.xor_comm (x / 16), Nat.xor_assoc, Nat.xor_self, Nat.xor_zero]
  have hlt : tab[x % 16]! < 268435456 := by
    rw [ht]
    exact Nat.xor_lt_two_pow (n := 28) h (by omega)
  have h0 := tab_small _ hc hlt
  refine ⟨h0, ?_⟩
  rw [e, h0]
  show x / 16 ^^^ 0 = _
  rw [Nat.xor_zero]
theorem step8_small {x : Nat} (hx : x < 4294967296) (h : step8 x < 16777216) : x % 256 = 0 ∧ step8 x = x / 256 := by
  obtain ⟨h1, h2⟩ := step4_small (step4_lt hx) (show step4 (step4 x) < 268435456 by unfold step8 at h; omega)
  unfold step8 at h ⊢
  rw [h2] at h
  obtain ⟨h3, h4⟩ := step4_small hx (by omega)
  rw [h2]
  rw [h4] at h1 ⊢
  omega

/-- Four bytes changed: another sum. -/
theorem crc_four {p s : List UInt8} {a b : Nat} (ha : a < 4294967296) (hb : b < 4294967296) (h : crc (p ++ four a ++ s) = crc (p ++ four b ++ s)) : a = b := by
  have h1 := xor_right h
  rw [crcR_append, crcR_append, crcR_append, crcR_append] at h1
  have hp := crcR_lt p (r := 4294967295) (by decide)
  have h2 := crcR_inj s (crcR_lt _ hp) (crcR_lt _ hp) h1
  generalize crcR 4294967295 p = r at *
  have key : four a = four b := by
    unfold four at h2 ⊢
    generalize UInt8.ofNat (a / 16777216) = x0 at *
    generalize UInt8.ofNat (a / 65536) = x1 at *
    generalize UInt8.ofNat (a / 256) = x2 at *
    generalize UInt8.ofNat a = x3 at *
    generalize UInt8.ofNat (b / 16777216) = y0 at *
    generalize UInt8.ofNat (b / 65536) = y1 at *
    generalize UInt8.ofNat (b / 256) = y2 at *
    generalize UInt8.ofNat b = y3 at *
    change stepB (stepB (stepB (stepB r x0) x1) x2) x3 = stepB (stepB (stepB (stepB r y0) y1) y2) y3 at h2
    have l0 := byte_xor_lt x0 y0
    have l1 := byte_xor_lt x1 y1
    have l2 := byte_xor_lt x2 y2
    have l3 := byte_xor_lt x3 y3
    have e1 := stepB_xor r r x0 y0
    have e2 := stepB_xor (stepB r x0) (stepB r y0) x1 y1
    have e3 := stepB_xor (stepB (stepB r x0) x1) (stepB (stepB r y0) y1) x2 y2
    have e4 := stepB_xor (stepB (stepB (stepB r x0) x1) x2) (stepB (stepB (stepB r y0) y1) y2) x3 y3
    rw [h2, Nat.xor_self] at e4
    rw [Nat.xor_self, Nat.zero_xor] at e1
    obtain ⟨d0, q0⟩ : ∃ d, d = x0.toNat ^^^ y0.toNat := ⟨_, rfl⟩
    obtain ⟨d1, q1⟩ : ∃ d, d = x1.toNat ^^^ y1.toNat := ⟨_, rfl⟩
    obtain ⟨d2, q2⟩ : ∃ d, d = x2.toNat ^^^ y2.toNat := ⟨_, rfl⟩
    obtain ⟨d3, q3⟩ : ∃ d, d = x3.toNat ^^^ y3.toNat := ⟨_, rfl⟩
    rw [← q0] at e1 l0
    rw [← q1] at e2 l1
    rw [← q2] at e3 l2
    rw [← q3] at e4 l3
    rw [e1] at e2
    rw [e2] at e3
    rw [e3] at e4
    clear e1 e2 e3 h1 h2 h
    have b1 : step8 d0 < 4294967296 := step8_lt (by omega)
    have b1x : step8 d0 ^^^ d1 < 4294967296 := Nat.xor_lt_two_pow (n := 32) b1 (by omega)
    have b2 := step8_lt b1x
    have b2x : step8 (step8 d0 ^^^ d1) ^^^ d2 < 4294967296 := Nat.xor_lt_two_pow (n := 32) b2 (by omega)
    have b3 := step8_lt b2x
    have b3x : step8 (step8 (step8 d0 ^^^ d1) ^^^ d2) ^^^ d3 < 4294967296 := Nat.xor_lt_two_pow (n := 32) b3 (by omega)
    have z3 := xor_cancel (step8_zero b3x e4.symm)
    obtain ⟨_, s2⟩ := step8_small b2x (by rw [z3]; omega)
    rw [z3] at s2
    have c2 : step8 (step8 d0 ^^^ d1) < 65536 := by
      have hh : step8 (step8 d0 ^^^ d1) = (step8 (step8 d0 ^^^ d1) ^^^ d2) ^^^ d2 := by rw [Nat.xor_assoc, Nat.xor_self, Nat.xor_zero]
      rw [hh]
      exact Nat.xor_lt_two_pow (n := 16) (by omega) (by omega)
    obtain ⟨_, s1⟩ := step8_small b1x (by omega)
    have c1 : step8 d0 < 16777216 := by
      have hh : step8 d0 = (step8 d0 ^^^ d1) ^^^ d1 := by rw [Nat.xor_assoc, Nat.xor_self, Nat.xor_zero]
      rw [hh]
      exact Nat.xor_lt_two_pow (n := 24) (by omega) (by omega)
    obtain ⟨m0, _⟩ := step8_small (x := d0) (by omega) c1
    have w0 : d0 = 0 := by omega
    have k0 : step8 0 = 0 := by decide
    rw [w0, k0, Nat.zero_xor] at c2 z3
    obtain ⟨m1, _⟩ := step8_small (x := d1) (by omega) (by omega)
    have w1 : d1 = 0 := by omega
    rw [w1, k0, Nat.zero_xor] at z3
    obtain ⟨m2, _⟩ := step8_small (x := d2) (by omega) (by omega)
    have w2 : d2 = 0 := by omega
    rw [w2, k0] at z3
    have i0 := UInt8.toNat_inj.1 (xor_cancel (q0.symm.trans w0))
    have i1 := UInt8.toNat_inj.1 (xor_cancel (q1.symm.trans w1))
    have i2 := UInt8.toNat_inj.1 (xor_cancel (q2.symm.trans w2))
    have i3 := UInt8.toNat_inj.1 (xor_cancel (q3.symm.trans z3.symm))
    rw [i0, i1, i2, i3]
  have ea := num_four ha []
  have eb := num_four hb []
  rw [← ea, ← eb, key]

theorem seal_number {gen i j n s : Nat} (hi : i < 4294967296) (hj : j < 4294967296) (h : sealN gen i n s = sealN gen j n s) : i = j := crc_four hi hj h
end Go.Proofs.YtdpaaoeipconcaaDoor
