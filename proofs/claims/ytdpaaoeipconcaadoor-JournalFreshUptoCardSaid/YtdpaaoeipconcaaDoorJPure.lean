/- The journal's bytes in plain lists: the sum, a head, a frame, how an area reads, what lies on a disk. Plain definitions and laws; no conditions beyond those written. -/
import Derived.Test.YtdpaaoeipconcaaDoorABase
namespace Go.Proofs.YtdpaaoeipconcaaDoor

/-! ### the sum -/

/-- one bit of the sum -/
def step1 (r : Nat) : Nat := if r % 2 = 1 then r / 2 ^^^ 3988292384 else r / 2
def step4 (r : Nat) : Nat := step1 (step1 (step1 (step1 r)))
def stepB (r : Nat) (b : UInt8) : Nat := step4 (step4 (r ^^^ b.toNat))
def crcR (r : Nat) (bs : List UInt8) : Nat := bs.foldl stepB r
def crc (bs : List UInt8) : Nat := crcR 4294967295 bs ^^^ 4294967295

theorem step1_eq (r : Nat) : step1 r = r / 2 ^^^ (if r % 2 = 1 then 3988292384 else 0) := by
  unfold step1
  split <;> simp

theorem step1_xor (a b : Nat) : step1 (a ^^^ b) = step1 a ^^^ step1 b := by
  have h2 : (a ^^^ b) / 2 = a / 2 ^^^ b / 2 := Nat.xor_div_two
  have hm : (a ^^^ b) % 2 = (a % 2 + b % 2) % 2 := by
    have : (a ^^^ b) % 2 = a % 2 ^^^ b % 2 := Nat.xor_mod_two_pow (n := 1)
    rw [this]
    rcases Nat.mod_two_eq_zero_or_one a with h | h <;> rcases Nat.mod_two_eq_zero_or_one b with h' | h' <;> rw [h, h'] <;> rfl
  rw [step1_eq, step1_eq, step1_eq, h2, hm]
  have c : ∀ x y p : Nat, x ^^^ p ^^^ (y ^^^ p) = x ^^^ y := fun x y p => by
    rw [Nat.xor_assoc, Nat.xor_comm y p, ← Nat.xor_assoc p, Nat.xor_self, Nat.zero_xor]
  have d : ∀ x y p : Nat, x ^^^ p ^^^ y = x ^^^ y ^^^ p := fun x y p => by
    rw [Nat.xor_assoc, Nat.xor_comm p y, Nat.xor_assoc]
  rcases Nat.mod_two_eq_zero_or_one a with h | h <;> rcases Nat.mod_two_eq_zero_or_one b with h' | h' <;> rw [h, h'] <;> simp [c, d, Nat.xor_assoc]

theorem step1_lt {r : Nat} (h : r < 4294967296) : step1 r < 4294967296 := by
  unfold step1
  split
  · exact Nat.xor_lt_two_pow (n := 32) (by omega) (by decide)
  · omega
theorem step4_lt {r : Nat} (h : r < 4294967296) : step4 r < 4294967296 := step1_lt (step1_lt (step1_lt (step1_lt h)))
theorem stepB_lt {r : Nat} (h : r < 4294967296) (b : UInt8) : stepB r b < 4294967296 := step4_lt (step4_lt (Nat.xor_lt_two_pow (n := 32) h (by have := b.toNat_lt; omega)))
theorem crcR_lt (bs : List UInt8) : ∀ {r : Nat}, r < 4294967296 → crcR r bs < 4294967296 := by
  induction bs with
  | nil => intro r h; exact h
  | cons b bs ih => intro r h; exact ih (stepB_lt h b)
theorem crc_lt (bs : List UInt8) : crc bs < 4294967296 := Nat.xor_lt_two_pow (n := 32) (crcR_lt bs (by decide)) (by decide)

/-- what a half of a byte adds -/
def tab : List Nat := [0, 498536548, 997073096, 651767980, 1994146192, 1802195444, 1303535960, 1342533948, 3988292384, 4027552580, 3604390888, 3412177804, 2607071920, 2262029012, 2685067896, 3183342108]

theorem step4_tab (r : Nat) : step4 r = r / 16 ^^^ tab[r % 16]! := by
  have e : step4 r = r / 16 ^^^ (if r / 8 % 2 = 1 then 3988292384 else 0) ^^^ step1 (if r / 4 % 2 = 1 then 3988292384 else 0) ^^^ step1 (step1 (if r / 2 % 2 = 1 then 3988292384 else 0)) ^^^ step1 (step1 (step1 (if r % 2 = 1 then 3988292384 else 0))) := by
    unfold step4
    rw [step1_eq r, step1_xor, step1_eq (r / 2), step1_xor, step1_xor, step1_xor, step1_eq (r / 2 / 2), step1_xor, step1_xor, step1_eq (r / 2 / 2 / 2)]
    rw [show r / 2 / 2 / 2 / 2 = r / 16 by omega, show r / 2 / 2 / 2 = r / 8 by omega, show r / 2 / 2 = r / 4 by omega]
  rw [e]
  have hc : r % 16 = r % 2 + 2 * (r / 2 % 2) + 4 * (r / 4 % 2) + 8 * (r / 8 % 2) := by omega
  rw [hc]
  generalize r / 16 = q
  rcases Nat.mod_two_eq_zero_or_one r with h0 | h0 <;> rcases Nat.mod_two_eq_zero_or_one (r / 2) with h1 | h1 <;> rcases Nat.mod_two_eq_zero_or_one (r / 4) with h2 | h2 <;> rcases Nat.mod_two_eq_zero_or_one (r / 8) with h3 | h3 <;>
    rw [h0, h1, h2, h3] <;> rw [Nat.xor_assoc, Nat.xor_assoc, Nat.xor_assoc] <;> congr 1

/-! ### numbers of four bytes -/

def four (n : Nat) : List UInt8 := [UInt8.ofNat (n / 16777216), UInt8.ofNat (n / 65536), UInt8.ofNat (n / 256), UInt8.ofNat n]
def num (b : List UInt8) (i : Nat) : Nat := (((b.getD i 0).toNat * 256 + (b.getD (i + 1) 0).toNat) * 256 + (b.getD (i + 2) 0).toNat) * 256 + (b.getD (i + 3) 0).toNat

@[simp] theorem four_length (n : Nat) : (four n).length = 4 := rfl
theorem num_lt (b : List UInt8) (i : Nat) : num b i < 4294967296 := by
  unfold num
  have h0 := (b.getD i 0).toNat_lt
  have h1 := (b.getD (i + 1) 0).toNat_lt
  have h2 := (b.getD (i + 2) 0).toNat_lt
  have h3 := (b.getD (i + 3) 0).toNat_lt
  omega
theorem ofNat_eq (x : UInt8) (n : Nat) (h : n % 256 = x.toNat) : UInt8.ofNat n = x := by
  apply UInt8.toNat_inj.1
  simpa using h
theorem four_num (b : List UInt8) (i : Nat) (h : i + 4 ≤ b.length) : four (num b i) = (b.drop i).take 4 := by
  have e : (b.drop i).take 4 = [b.getD i 0, b.getD (i + 1) 0, b.getD (i + 2) 0, b.getD (i + 3) 0] := by
    apply List.ext_getElem
    · simp; omega
    · intro j hj hj'
      have hj4 : j < 4 := by simpa using hj'
      have : j = 0 ∨ j = 1 ∨ j = 2 ∨ j = 3 := by omega
      rcases this with rfl | rfl | rfl | rfl <;> simp [List.getD_eq_getElem?_getD, show i < b.length by omega, show i + 1 < b.length by omega, show i + 2 < b.length by omega, show i + 3 < b.length by omega]
  rw [e]
  unfold four num
  have h0 := (b.getD i 0).toNat_lt
  have h1 := (b.getD (i + 1) 0).toNat_lt
  have h2 := (b.getD (i + 2) 0).toNat_lt
  have h3 := (b.getD (i + 3) 0).toNat_lt
  rw [ofNat_eq (b.getD i 0) _ (by omega), ofNat_eq (b.getD (i + 1) 0) _ (by omega), ofNat_eq (b.getD (i + 2) 0) _ (by omega), ofNat_eq (b.getD (i + 3) 0) _ (by omega)]
theorem num_four {n : Nat} (h : n < 4294967296) (r : List UInt8) : num (four n ++ r) 0 = n := by
  unfold num four
  simp [List.getD_eq_getElem?_getD]
  omega

/-! ### a head, a frame -/

def headB (gen base : Nat) : List UInt8 := [119, 101, 102, 116] ++ four gen ++ four base ++ four (crc ([119, 101, 102, 116] ++ four gen ++ four base))
def sealN (gen at_ n s : Nat) : Nat := crc (four gen ++ four at_ ++ (four n ++ four s))
def frameB (gen at_ : Nat) (rec : List UInt8) : List UInt8 := four rec.length ++ four (crc rec) ++ four (sealN gen at_ rec.length (crc rec)) ++ rec

@[simp] theorem headB_length (gen base : Nat) : (headB gen base).length = 16 := rfl
@[simp] theorem frameB_length (gen at_ : Nat) (rec : List UInt8) : (frameB gen at_ rec).length = 12 + rec.length := by simp [frameB]; omega

/-! ### how an area reads -/

/-- An area: its state (0 short, 1 spoilt, 2 torn, 3 whole), its generation, its records, its end. -/
structure Ar where
  state : Nat
  gen : Nat
  recs : List (List UInt8)
  end_ : Nat

def Ar.short : Ar := ⟨0, 0, [], 0⟩
def Ar.spoilt : Ar := ⟨1, 0, [], 0⟩
def Ar.torn : Ar := ⟨2, 0, [], 0⟩

/-- behind the frames up to e -/
def scanL (b : List UInt8) (gen base : Nat) (recs : List (List UInt8)) (e : Nat) (met : Bool) : Ar :=
  if e + 12 ≤ b.length then
    if num b (e + 8) ≠ sealN gen recs.length (num b e) (num b (e + 4)) ∨ 65536 < num b e then .spoilt
    else if b.length < e + 12 + num b e then (if met then ⟨3, gen, recs, e⟩ else .spoilt)
    else if crc ((b.drop (e + 12)).take (num b e)) ≠ num b (e + 4) then .spoilt
    else scanL b gen base (recs ++ [(b.drop (e + 12)).take (num b e)]) (e + 12 + num b e) (met || (e + 12 + num b e == base))
  else if met then ⟨3, gen, recs, e⟩ else .spoilt
termination_by b.length - e
decreasing_by omega

def readA (b : List UInt8) : Ar :=
  if b.length < 16 then .short
  else if 1048576 < b.length ∨ b.take 4 ≠ [119, 101, 102, 116] ∨ num b 12 ≠ crc (b.take 12) ∨ 1048560 < num b 8 then .spoilt
  else if b.length < 16 + num b 8 then .torn
  else scanL b (num b 4) (16 + num b 8) [] 16 (decide (16 = 16 + num b 8))

/-! ### a journal -/

/-- A write: the area, the place, the bytes. -/
structure Wr where
  area : Nat
  at_ : Nat
  bytes : List UInt8

structure Jn where
  dA : List UInt8
  dB : List UInt8
  ws : List Wr
  cur : Nat
  gen : Nat
  nr : Nat
  end_ : Nat

abbrev Dk := List UInt8 × List UInt8

def lay (d : Dk) (x : Wr) : Dk := if x.area = 0 then (d.1.take x.at_ ++ x.bytes, d.2) else (d.1, d.2.take x.at_ ++ x.bytes)
def dirtyN (ws : List Wr) : Nat := (ws.map fun x => x.bytes.length).sum
def crashD : List Wr → Int → Dk → Dk
  | [], _, d => d
  | x :: ws, keep, d => if keep ≤ 0 then d else crashD ws (keep - (min keep x.bytes.length)) (lay d ⟨x.area, x.at_, x.bytes.take keep.toNat⟩)
def layAll (ws : List Wr) (d : Dk) : Dk := ws.foldl lay d

theorem crashD_all (ws : List Wr) (hne : ∀ x ∈ ws, x.bytes ≠ []) : ∀ d, crashD ws (dirtyN ws) d = layAll ws d := by
  induction ws with
  | nil => intro d; rfl
  | cons x ws ih =>
    intro d
    have hx : 0 < x.bytes.length := List.length_pos_iff.2 (hne x (List.mem_cons_self ..))
    have e : dirtyN (x :: ws) = x.bytes.length + dirtyN ws := by simp [dirtyN]
    rw [crashD, e, if_neg (by omega), show ((x.bytes.length + dirtyN ws : Nat) : Int) - min ((x.bytes.length + dirtyN ws : Nat) : Int) x.bytes.length = dirtyN ws by omega, ih (fun y hy => hne y (List.mem_cons_of_mem _ hy)),
      List.take_of_length_le (by omega)]
    rfl

/-- Each write begins where something lies, and is not empty. -/
def Fits : List Wr → Dk → Prop
  | [], _ => True
  | x :: ws, d => x.area ≤ 1 ∧ x.bytes ≠ [] ∧ x.at_ ≤ (if x.area = 0 then d.1 else d.2).length ∧ Fits ws (lay d x)

/-- What Open answers: an error, or a journal and its records. -/
def openJ (d : Dk) : Option (Jn × List (List UInt8)) :=
  let a := readA d.1
  let b := readA d.2
  if a.state = 1 ∨ b.state = 1 then none
  else if a.state ≠ 3 ∧ b.state ≠ 3 then
    if a.state = 2 ∨ b.state = 2 then none
    else some (⟨d.1, d.2, [⟨0, 0, headB 1 0⟩], 0, 1, 0, 16⟩, [])
  else if a.state ≠ 3 ∨ (b.state = 3 ∧ 2147483648 ≤ (a.gen + 4294967296 - b.gen) % 4294967296) then some (⟨d.1, d.2, [], 1, b.gen, b.recs.length, b.end_⟩, b.recs)
  else some (⟨d.1, d.2, [], 0, a.gen, a.recs.length, a.end_⟩, a.recs)

/-- What Append answers, and the journal behind it. -/
def appendJ (j : Jn) (rec : List UInt8) : Nat × Jn :=
  if 65536 < rec.length then (2, j)
  else if 1048576 < j.end_ + 12 + rec.length then (4, j)
  else (0, { j with ws := j.ws ++ [⟨j.cur, j.end_, frameB j.gen j.nr rec⟩], end_ := j.end_ + 12 + rec.length, nr := j.nr + 1 })

def framesB (gen : Nat) : Nat → List (List UInt8) → List UInt8
  | _, [] => []
  | i, r :: rs => frameB gen i r ++ framesB gen (i + 1) rs
def sizeF (recs : List (List UInt8)) : Nat := (recs.map fun r => 12 + r.length).sum

/-- What Rewrite answers, and the journal behind it. -/
def rewriteJ (j : Jn) (recs : List (List UInt8)) : Nat × Jn :=
  if ∃ r ∈ recs, 65536 < r.length then (2, j)
  else if 1048576 < 16 + sizeF recs then (4, j)
  else (0, { j with ws := j.ws ++ [⟨1 - j.cur, 0, headB ((j.gen + 1) % 4294967296) (sizeF recs) ++ framesB ((j.gen + 1) % 4294967296) 0 recs⟩], cur := 1 - j.cur, gen := (j.gen + 1) % 4294967296, nr := recs.length, end_ := 16 + sizeF recs })

def crashJ (j : Jn) (keep : Int) : Dk := crashD j.ws keep (j.dA, j.dB)
def syncJ (j : Jn) : Jn := { j with dA := (layAll j.ws (j.dA, j.dB)).1, dB := (layAll j.ws (j.dA, j.dB)).2, ws := [] }
end Go.Proofs.YtdpaaoeipconcaaDoor
