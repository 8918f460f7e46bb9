/- How an area that was written reads, whole or cut anywhere: the records whose frames are whole. Plain laws over the journal's bytes, no program in sight. -/
import Derived.Test.YtdpaaoeipconcaaDoorJRewP
namespace Go.Proofs.YtdpaaoeipconcaaDoor

theorem num_drop (b : List UInt8) (e i : Nat) : num (b.drop e) i = num b (e + i) := by
  unfold num
  simp only [List.getD_eq_getElem?_getD, List.getElem?_drop, Nat.add_assoc]
theorem num_first {b r : List UInt8} {e n : Nat} (h : b.drop e = four n ++ r) (hn : n < 4294967296) : num b e = n := by
  have := num_drop b e 0
  rw [h, num_four hn] at this
  exact this.symm
theorem drop_four {b r : List UInt8} {e n : Nat} (h : b.drop e = four n ++ r) : b.drop (e + 4) = r := by
  rw [← List.drop_drop, h]
  rfl

/-- What a frame's first twelve bytes say. -/
theorem frame_nums {b r : List UInt8} {e gen at_ n s q : Nat} (h : b.drop e = four n ++ (four s ++ (four q ++ r))) (hn : n < 4294967296) (hs : s < 4294967296) (hq : q < 4294967296) :
    num b e = n ∧ num b (e + 4) = s ∧ num b (e + 8) = q ∧ b.drop (e + 12) = r ∧ gen = gen ∧ at_ = at_ := by
  have h4 := drop_four h
  have h8 := drop_four h4
  have h12 := drop_four h8
  rw [Nat.add_assoc] at h8 h12
  exact ⟨num_first h hn, num_first h4 hs, num_first h8 hq, h12, rfl, rfl⟩

theorem frameB_eq (gen at_ : Nat) (rec r : List UInt8) : frameB gen at_ rec ++ r = four rec.length ++ (four (crc rec) ++ (four (sealN gen at_ rec.length (crc rec)) ++ (rec ++ r))) := by simp [frameB]

theorem sealN_lt (a b c d : Nat) : sealN a b c d < 4294967296 := crc_lt _

/-- A whole frame is read. -/
theorem scan_frame {b rest : List UInt8} {gen base e : Nat} {recs : List (List UInt8)} {met : Bool} {rec : List UInt8} (hd : b.drop e = frameB gen recs.length rec ++ rest) (hl : rec.length ≤ 65536) :
    scanL b gen base recs e met = scanL b gen base (recs ++ [rec]) (e + 12 + rec.length) (met || (e + 12 + rec.length == base)) := by
  have hlen := congrArg List.length hd
  rw [List.length_drop, List.length_append, frameB_length] at hlen
  rw [frameB_eq] at hd
  obtain ⟨h0, h4, h8, h12, _, _⟩ := frame_nums (gen := 0) (at_ := 0) hd (by omega) (crc_lt _) (sealN_lt ..)
  have hrec : (b.drop (e + 12)).take rec.length = rec := by rw [h12, List.take_left']; rfl
  rw [scanL, if_pos (by omega), h0, h4, h8, if_neg (by omega), if_neg (by omega), hrec, if_neg (by simp)]

/-- A frame that is cut ends the reading. -/
theorem scan_stop {b : List UInt8} {gen base e k : Nat} {recs : List (List UInt8)} {met : Bool} {rec : List UInt8} (hd : b.drop e = (frameB gen recs.length rec).take k) (hk : k < 12 + rec.length) (hl : rec.length ≤ 65536) :
    scanL b gen base recs e met = if met then ⟨3, gen, recs, e⟩ else .spoilt := by
  have hlen := congrArg List.length hd
  rw [List.length_drop, List.length_take, frameB_length, Nat.min_eq_left (Nat.le_of_lt hk)] at hlen
  by_cases h : k < 12
  · rw [scanL, if_neg (by omega)]
  · have hfe := frameB_eq gen recs.length rec []
    rw [List.append_nil, List.append_nil] at hfe
    have ht : (frameB gen recs.length rec).take k = four rec.length ++ (four (crc rec) ++ (four (sealN gen recs.length rec.length (crc rec)) ++ rec.take (k - 12))) := by
      rw [hfe, List.take_append, List.take_append, List.take_append]
      simp only [four_length]
      rw [List.take_of_length_le (by simp; omega), List.take_of_length_le (by simp; omega), List.take_of_length_le (by simp; omega), show k - 4 - 4 - 4 = k - 12 by omega]
    rw [ht] at hd
    obtain ⟨h0, h4, h8, h12, _, _⟩ := frame_nums (gen := 0) (at_ := 0) hd (by omega) (crc_lt _) (sealN_lt ..)
    rw [scanL, if_pos (by omega), h0, h4, h8, if_neg (by omega), if_pos (by omega)]

/-- Does a frame end at the base? -/
def metIn (base : Nat) : Nat → List (List UInt8) → Bool
  | _, [] => false
  | e, r :: rs => (e + 12 + r.length == base) || metIn base (e + 12 + r.length) rs

theorem metIn_base (base : Nat) : ∀ (rs rs' : List (List UInt8)) (e : Nat), rs ≠ [] → e + sizeF rs = base → metIn base e (rs ++ rs') = true
  | [], _, _, h, _ => absurd rfl h
  | [r], rs', e, _, he => by
    simp [metIn, sizeF] at he ⊢
    left; omega
  | r :: r2 :: rs, rs', e, _, he => by
    rw [List.cons_append, metIn, metIn_base base (r2 :: rs) rs' _ (by simp) (by simp [sizeF] at he ⊢; omega)]
    simp

theorem scan_frames {b : List UInt8} {gen base : Nat} : ∀ (rs recs : List (List UInt8)) (e : Nat) (met : Bool) (tail : List UInt8), b.drop e = framesB gen recs.length rs ++ tail → (∀ r ∈ rs, r.length ≤ 65536) →
    scanL b gen base recs e met = scanL b gen base (recs ++ rs) (e + sizeF rs) (met || metIn base e rs)
  | [], recs, e, met, tail, _, _ => by simp [sizeF, metIn]
  | r :: rs, recs, e, met, tail, hd, hr => by
    have hrl := hr r (List.mem_cons_self ..)
    rw [framesB, List.append_assoc] at hd
    rw [scan_frame hd hrl]
    have hd2 : b.drop (e + 12 + r.length) = framesB gen (recs ++ [r]).length rs ++ tail := by
      rw [Nat.add_assoc, ← List.drop_drop, hd, List.length_append]
      exact List.drop_left' (by rw [frameB_length])
    rw [scan_frames rs (recs ++ [r]) _ _ tail hd2 (fun x hx => hr x (List.mem_cons_of_mem _ hx))]
    rw [List.append_assoc, metIn, Bool.or_assoc]
    have : e + 12 + r.length + sizeF rs = e + sizeF (r :: rs) := by simp [sizeF]; omega
    rw [this]
    rfl

/-- An area as it is written: its base and what came behind. -/
def areaB (g : Nat) (base more : List (List UInt8)) : List UInt8 := headB g (sizeF base) ++ framesB g 0 (base ++ more)

theorem areaB_length (g : Nat) (base more : List (List UInt8)) : (areaB g base more).length = 16 + sizeF (base ++ more) := by rw [areaB, List.length_append, headB_length, framesB_length]
theorem framesB_append (gen : Nat) : ∀ (a b : List (List UInt8)) (i : Nat), framesB gen i (a ++ b) = framesB gen i a ++ framesB gen (i + a.length) b
  | [], b, i => by simp [framesB]
  | x :: a, b, i => by
    rw [List.cons_append, framesB, framesB, framesB_append gen a b (i + 1), List.append_assoc, List.length_cons, show i + 1 + a.length = i + (a.length + 1) by omega]

/-- The head of an area, and what lies behind it. -/
theorem head_nums (g n : Nat) (r : List UInt8) (hg : g < 4294967296) (hn : n < 4294967296) :
    (headB g n ++ r).take 4 = [119, 101, 102, 116] ∧ num (headB g n ++ r) 4 = g ∧ num (headB g n ++ r) 8 = n ∧ num (headB g n ++ r) 12 = crc ((headB g n ++ r).take 12) ∧ (headB g n ++ r).drop 16 = r := by
  have e4 : (headB g n ++ r).drop 4 = four g ++ (four n ++ (four (crc ([119, 101, 102, 116] ++ four g ++ four n)) ++ r)) := rfl
  have e8 := drop_four e4
  have e12 := drop_four e8
  have ht : (headB g n ++ r).take 12 = [119, 101, 102, 116] ++ four g ++ four n := rfl
  refine ⟨rfl, num_first e4 hg, num_first e8 hn, ?_, drop_four e12⟩
  rw [ht]
  exact num_first e12 (crc_lt _)

/-- An area that was cut behind its base has the records whose frames are whole. -/
theorem readA_cut {g n : Nat} {base m1 m2 : List (List UInt8)} (hg : g < 4294967296) (hsz : 16 + sizeF (base ++ (m1 ++ m2)) ≤ 1048576) (hr : ∀ r ∈ base ++ (m1 ++ m2), r.length ≤ 65536) (h1 : 16 + sizeF (base ++ m1) ≤ n)
    (h2 : ∀ r rs, m2 = r :: rs → n < 16 + sizeF (base ++ m1) + (12 + r.length)) : readA ((areaB g base (m1 ++ m2)).take n) = ⟨3, g, base ++ m1, 16 + sizeF (base ++ m1)⟩ := by
  have hs := sizeF_append (base ++ m1) m2
  rw [List.append_assoc] at hs
  have hs1 := sizeF_append base m1
  have hal := areaB_length g base (m1 ++ m2)
  -- the bytes
  obtain ⟨rec, k, hk, hrl, htail⟩ : ∃ rec k, k < 12 + rec.length ∧ rec.length ≤ 65536 ∧ (framesB g (base ++ m1).length m2).take (n - (16 + sizeF (base ++ m1))) = (frameB g (base ++ m1).length rec).take k := by
    cases m2 with
    | nil => exact ⟨[], 0, by omega, by simp, by simp [framesB]⟩
    | cons r rs =>
      have h3 := h2 r rs rfl
      refine ⟨r, n - (16 + sizeF (base ++ m1)), by omega, hr r (by simp), ?_⟩
      rw [framesB, List.take_append_of_le_length (by rw [frameB_length]; omega)]
  have hX : (areaB g base (m1 ++ m2)).take n = headB g (sizeF base) ++ (framesB g 0 (base ++ m1) ++ (frameB g (base ++ m1).length rec).take k) := by
    rw [← htail, areaB, ← List.append_assoc base, framesB_append, Nat.zero_add, List.take_append, headB_length, List.take_of_length_le (by rw [headB_length]; omega), List.take_append, framesB_length,
      List.take_of_length_le (by rw [framesB_length]; omega), show n - 16 - sizeF (base ++ m1) = n - (16 + sizeF (base ++ m1)) by omega]
  have hXl := congrArg List.length hX
  rw [List.length_take, hal] at hXl
  rw [hX]
  obtain ⟨a1, a2, a3, a4, a5⟩ := head_nums g (sizeF base) (framesB g 0 (base ++ m1) ++ (frameB g (base ++ m1).length rec).take k) hg (by omega)
  generalize hb : headB g (sizeF base) ++ (framesB g 0 (base ++ m1) ++ (frameB g (base ++ m1).length rec).take k) = b at *
  rw [readA, if_neg (by omega), if_neg (by rw [a1, ← a4, a3]; simp; omega), a3, if_neg (by omega), a2]
  rw [scan_frames (base ++ m1) [] 16 _ _ a5 (fun r h => hr r (by simp at h ⊢; rcases h with h | h <;> simp [h]))]
  rw [List.nil_append]
  have hd : b.drop (16 + sizeF (base ++ m1)) = (frameB g (base ++ m1).length rec).take k := by
    rw [← List.drop_drop, a5]
    exact List.drop_left' (by rw [framesB_length])
  rw [scan_stop hd hk hrl, if_pos]
  by_cases he : base = []
  · subst he
    simp [sizeF]
  · rw [metIn_base _ base m1 16 he rfl]
    simp

/-- An area that was cut in its base is torn. -/
theorem readA_torn {g n : Nat} {base more : List (List UInt8)} (hg : g < 4294967296) (hsz : 16 + sizeF (base ++ more) ≤ 1048576) (h1 : 16 ≤ n) (h2 : n < 16 + sizeF base) : readA ((areaB g base more).take n) = .torn := by
  have hs1 := sizeF_append base more
  have hal := areaB_length g base more
  have hX : (areaB g base more).take n = headB g (sizeF base) ++ (framesB g 0 (base ++ more)).take (n - 16) := by
    rw [areaB, List.take_append, headB_length, List.take_of_length_le (by rw [headB_length]; omega)]
  have hXl := congrArg List.length hX
  rw [List.length_take, hal] at hXl
  rw [hX]
  obtain ⟨a1, a2, a3, a4, a5⟩ := head_nums g (sizeF base) ((framesB g 0 (base ++ more)).take (n - 16)) hg (by omega)
  generalize hb : headB g (sizeF base) ++ (framesB g 0 (base ++ more)).take (n - 16) = b at *
  rw [readA, if_neg (by omega), if_neg (by rw [a1, ← a4, a3]; simp; omega), a3, if_pos (by omega)]

theorem readA_short {b : List UInt8} (h : b.length < 16) : readA b = .short := by rw [readA, if_pos h]

/-- An area as it was written. -/
theorem readA_whole {g : Nat} {base more : List (List UInt8)} (hg : g < 4294967296) (hsz : 16 + sizeF (base ++ more) ≤ 1048576) (hr : ∀ r ∈ base ++ more, r.length ≤ 65536) : readA (areaB g base more) = ⟨3, g, base ++ more, 16 + sizeF (base ++ more)⟩ := by
  have h := readA_cut (g := g) (n := 16 + sizeF (base ++ more)) (base := base) (m1 := more) (m2 := []) hg (by simpa using hsz) (by simpa using hr) (Nat.le_refl _) (by simp)
  rw [List.append_nil, List.take_of_length_le (by rw [areaB_length]; exact Nat.le_refl _)] at h
  exact h
end Go.Proofs.YtdpaaoeipconcaaDoor
