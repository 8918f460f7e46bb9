/- One byte changed in an area is told; a frame under a wrong number is told. Plain laws, no program in sight. -/
import Derived.Test.YtdpaaoeipconcaaDoorJCrc
namespace Go.Proofs.YtdpaaoeipconcaaDoor

/-! ### a frame under a wrong number -/

/-- Frames, then one whose number is not its place's: spoilt. -/
theorem read_wrong {g k : Nat} {rs : List (List UInt8)} {rec R : List UInt8} (hg : g < 4294967296) (hr : ∀ r ∈ rs, r.length ≤ 65536) (hl : rec.length ≤ 65536) (hk : k < 4294967296) (hn : rs.length < 4294967296) (hne : k ≠ rs.length) :
    readA (headB g 0 ++ (framesB g 0 rs ++ (frameB g k rec ++ R))) = .spoilt := by
  obtain ⟨a1, a2, a3, a4, a5⟩ := head_nums g 0 (framesB g 0 rs ++ (frameB g k rec ++ R)) hg (by omega)
  have hlen : (headB g 0 ++ (framesB g 0 rs ++ (frameB g k rec ++ R))).length = 16 + (sizeF rs + (12 + rec.length + R.length)) := by
    rw [List.length_append, List.length_append, List.length_append, headB_length, framesB_length, frameB_length]
  generalize hb : headB g 0 ++ (framesB g 0 rs ++ (frameB g k rec ++ R)) = b at *
  rw [readA, if_neg (by omega)]
  split
  · rfl
  · rw [a3, if_neg (by omega), a2, scan_frames rs [] 16 _ _ a5 hr, List.nil_append]
    have hd : b.drop (16 + sizeF rs) = frameB g k rec ++ R := by
      rw [← List.drop_drop, a5]
      exact List.drop_left' (by rw [framesB_length])
    rw [frameB_eq] at hd
    obtain ⟨h0, h4, h8, h12, _, _⟩ := frame_nums (gen := 0) (at_ := 0) hd (by omega) (crc_lt _) (sealN_lt ..)
    rw [scanL, if_pos (by omega), h0, h4, h8, if_pos]
    left
    intro e
    exact hne (seal_number hk hn e)

/-! ### one byte changed -/

theorem getD_set (X : List UInt8) (k i : Nat) (v : UInt8) : (X.set k v).getD i 0 = if k = i ∧ k < X.length then v else X.getD i 0 := by
  simp only [List.getD_eq_getElem?_getD, List.getElem?_set]
  by_cases h : k = i
  · subst h
    by_cases hl : k < X.length
    · simp [hl]
    · simp [hl]
  · simp [h]
theorem num_set_far {X : List UInt8} {k i : Nat} {v : UInt8} (h : k < i ∨ i + 4 ≤ k) : num (X.set k v) i = num X i := by
  unfold num
  simp only [getD_set]
  rw [if_neg (by omega), if_neg (by omega), if_neg (by omega), if_neg (by omega)]
theorem num_set_near {X : List UInt8} {k i : Nat} {v : UInt8} (h1 : i ≤ k) (h2 : k < i + 4) (hk : k < X.length) (hv : v ≠ X.getD k 0) : num (X.set k v) i ≠ num X i := by
  have hb : ∀ j, (X.getD j 0).toNat < 256 := fun j => (X.getD j 0).toNat_lt
  have hv0 := v.toNat_lt
  have hv' : v.toNat ≠ (X.getD k 0).toNat := fun e => hv (UInt8.toNat_inj.1 e)
  have b0 := hb i
  have b1 := hb (i + 1)
  have b2 := hb (i + 2)
  have b3 := hb (i + 3)
  unfold num
  simp only [getD_set]
  rcases (show k = i ∨ k = i + 1 ∨ k = i + 2 ∨ k = i + 3 by omega) with rfl | rfl | rfl | rfl
  · rw [if_pos ⟨rfl, hk⟩, if_neg (by omega), if_neg (by omega), if_neg (by omega)]; omega
  · rw [if_neg (by omega), if_pos ⟨rfl, hk⟩, if_neg (by omega), if_neg (by omega)]; omega
  · rw [if_neg (by omega), if_neg (by omega), if_pos ⟨rfl, hk⟩, if_neg (by omega)]; omega
  · rw [if_neg (by omega), if_neg (by omega), if_neg (by omega), if_pos ⟨rfl, hk⟩]; omega
theorem crc_set {X : List UInt8} {k : Nat} {v : UInt8} (hk : k < X.length) (hv : v ≠ X.getD k 0) : crc (X.set k v) ≠ crc X := by
  intro e
  have h1 : X.set k v = X.take k ++ v :: X.drop (k + 1) := by rw [List.set_eq_take_append_cons_drop, if_pos hk]
  have h2 : X = X.take k ++ X[k] :: X.drop (k + 1) := by rw [List.getElem_cons_drop, List.take_append_drop]
  rw [h1] at e
  have e2 : crc (X.take k ++ v :: X.drop (k + 1)) = crc (X.take k ++ X[k] :: X.drop (k + 1)) := by rw [← h2]; exact e
  apply hv
  rw [crc_byte e2, List.getD_eq_getElem?_getD, List.getElem?_eq_getElem hk]
  rfl

theorem num_bytes {b : List UInt8} {i n : Nat} : num b i = n → (i + 4 ≤ b.length → (b.drop i).take 4 = four n) := by
  intro h hl
  rw [← four_num b i hl, h]

/-- the area of the bytes is spoilt when one of them is another -/
theorem read_damaged {g : Nat} {base more : List (List UInt8)} (hg : g < 4294967296) (hsz : 16 + sizeF (base ++ more) ≤ 1048576) (hr : ∀ r ∈ base ++ more, r.length ≤ 65536) {k : Nat} {v : UInt8} (hk : k < (areaB g base more).length) (hv : v ≠ (areaB g base more).getD k 0) :
    readA ((areaB g base more).set k v) = .spoilt := by
  have hs1 := sizeF_append base more
  have hal := areaB_length g base more
  obtain ⟨a1, a2, a3, a4, a5⟩ := head_nums g (sizeF base) (framesB g 0 (base ++ more)) hg (by omega)
  rw [areaB] at hk hv hal ⊢
  generalize hX : headB g (sizeF base) ++ framesB g 0 (base ++ more) = X at *
  rw [readA, List.length_set, if_neg (by omega)]
  by_cases h16 : k < 16
  · rw [if_pos]
    right
    by_cases h4 : k < 4
    · left
      intro e
      rw [← a1, List.take_set] at e
      have hkl : k < (X.take 4).length := by rw [List.length_take]; omega
      have e2 := congrArg (·.getD k 0) e
      simp only [getD_set] at e2
      rw [if_pos ⟨trivial, hkl⟩] at e2
      apply hv
      rw [e2, List.getD_eq_getElem?_getD, List.getElem?_take, if_pos h4, List.getD_eq_getElem?_getD]
    · right; left
      by_cases h12 : k < 12
      · rw [num_set_far (by omega), a4, List.take_set]
        refine fun e => crc_set (X := X.take 12) (k := k) (v := v) (by rw [List.length_take]; omega) ?_ e.symm
        rw [List.getD_eq_getElem?_getD, List.getElem?_take, if_pos h12, ← List.getD_eq_getElem?_getD]
        exact hv
      · have t12 : (X.set k v).take 12 = X.take 12 := by rw [List.take_set]; exact List.set_eq_of_length_le (by rw [List.length_take]; omega)
        rw [t12, ← a4]
        exact num_set_near (by omega) (by omega) hk hv
  · have t4 : (X.set k v).take 4 = [119, 101, 102, 116] := by rw [List.take_set, List.set_eq_of_length_le (by rw [List.length_take]; omega), a1]
    have t12 : (X.set k v).take 12 = X.take 12 := by rw [List.take_set, List.set_eq_of_length_le (by rw [List.length_take]; omega)]
    rw [if_neg (by rw [t4, t12, num_set_far (by omega), num_set_far (by omega), a4, a3]; simp; omega), num_set_far (by omega), num_set_far (by omega), a3, a2, if_neg (by omega)]
    -- the frame
    obtain ⟨m, hm, hm1, hm2⟩ : ∃ m, ∃ h : m < (base ++ more).length, 16 + sizeF ((base ++ more).take m) ≤ k ∧ k < 16 + sizeF ((base ++ more).take m) + (12 + (base ++ more)[m].length) := by
      have key : ∀ d, d ≤ (base ++ more).length → (∃ m, ∃ h : m < (base ++ more).length, 16 + sizeF ((base ++ more).take m) ≤ k ∧ k < 16 + sizeF ((base ++ more).take m) + (12 + (base ++ more)[m].length)) ∨ 16 + sizeF ((base ++ more).take d) ≤ k := by
        intro d
        induction d with
        | zero => intro _; right; simp [sizeF]; omega
        | succ d ih =>
          intro hd
          rcases ih (by omega) with h | h
          · exact .inl h
          · have e := sizeF_take (base ++ more) (show d < (base ++ more).length by omega)
            by_cases hx : 16 + sizeF ((base ++ more).take (d + 1)) ≤ k
            · exact .inr hx
            · exact .inl ⟨d, by omega, h, by omega⟩
      rcases key _ (Nat.le_refl _) with h | h
      · exact h
      · rw [List.take_length] at h; omega
    obtain ⟨rec, hrec⟩ : ∃ rec, rec = (base ++ more)[m] := ⟨_, rfl⟩
    have hsp : base ++ more = (base ++ more).take m ++ rec :: (base ++ more).drop (m + 1) := by rw [hrec, List.getElem_cons_drop, List.take_append_drop]
    have hrl : rec.length ≤ 65536 := hr rec (by rw [hrec]; exact List.getElem_mem hm)
    have hml : ((base ++ more).take m).length = m := by rw [List.length_take]; omega
    have hrt : ∀ r ∈ (base ++ more).take m, r.length ≤ 65536 := fun r h => hr r (List.mem_of_mem_take h)
    have hst := sizeF_take (base ++ more) hm
    have hmn := sizeF_mono (base ++ more) (m + 1)
    have hnum : m < 4294967296 := by have := sizeF_num (base ++ more); omega
    rw [← hrec] at hm2 hst
    have hfr : framesB g 0 (base ++ more) = framesB g 0 ((base ++ more).take m) ++ (frameB g m rec ++ framesB g (m + 1) ((base ++ more).drop (m + 1))) := by
      conv => lhs; rw [hsp]
      rw [framesB_append, hml, Nat.zero_add, framesB]
    generalize (base ++ more).take m = rs at *
    generalize framesB g (m + 1) ((base ++ more).drop (m + 1)) = R at *
    have hd16 : (X.set k v).drop 16 = framesB g 0 rs ++ (frameB g m rec ++ R).set (k - 16 - sizeF rs) v := by
      rw [List.drop_set, if_neg (by omega), a5, hfr, List.set_append_right _ _ (by rw [framesB_length]; omega), framesB_length]
    rw [scan_frames rs [] 16 _ _ hd16 hrt, List.nil_append]
    have hde : X.drop (16 + sizeF rs) = frameB g m rec ++ R := by
      rw [← List.drop_drop, a5, hfr]
      exact List.drop_left' (by rw [framesB_length])
    have hd2 := hde
    rw [frameB_eq] at hd2
    obtain ⟨h0, h4, h8, h12, _, _⟩ := frame_nums (gen := 0) (at_ := 0) hd2 (by omega) (crc_lt _) (sealN_lt ..)
    have hcrc : ((X.drop (16 + sizeF rs + 12)).take rec.length) = rec := by rw [h12, List.take_left']; rfl
    obtain ⟨e, he⟩ : ∃ e, e = 16 + sizeF rs := ⟨_, rfl⟩
    rw [← he] at h0 h4 h8 h12 hcrc hm1 hm2 ⊢
    rw [scanL, List.length_set, if_pos (by omega), hml]
    by_cases o4 : k < e + 4
    · rw [num_set_far (i := e + 8) (by omega), num_set_far (i := e + 4) (by omega), h8, h4, if_pos]
      left
      intro q
      have hn := num_set_near (X := X) (k := k) (i := e) (v := v) (by omega) (by omega) hk hv
      rw [h0] at hn
      refine hn ?_
      unfold sealN at q
      rw [← List.append_assoc, ← List.append_assoc] at q
      exact (crc_four (p := four g ++ four m) (by omega) (num_lt _ _) q).symm
    · by_cases o8 : k < e + 8
      · rw [num_set_far (i := e + 8) (by omega), num_set_far (i := e) (by omega), h8, h0, if_pos]
        left
        intro q
        have hn := num_set_near (X := X) (k := k) (i := e + 4) (v := v) (by omega) (by omega) hk hv
        rw [h4] at hn
        refine hn ?_
        unfold sealN at q
        have q2 : crc ((four g ++ four m ++ four rec.length) ++ four (crc rec) ++ []) = crc ((four g ++ four m ++ four rec.length) ++ four (num (X.set k v) (e + 4)) ++ []) := by
          rw [List.append_nil, List.append_nil, List.append_assoc _ (four rec.length), List.append_assoc _ (four rec.length)]
          exact q
        exact (crc_four (crc_lt _) (num_lt _ _) q2).symm
      · by_cases o12 : k < e + 12
        · rw [num_set_far (i := e + 4) (by omega), num_set_far (i := e) (by omega), h4, h0, if_pos]
          left
          have hn := num_set_near (X := X) (k := k) (i := e + 8) (v := v) (by omega) (by omega) hk hv
          rw [h8] at hn
          exact hn
        · rw [num_set_far (i := e + 8) (by omega), num_set_far (i := e + 4) (by omega), num_set_far (i := e) (by omega), h8, h4, h0, if_neg (by omega), if_neg (by omega), if_pos]
          rw [List.drop_set, if_neg (by omega), List.take_set, hcrc]
          refine crc_set (by omega) ?_
          intro q
          apply hv
          rw [q]
          have : rec.getD (k - (e + 12)) 0 = ((X.drop (e + 12)).take rec.length).getD (k - (e + 12)) 0 := by rw [hcrc]
          rw [this, List.getD_eq_getElem?_getD, List.getElem?_take, if_pos (by omega), List.getElem?_drop, show e + 12 + (k - (e + 12)) = k by omega, List.getD_eq_getElem?_getD]
end Go.Proofs.YtdpaaoeipconcaaDoor
