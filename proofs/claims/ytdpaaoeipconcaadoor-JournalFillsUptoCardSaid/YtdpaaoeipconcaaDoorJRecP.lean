/- Recovery: what a disk opens as wherever the writing stopped, write behind write, crash on crash. Plain laws, no program in sight. -/
import Derived.Test.YtdpaaoeipconcaaDoorJCrc
import Derived.Test.YtdpaaoeipconcaaDoorJAtomP
import Derived.Test.YtdpaaoeipconcaaDoorJRSync
namespace Go.Proofs.YtdpaaoeipconcaaDoor

/-- one of a disk's two areas -/
def dk (d : Dk) (c : Nat) : List UInt8 := if c = 0 then d.1 else d.2

/-- An area that reads as R, its clean front as it was written. -/
structure AreaOK (X : List UInt8) (gen : Nat) (R : List (List UInt8)) : Prop where
  read : readA X = ⟨3, gen, R, 16 + sizeF R⟩
  pre : ∃ base more, base ++ more = R ∧ X.take (16 + sizeF R) = areaB gen base more
  gen : gen < 4294967296
  size : 16 + sizeF R ≤ 1048576
  len : ∀ r ∈ R, r.length ≤ 65536

/-- The other area: short, torn, or an older generation. -/
def OtherOK (O : List UInt8) (c gen : Nat) : Prop :=
  (readA O).state = 0 ∨ (readA O).state = 2 ∨ ((readA O).state = 3 ∧ (c = 0 → (gen + 4294967296 - (readA O).gen) % 4294967296 < 2147483648) ∧ (c ≠ 0 → 2147483648 ≤ ((readA O).gen + 4294967296 - gen) % 4294967296))

structure CurOK (d : Dk) (c gen : Nat) (R : List (List UInt8)) : Prop where
  c1 : c ≤ 1
  area : AreaOK (dk d c) gen R
  other : OtherOK (dk d (1 - c)) c gen

def DiskOK (d : Dk) (R : List (List UInt8)) : Prop := (d.1.length < 16 ∧ d.2.length < 16 ∧ R = []) ∨ ∃ c gen, CurOK d c gen R

theorem open_cur {d : Dk} {c gen : Nat} {R : List (List UInt8)} (h : CurOK d c gen R) : openJ d = some (⟨d.1, d.2, [], c, gen, R.length, 16 + sizeF R⟩, R) := by
  obtain ⟨hc, ha, ho⟩ := h
  have hr := ha.read
  rcases (show c = 0 ∨ c = 1 by omega) with rfl | rfl
  · simp only [dk, if_true] at hr
    simp only [dk, OtherOK, show ¬ (1 - 0 = 0) by omega, if_false] at ho
    unfold openJ
    simp only [hr]
    rcases ho with h | h | ⟨h, h1, _⟩
    · simp [h]
    · simp [h]
    · have h1 := h1 trivial
      simp [h]
      omega
  · simp only [dk, show ¬ (1 = 0) by omega, if_false] at hr
    simp only [dk, OtherOK, Nat.sub_self, if_true] at ho
    unfold openJ
    simp only [hr]
    rcases ho with h | h | ⟨h, _, h1⟩
    · simp [h]
    · simp [h]
    · have h1 := h1 (by omega)
      simp [h, h1]

theorem areaOK_whole {g : Nat} {base more : List (List UInt8)} (hg : g < 4294967296) (hsz : 16 + sizeF (base ++ more) ≤ 1048576) (hr : ∀ r ∈ base ++ more, r.length ≤ 65536) : AreaOK (areaB g base more) g (base ++ more) :=
  ⟨readA_whole hg hsz hr, ⟨base, more, rfl, List.take_of_length_le (by rw [areaB_length]; exact Nat.le_refl _)⟩, hg, hsz, hr⟩

/-- The journal stands at R. -/
structure LogOK (j : Jn) (R : List (List UInt8)) : Prop where
  cur : CurOK (layAll j.ws (j.dA, j.dB)) j.cur j.gen R
  end_ : j.end_ = 16 + sizeF R
  nr : j.nr = R.length

theorem head_area (g : Nat) : headB g 0 = areaB g [] [] := by simp [areaB, sizeF, framesB]

theorem short_state {X : List UInt8} (h : X.length < 16) : (readA X).state = 0 := by rw [readA_short h]; rfl

/-- What an Open of a disk that is right answers, and how it stands. -/
theorem disk_open {d : Dk} {R : List (List UInt8)} (h : DiskOK d R) :
    ∃ j, openJ d = some (j, R) ∧ LogOK j R ∧ (dirtyN j.ws = 0 ∨ (dirtyN j.ws = 16 ∧ R = [])) ∧ (∀ keep, DiskOK (crashJ j keep) R) ∧ j.ws.length ≤ 1 := by
  rcases h with ⟨h1, h2, rfl⟩ | ⟨c, gen, hc⟩
  · have a1 := readA_short h1
    have a2 := readA_short h2
    have hA : AreaOK (headB 1 0) 1 [] := by
      have := areaOK_whole (g := 1) (base := []) (more := []) (by decide) (by decide) (by simp)
      rwa [← head_area] at this
    have hcur : CurOK (headB 1 0, d.2) 0 1 [] := ⟨by omega, by simpa [dk] using hA, by left; simpa [dk] using short_state h2⟩
    refine ⟨⟨d.1, d.2, [⟨0, 0, headB 1 0⟩], 0, 1, 0, 16⟩, ?_, ⟨by simpa [layAll, lay] using hcur, rfl, rfl⟩, .inr ⟨rfl, rfl⟩, fun keep => ?_, by simp⟩
    · unfold openJ
      simp only [a1, a2, Ar.short]
      simp
    · simp only [crashJ, crashD]
      split
      · exact .inl ⟨h1, h2, rfl⟩
      · simp only [lay, if_true, List.take_zero, List.nil_append]
        by_cases hk : keep.toNat < 16
        · exact .inl ⟨by simp; omega, h2, rfl⟩
        · rw [List.take_of_length_le (by simp; omega)]
          exact .inr ⟨0, 1, hcur⟩
  · have ho := open_cur hc
    exact ⟨_, ho, ⟨hc, rfl, rfl⟩, .inl rfl, fun keep => .inr ⟨c, gen, hc⟩, by simp⟩

/-! ### one write more -/

theorem crash_push (x : Wr) : ∀ (ws : List Wr) (keep : Int) (d : Dk), crashD (ws ++ [x]) keep d = if keep ≤ (dirtyN ws : Nat) then crashD ws keep d else lay (layAll ws d) ⟨x.area, x.at_, x.bytes.take (keep - (dirtyN ws : Nat)).toNat⟩
  | [], keep, d => by
    simp only [List.nil_append, crashD, dirtyN, layAll, List.map_nil, List.sum_nil, List.foldl]
    by_cases h : keep ≤ 0
    · rw [if_pos h, if_pos (by simpa using h)]
    · rw [if_neg h, if_neg (by simpa using h)]
      simp
  | y :: ws, keep, d => by
    have e : dirtyN (y :: ws) = y.bytes.length + dirtyN ws := by simp [dirtyN]
    rw [List.cons_append, crashD]
    by_cases h : keep ≤ 0
    · rw [if_pos h, if_pos (by omega), crashD, if_pos h]
    · rw [if_neg h, crash_push x ws, crashD, if_neg h, e]
      by_cases h2 : keep ≤ ((y.bytes.length + dirtyN ws : Nat) : Int)
      · rw [if_pos (by omega), if_pos h2]
      · rw [if_neg (by omega), if_neg h2, List.take_of_length_le (by omega)]
        have : (keep - min keep (y.bytes.length : Int) - (dirtyN ws : Int)).toNat = (keep - ((y.bytes.length + dirtyN ws : Nat) : Int)).toNat := by omega
        rw [this]
        rfl

theorem dk_lay_cur (D : Dk) {c : Nat} (hc : c ≤ 1) (n : Nat) (b : List UInt8) : dk (lay D ⟨c, n, b⟩) c = (dk D c).take n ++ b ∧ dk (lay D ⟨c, n, b⟩) (1 - c) = dk D (1 - c) := by
  rcases (show c = 0 ∨ c = 1 by omega) with rfl | rfl <;> simp [dk, lay]

/-- An Append, wherever its writing stops. -/
theorem cur_append {D : Dk} {c gen : Nat} {R : List (List UInt8)} (h : CurOK D c gen R) {rec : List UInt8} (h1 : rec.length ≤ 65536) (h2 : 16 + sizeF R + 12 + rec.length ≤ 1048576) (k : Nat) :
    CurOK (lay D ⟨c, 16 + sizeF R, (frameB gen R.length rec).take k⟩) c gen (if k < 12 + rec.length then R else R ++ [rec]) := by
  obtain ⟨hc, ha, ho⟩ := h
  obtain ⟨base, more, hbm, hpre⟩ := ha.pre
  obtain ⟨e1, e2⟩ := dk_lay_cur D hc (16 + sizeF R) ((frameB gen R.length rec).take k)
  have hsp : sizeF (R ++ [rec]) = sizeF R + (12 + rec.length) := sizeF_push R rec
  have hA : (dk D c).take (16 + sizeF R) ++ (frameB gen R.length rec).take k = (areaB gen base (more ++ [rec])).take (16 + sizeF R + k) := by
    have hz : sizeF base ≤ sizeF R := by rw [← hbm, sizeF_append]; omega
    have hXl : (headB gen (sizeF base) ++ framesB gen 0 R).length = 16 + sizeF R := by rw [List.length_append, headB_length, framesB_length]
    have hX2 : areaB gen base (more ++ [rec]) = (headB gen (sizeF base) ++ framesB gen 0 R) ++ frameB gen R.length rec := by rw [areaB, ← List.append_assoc base, hbm, framesB_push, Nat.zero_add, List.append_assoc]
    rw [hpre, hX2, areaB, hbm, List.take_append, hXl, List.take_of_length_le (l := headB gen (sizeF base) ++ framesB gen 0 R) (by rw [hXl]; omega), Nat.add_sub_cancel_left]
  have hsz : 16 + sizeF (base ++ (more ++ [rec])) ≤ 1048576 := by rw [← List.append_assoc, hbm, hsp]; omega
  have hlen : ∀ r ∈ base ++ (more ++ [rec]), r.length ≤ 65536 := by
    rw [← List.append_assoc, hbm]
    intro r hr
    rcases List.mem_append.1 hr with hr | hr
    · exact ha.len r hr
    · obtain rfl : r = rec := by simpa using hr
      exact h1
  refine ⟨hc, ?_, by rw [e2]; exact ho⟩
  rw [e1, hA]
  by_cases hk : k < 12 + rec.length
  · rw [if_pos hk]
    have hr := readA_cut (g := gen) (n := 16 + sizeF R + k) (base := base) (m1 := more) (m2 := [rec]) ha.gen hsz hlen (by rw [hbm]; omega) (fun r rs e => by
      injection e with e _
      rw [hbm, ← e]; omega)
    rw [hbm] at hr
    refine ⟨hr, ⟨base, more, hbm, ?_⟩, ha.gen, ha.size, ha.len⟩
    have hl := congrArg List.length hpre
    rw [areaB_length, hbm] at hl
    rw [← hA, List.take_append_of_le_length (by rw [hl]; exact Nat.le_refl _), List.take_take, Nat.min_self, hpre]
  · rw [if_neg hk, List.take_of_length_le (by rw [areaB_length, ← List.append_assoc, hbm, hsp]; omega)]
    have := areaOK_whole (g := gen) (base := base) (more := more ++ [rec]) ha.gen hsz hlen
    rwa [← List.append_assoc, hbm] at this

/-- A Rewrite, wherever its writing stops. -/
theorem cur_rewrite {D : Dk} {c gen : Nat} {R : List (List UInt8)} (h : CurOK D c gen R) {recs : List (List UInt8)} (h1 : ∀ r ∈ recs, r.length ≤ 65536) (h2 : 16 + sizeF recs ≤ 1048576) (k : Nat) :
    (k < 16 + sizeF recs → CurOK (lay D ⟨1 - c, 0, (areaB ((gen + 1) % 4294967296) recs []).take k⟩) c gen R) ∧
    (¬ k < 16 + sizeF recs → CurOK (lay D ⟨1 - c, 0, (areaB ((gen + 1) % 4294967296) recs []).take k⟩) (1 - c) ((gen + 1) % 4294967296) recs) := by
  obtain ⟨hc, ha, ho⟩ := h
  have hg' : (gen + 1) % 4294967296 < 4294967296 := Nat.mod_lt _ (by decide)
  obtain ⟨e1, e2⟩ := dk_lay_cur D (show 1 - c ≤ 1 by omega) 0 ((areaB ((gen + 1) % 4294967296) recs []).take k)
  rw [List.take_zero, List.nil_append] at e1
  rw [show 1 - (1 - c) = c by omega] at e2
  have hal := areaB_length ((gen + 1) % 4294967296) recs []
  rw [List.append_nil] at hal
  refine ⟨fun hk => ⟨hc, by rw [e2]; exact ha, ?_⟩, fun hk => ⟨by omega, ?_, ?_⟩⟩
  · rw [e1]
    by_cases h16 : k < 16
    · exact .inl (short_state (by rw [List.length_take]; omega))
    · right; left
      rw [readA_torn (more := []) hg' (by simpa using h2) (by omega) hk]
      rfl
  · rw [e1, List.take_of_length_le (by omega)]
    have := areaOK_whole (g := (gen + 1) % 4294967296) (base := recs) (more := []) hg' (by simpa using h2) (by simpa using h1)
    rwa [List.append_nil] at this
  · rw [show 1 - (1 - c) = c by omega, e2]
    right; right
    have hg := ha.gen
    rw [ha.read]
    refine ⟨rfl, fun _ => ?_, fun _ => ?_⟩
    · show ((gen + 1) % 4294967296 + 4294967296 - gen) % 4294967296 < 2147483648
      omega
    · show 2147483648 ≤ (gen + 4294967296 - (gen + 1) % 4294967296) % 4294967296
      omega

/-! ### the tale's points -/

abbrev Recs := List (List UInt8)
/-- the records that come back if keep bytes got down: the first point's, or those of the last point behind it all of whose ancestors were reached -/
def atP : Recs → List (Recs × Nat) → Int → Recs
  | R, [], _ => R
  | R, (R', a) :: rest, keep => if (a : Int) ≤ keep then atP R' rest keep else R
def lastR : Recs → List (Recs × Nat) → Recs
  | R, [] => R
  | _, (R', _) :: rest => lastR R' rest

theorem atP_all : ∀ (R : Recs) (rest : List (Recs × Nat)) (keep : Int), (∀ p ∈ rest, (p.2 : Int) ≤ keep) → atP R rest keep = lastR R rest
  | R, [], _, _ => rfl
  | R, (R', a) :: rest, keep, h => by
    rw [atP, if_pos (h (R', a) (List.mem_cons_self ..)), lastR]
    exact atP_all R' rest keep fun p hp => h p (List.mem_cons_of_mem _ hp)
theorem atP_push_lt : ∀ (R : Recs) (rest : List (Recs × Nat)) (keep : Int) (R' : Recs) (a : Nat), keep < a → atP R (rest ++ [(R', a)]) keep = atP R rest keep
  | _, [], _, _, _, h => by simp only [List.nil_append, atP]; rw [if_neg (by omega)]
  | _, (R1, _) :: rest, keep, R', a, h => by
    rw [List.cons_append, atP, atP, atP_push_lt R1 rest keep R' a h]
theorem lastR_push : ∀ (R : Recs) (rest : List (Recs × Nat)) (R' : Recs) (a : Nat), lastR R (rest ++ [(R', a)]) = R'
  | _, [], _, _ => rfl
  | _, (R1, _) :: rest, R', a => lastR_push R1 rest R' a

/-- A journal and what it has been told. -/
structure RecJ (j : Jn) (R0 : Recs) (rest : List (Recs × Nat)) (R : Recs) : Prop where
  log : LogOK j R
  hist : ∀ keep, DiskOK (crashJ j keep) (atP R0 rest keep)
  le : ∀ p ∈ rest, p.2 ≤ dirtyN j.ws
  last : lastR R0 rest = R

theorem dirtyN_push (ws : List Wr) (x : Wr) : dirtyN (ws ++ [x]) = dirtyN ws + x.bytes.length := by simp [dirtyN]

/-- A write more: what stands in the middle of it and behind it. -/
theorem rec_push {j : Jn} {R0 : Recs} {rest : List (Recs × Nat)} {R R' : Recs} (h : RecJ j R0 rest R) (x : Wr) (j' : Jn) (hd : (j'.dA, j'.dB) = (j.dA, j.dB)) (hw : j'.ws = j.ws ++ [x]) (hpos : 0 < x.bytes.length)
    (hin : ∀ k, k < x.bytes.length → DiskOK (lay (layAll j.ws (j.dA, j.dB)) ⟨x.area, x.at_, x.bytes.take k⟩) R)
    (hout : CurOK (lay (layAll j.ws (j.dA, j.dB)) x) j'.cur j'.gen R') (he : j'.end_ = 16 + sizeF R') (hn : j'.nr = R'.length) :
    RecJ j' R0 (rest ++ [(R', dirtyN j'.ws)]) R' := by
  have hdn : dirtyN j'.ws = dirtyN j.ws + x.bytes.length := by rw [hw, dirtyN_push]
  refine ⟨⟨by rw [hw, layAll_push, hd]; exact hout, he, hn⟩, fun keep => ?_, fun p hp => ?_, lastR_push ..⟩
  · rw [crashJ, hw, hd, crash_push]
    by_cases h1 : keep ≤ (dirtyN j.ws : Nat)
    · rw [if_pos h1, ← hw, atP_push_lt _ _ _ _ _ (by omega)]
      exact h.hist keep
    · rw [if_neg h1, ← hw]
      by_cases h2 : keep < (dirtyN j'.ws : Nat)
      · rw [atP_push_lt _ _ _ _ _ h2, atP_all _ _ _ (fun p hp => by have := h.le p hp; omega), h.last]
        exact hin _ (by omega)
      · rw [List.take_of_length_le (by omega), atP_all _ _ _ (fun p hp => by
          rcases List.mem_append.1 hp with hp | hp
          · have := h.le p hp; omega
          · obtain rfl : p = _ := by simpa using hp
            show ((dirtyN j'.ws : Nat) : Int) ≤ keep
            omega), lastR_push]
        exact .inr ⟨_, _, hout⟩
  · rcases List.mem_append.1 hp with hp | hp
    · have := h.le p hp; omega
    · obtain rfl : p = _ := by simpa using hp
      exact Nat.le_refl _

theorem rec_append {j : Jn} {R0 : Recs} {rest : List (Recs × Nat)} {R : Recs} (h : RecJ j R0 rest R) {rec : List UInt8} (h1 : rec.length ≤ 65536) (h2 : 16 + sizeF R + 12 + rec.length ≤ 1048576) :
    ∃ j', appendJ j rec = (0, j') ∧ RecJ j' R0 (rest ++ [(R ++ [rec], dirtyN j.ws + (12 + rec.length))]) (R ++ [rec]) ∧ dirtyN j'.ws = dirtyN j.ws + (12 + rec.length) ∧ j'.ws.length = j.ws.length + 1 := by
  have hL := h.log
  have he := hL.end_
  have hn := hL.nr
  have hap : appendJ j rec = (0, { j with ws := j.ws ++ [⟨j.cur, j.end_, frameB j.gen j.nr rec⟩], end_ := j.end_ + 12 + rec.length, nr := j.nr + 1 }) := by rw [appendJ, if_neg (by omega), if_neg (by omega)]
  have hdn : dirtyN (j.ws ++ [⟨j.cur, j.end_, frameB j.gen j.nr rec⟩]) = dirtyN j.ws + (12 + rec.length) := by rw [dirtyN_push, frameB_length]
  have hcu := cur_append hL.cur h1 h2
  have hr := rec_push h ⟨j.cur, j.end_, frameB j.gen j.nr rec⟩ { j with ws := j.ws ++ [⟨j.cur, j.end_, frameB j.gen j.nr rec⟩], end_ := j.end_ + 12 + rec.length, nr := j.nr + 1 } (R' := R ++ [rec]) rfl rfl (by show 0 < (frameB j.gen j.nr rec).length; rw [frameB_length]; omega)
    (fun k hk => by
      have hk : k < (frameB j.gen j.nr rec).length := hk
      rw [frameB_length] at hk
      have := hcu k
      rw [if_pos hk] at this
      rw [he, hn]
      exact .inr ⟨_, _, this⟩)
    (by
      have := hcu (12 + rec.length)
      rw [if_neg (by omega), List.take_of_length_le (by rw [frameB_length]; exact Nat.le_refl _)] at this
      rw [he, hn]
      exact this)
    (by rw [sizeF_push]; show j.end_ + 12 + rec.length = _; omega) (by simp [hn])
  refine ⟨_, hap, ?_, hdn, by simp⟩
  rw [← hdn]
  exact hr

theorem rec_rewrite {j : Jn} {R0 : Recs} {rest : List (Recs × Nat)} {R : Recs} (h : RecJ j R0 rest R) {recs : Recs} (h1 : ∀ r ∈ recs, r.length ≤ 65536) (h2 : 16 + sizeF recs ≤ 1048576) :
    ∃ j', rewriteJ j recs = (0, j') ∧ RecJ j' R0 (rest ++ [(recs, dirtyN j.ws + (16 + sizeF recs))]) recs ∧ dirtyN j'.ws = dirtyN j.ws + (16 + sizeF recs) ∧ j'.ws.length = j.ws.length + 1 := by
  have hL := h.log
  have hrw := rewriteJ_ok j recs (fun ⟨r, hr, hl⟩ => by have := h1 r hr; omega) (by omega)
  have hB : headB ((j.gen + 1) % 4294967296) (sizeF recs) ++ framesB ((j.gen + 1) % 4294967296) 0 recs = areaB ((j.gen + 1) % 4294967296) recs [] := by rw [areaB, List.append_nil]
  have hal := areaB_length ((j.gen + 1) % 4294967296) recs []
  rw [List.append_nil] at hal
  unfold beginJ at hrw
  rw [hB] at hrw
  have hdn : dirtyN (j.ws ++ [⟨1 - j.cur, 0, areaB ((j.gen + 1) % 4294967296) recs []⟩]) = dirtyN j.ws + (16 + sizeF recs) := by rw [dirtyN_push, hal]
  have hcu := cur_rewrite hL.cur h1 h2
  have hr := rec_push h ⟨1 - j.cur, 0, areaB ((j.gen + 1) % 4294967296) recs []⟩ { j with ws := j.ws ++ [⟨1 - j.cur, 0, areaB ((j.gen + 1) % 4294967296) recs []⟩], cur := 1 - j.cur, gen := (j.gen + 1) % 4294967296, nr := recs.length, end_ := 16 + sizeF recs } (R' := recs) rfl rfl (by show 0 < (areaB ((j.gen + 1) % 4294967296) recs []).length; omega)
    (fun k hk => by
      have hk : k < (areaB ((j.gen + 1) % 4294967296) recs []).length := hk
      exact .inr ⟨_, _, (hcu k).1 (by omega)⟩)
    (by
      have := (hcu (16 + sizeF recs)).2 (by omega)
      rw [List.take_of_length_le (by omega)] at this
      exact this)
    rfl rfl
  refine ⟨_, hrw, ?_, hdn, by simp⟩
  rw [← hdn]
  exact hr

theorem rec_sync {j : Jn} {R0 : Recs} {rest : List (Recs × Nat)} {R : Recs} (h : RecJ j R0 rest R) : RecJ (syncJ j) R [] R := by
  have hL := h.log
  exact ⟨⟨hL.cur, hL.end_, hL.nr⟩, fun keep => .inr ⟨_, _, hL.cur⟩, fun p hp => by simp at hp, rfl⟩

/-- A disk that is right opens as a journal that goes on. -/
theorem rec_open {d : Dk} {R : Recs} (h : DiskOK d R) : ∃ j, openJ d = some (j, R) ∧ RecJ j R [] R ∧ (dirtyN j.ws = 0 ∨ (dirtyN j.ws = 16 ∧ R = [])) ∧ j.ws.length ≤ 1 := by
  obtain ⟨j, h1, h2, h3, h4, h5⟩ := disk_open h
  exact ⟨j, h1, ⟨h2, fun keep => h4 keep, fun p hp => by simp at hp, rfl⟩, h3, h5⟩

theorem rec_begin : ∃ j, openJ ([], []) = some (j, []) ∧ RecJ j [] [] [] := by
  obtain ⟨j, h1, h2, _⟩ := rec_open (d := ([], [])) (R := []) (.inl ⟨by decide, by decide, rfl⟩)
  exact ⟨j, h1, h2⟩

/-- The whole of what is written. -/
theorem rec_all {j : Jn} {R0 : Recs} {rest : List (Recs × Nat)} {R : Recs} (h : RecJ j R0 rest R) (hne : ∀ x ∈ j.ws, x.bytes ≠ []) : ∃ j', openJ (crashJ j (dirtyN j.ws : Nat)) = some (j', R) := by
  rw [crashJ, crashD_all j.ws hne]
  exact ⟨_, open_cur h.log.cur⟩
end Go.Proofs.YtdpaaoeipconcaaDoor
