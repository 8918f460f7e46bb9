/- A Rewrite that is seen whole or not at all: the plain part of JournalAtomic. No program in sight. -/
import Derived.Test.YtdpaaoeipconcaaDoorJCutP
namespace Go.Proofs.YtdpaaoeipconcaaDoor

/-- Writes to the first area, each where the one ahead of it ends. -/
def Chain : Nat → List Wr → Prop
  | _, [] => True
  | n, x :: ws => x.area = 0 ∧ x.at_ = n ∧ Chain (n + x.bytes.length) ws

def flat (ws : List Wr) : List UInt8 := (ws.map (·.bytes)).flatten

theorem flat_length (ws : List Wr) : (flat ws).length = dirtyN ws := by simp [flat, dirtyN, List.length_flatten, Function.comp_def]

theorem Chain.push : ∀ {ws : List Wr} {n : Nat} {x : Wr}, Chain n ws → x.area = 0 → x.at_ = n + (flat ws).length → Chain n (ws ++ [x])
  | [], n, x, _, h1, h2 => ⟨h1, by simpa [flat] using h2, trivial⟩
  | y :: ws, n, x, h, h1, h2 => ⟨h.1, h.2.1, Chain.push h.2.2 h1 (by rw [h2]; simp [flat]; omega)⟩

theorem crash_zero : ∀ (ws : List Wr) (d : Dk), crashD ws 0 d = d
  | [], _ => rfl
  | x :: ws, d => by rw [crashD, if_pos (Int.le_refl 0)]

theorem crash_chain : ∀ (ws : List Wr) (P B : List UInt8) (keep : Nat), Chain P.length ws → crashD ws keep (P, B) = (P ++ (flat ws).take keep, B)
  | [], P, B, keep, _ => by simp [crashD, flat]
  | x :: ws, P, B, keep, h => by
    obtain ⟨h1, h2, h3⟩ := h
    by_cases hk : keep = 0
    · subst hk
      rw [show ((0 : Nat) : Int) = 0 from rfl, crash_zero]; simp
    · have hl : lay (P, B) ⟨x.area, x.at_, x.bytes.take keep⟩ = (P ++ x.bytes.take keep, B) := by simp [lay, h1, h2]
      rw [crashD, if_neg (by omega), show ((keep : Nat) : Int).toNat = keep by omega, hl]
      by_cases hf : x.bytes.length ≤ keep
      · rw [show (keep : Int) - min (keep : Int) (x.bytes.length : Int) = ((keep - x.bytes.length : Nat) : Int) by omega, List.take_of_length_le hf,
          crash_chain ws (P ++ x.bytes) B (keep - x.bytes.length) (by rw [List.length_append]; exact h3)]
        simp only [flat, List.map_cons, List.flatten_cons, List.take_append, List.append_assoc]
        rw [List.take_of_length_le hf]
      · rw [show (keep : Int) - min (keep : Int) (x.bytes.length : Int) = 0 by omega, crash_zero]
        simp only [flat, List.map_cons, List.flatten_cons, List.take_append]
        rw [show keep - x.bytes.length = 0 by omega, List.take_zero, List.append_nil]

/-- The whole frames of an area that was cut behind its base. -/
theorem read_front {g n : Nat} {bs ms : List (List UInt8)} (hg : g < 4294967296) (hb : sizeF bs ≤ 2000) (hm : sizeF ms ≤ 4000) (hn : 16 + sizeF bs ≤ n) :
    ∃ m, m ≤ ms.length ∧ readA ((areaB g bs ms).take n) = ⟨3, g, bs ++ ms.take m, 16 + sizeF (bs ++ ms.take m)⟩ ∧ 16 + sizeF (bs ++ ms.take m) ≤ n ∧ (m = ms.length ∨ (m < ms.length ∧ n < 16 + sizeF (bs ++ ms.take (m + 1)))) := by
  have hs := sizeF_append bs ms
  obtain ⟨m, hm1, hm2, hm3⟩ : ∃ m, m ≤ ms.length ∧ 16 + sizeF (bs ++ ms.take m) ≤ n ∧ (m = ms.length ∨ (m < ms.length ∧ n < 16 + sizeF (bs ++ ms.take (m + 1)))) := by
    have key : ∀ d, d ≤ ms.length → (∃ m, m ≤ ms.length ∧ 16 + sizeF (bs ++ ms.take m) ≤ n ∧ (m = ms.length ∨ (m < ms.length ∧ n < 16 + sizeF (bs ++ ms.take (m + 1))))) ∨ 16 + sizeF (bs ++ ms.take d) ≤ n := by
      intro d
      induction d with
      | zero => intro _; right; simp; omega
      | succ d ih =>
        intro hd
        rcases ih (by omega) with h | h
        · exact .inl h
        · by_cases hx : 16 + sizeF (bs ++ ms.take (d + 1)) ≤ n
          · exact .inr hx
          · exact .inl ⟨d, by omega, h, .inr ⟨by omega, by omega⟩⟩
    rcases key ms.length (Nat.le_refl _) with h | h
    · exact h
    · exact ⟨ms.length, Nat.le_refl _, h, .inl rfl⟩
  refine ⟨m, hm1, ?_, hm2, hm3⟩
  have h := readA_cut (g := g) (n := n) (base := bs) (m1 := ms.take m) (m2 := ms.drop m) hg (by rw [List.take_append_drop]; omega) (fun r hr => by
    rw [List.take_append_drop] at hr
    rcases List.mem_append.1 hr with hr | hr
    · have := size_mem hb r hr; omega
    · have := size_mem hm r hr; omega) hm2 (fun r rs hd => by
    rcases hm3 with h | ⟨h, h'⟩
    · rw [h, List.drop_length] at hd; cases hd
    · rw [List.drop_eq_getElem_cons h] at hd
      injection hd with hd _
      have e1 := sizeF_append bs (ms.take (m + 1))
      have e2 := sizeF_append bs (ms.take m)
      have e3 := sizeF_take ms h
      rw [← hd]
      omega)
  rwa [List.take_append_drop] at h

/-- A journal behind a Rewrite of os that was synced, a Rewrite of ns and k Appends of ms. -/
def AtJ (os ns ms : List (List UInt8)) (k : Nat) (j : Jn) : Prop :=
  j.dA = headB 1 0 ∧ j.dB = areaB 2 os [] ∧ j.cur = 0 ∧ j.gen = 3 ∧ j.nr = ns.length + k ∧ j.end_ = 16 + sizeF (ns ++ ms.take k) ∧ j.ws ≠ [] ∧ Chain 0 j.ws ∧ flat j.ws = areaB 3 ns (ms.take k) ∧ j.ws.length ≤ 3 + k

theorem at_begin {os ns ms : List (List UInt8)} (ho : sizeF os ≤ 400) (hn : sizeF ns ≤ 400) : ∃ j1 j3, rewriteJ exJ0 os = (0, j1) ∧ j1.ws.length ≤ 2 ∧ rewriteJ (syncJ j1) ns = (0, j3) ∧ dirtyN j3.ws = 16 + sizeF ns ∧ AtJ os ns ms 0 j3 := by
  refine ⟨_, _, rewriteJ_ok exJ0 os (fun ⟨r, hr, hl⟩ => by have := size_mem ho r hr; omega) (by omega), by simp [beginJ, exJ0], rewriteJ_ok _ ns (fun ⟨r, hr, hl⟩ => by have := size_mem hn r hr; omega) (by omega), ?_, ?_⟩
  · simp [beginJ, syncJ, dirtyN, framesB_length]
  · refine ⟨?_, ?_, ?_, ?_, ?_, ?_, ?_, ?_, ?_, ?_⟩
    · simp [beginJ, syncJ, exJ0, layAll, lay]
    · simp [beginJ, syncJ, exJ0, layAll, lay, areaB]
    · simp [beginJ, syncJ, exJ0]
    · simp [beginJ, syncJ, exJ0]
    · simp [beginJ, syncJ]
    · simp [beginJ]
    · simp [beginJ, syncJ]
    · simp [beginJ, syncJ, exJ0, Chain]
    · simp [beginJ, syncJ, exJ0, flat, areaB]
    · simp [beginJ, syncJ]

theorem at_step {os ns ms : List (List UInt8)} {k : Nat} {j : Jn} (hn : sizeF ns ≤ 400) (hm : sizeF ms ≤ 200) (hk : k < ms.length) (h : AtJ os ns ms k j) : ∃ j', appendJ j ms[k] = (0, j') ∧ AtJ os ns ms (k + 1) j' := by
  obtain ⟨h0, h0', h1, h2, h3, h4, h5, h6, h7, h8⟩ := h
  have hl := size_mem hm ms[k] (List.getElem_mem hk)
  have hs1 := sizeF_append ns (ms.take k)
  have hs2 := sizeF_mono ms (k + 1)
  have hs3 := sizeF_take ms hk
  have hs4 := sizeF_append ns (ms.take (k + 1))
  have hap : appendJ j ms[k] = (0, { j with ws := j.ws ++ [⟨j.cur, j.end_, frameB j.gen j.nr ms[k]⟩], end_ := j.end_ + 12 + ms[k].length, nr := j.nr + 1 }) := by rw [appendJ, if_neg (by omega), if_neg (by omega)]
  refine ⟨_, hap, h0, h0', h1, h2, by show j.nr + 1 = ns.length + (k + 1); omega, by show j.end_ + 12 + ms[k].length = 16 + sizeF (ns ++ ms.take (k + 1)); omega, by simp, ?_, ?_, by simp; omega⟩
  · refine h6.push h1 ?_
    rw [h7, areaB_length, Nat.zero_add]
    exact h4
  · show flat (j.ws ++ [_]) = _
    unfold flat at h7 ⊢
    rw [List.map_append, List.flatten_append, h7]
    simp only [List.map_cons, List.map_nil, List.flatten_cons, List.flatten_nil, List.append_nil, h2, h3]
    rw [areaB, areaB, List.append_assoc]
    congr 1
    rw [List.take_succ_eq_append_getElem hk, ← List.append_assoc, framesB_push]
    congr 2
    simp
    omega

theorem at_dirty {os ns ms : List (List UInt8)} {k : Nat} {j : Jn} (h : AtJ os ns ms k j) : dirtyN j.ws = 16 + sizeF (ns ++ ms.take k) := by
  rw [← flat_length, h.2.2.2.2.2.2.2.2.1, areaB_length]

/-- What a crash at keep leaves opens as. -/
theorem at_open {os ns ms : List (List UInt8)} {j : Jn} {keep : Nat} (ho : sizeF os ≤ 400) (hn : sizeF ns ≤ 400) (hm : sizeF ms ≤ 200) (h : AtJ os ns ms ms.length j) (_hk : keep ≤ 16 + sizeF (ns ++ ms)) :
    (keep < 16 + sizeF ns ∧ ∃ j', openJ (crashJ j keep) = some (j', os)) ∨
    (16 + sizeF ns ≤ keep ∧ ∃ m j', m ≤ ms.length ∧ openJ (crashJ j keep) = some (j', ns ++ ms.take m) ∧ 16 + sizeF (ns ++ ms.take m) ≤ keep ∧ (m = ms.length ∨ (m < ms.length ∧ keep < 16 + sizeF (ns ++ ms.take (m + 1))))) := by
  obtain ⟨h0, h0', h1, h2, h3, h4, h5, h6, h7, h8⟩ := h
  rw [List.take_length] at h7
  have hs := sizeF_append ns ms
  have hb : readA (areaB 2 os []) = ⟨3, 2, os, 16 + sizeF os⟩ := by
    have h := readA_whole (g := 2) (base := os) (more := []) (by decide) (by simpa using (by omega : 16 + sizeF os ≤ 1048576)) (fun r hr => by
      have := size_mem ho r (by simpa using hr); omega)
    rwa [List.append_nil] at h
  have hcr : crashJ j keep = (if keep = 0 then headB 1 0 else (areaB 3 ns ms).take keep, areaB 2 os []) := by
    show crashD j.ws keep (j.dA, j.dB) = _
    rw [h0, h0']
    by_cases hk0 : keep = 0
    · subst hk0
      rw [if_pos rfl]; exact crash_zero _ _
    · rw [if_neg hk0]
      have h := crash_chain j.ws [] (areaB 2 os []) keep h6
      rw [h7, List.nil_append] at h
      rw [← h]
      cases hw : j.ws with
      | nil => exact absurd hw h5
      | cons x ws =>
        rw [hw] at h6
        rw [crashD, crashD, if_neg (by omega), if_neg (by omega)]
        congr 1
        simp [lay, h6.1, h6.2.1]
  rw [hcr]
  by_cases hlt : keep < 16 + sizeF ns
  · left
    refine ⟨hlt, ?_⟩
    unfold openJ
    simp only [hb]
    by_cases hk0 : keep = 0
    · subst hk0
      have ha : readA (headB 1 0) = ⟨3, 1, [], 16⟩ := by
        have h := readA_whole (g := 1) (base := []) (more := []) (by decide) (by decide) (by simp)
        simpa [areaB, framesB, sizeF] using h
      simp only [if_true, ha]
      exact ⟨_, rfl⟩
    · rw [if_neg hk0]
      by_cases h16 : keep < 16
      · rw [readA_short (b := (areaB 3 ns ms).take keep) (by simp; omega)]
        exact ⟨_, rfl⟩
      · rw [readA_torn (g := 3) (base := ns) (more := ms) (by decide) (by omega) (by omega) hlt]
        exact ⟨_, rfl⟩
  · right
    refine ⟨by omega, ?_⟩
    obtain ⟨m, hm1, hr, hm2, hm3⟩ := read_front (g := 3) (n := keep) (bs := ns) (ms := ms) (by decide) (by omega) (by omega) (by omega)
    refine ⟨m, ⟨(areaB 3 ns ms).take keep, areaB 2 os [], [], 0, 3, (ns ++ ms.take m).length, 16 + sizeF (ns ++ ms.take m)⟩, hm1, ?_, hm2, hm3⟩
    rw [if_neg (by omega)]
    unfold openJ
    simp only [hb, hr]
    rfl
end Go.Proofs.YtdpaaoeipconcaaDoor
