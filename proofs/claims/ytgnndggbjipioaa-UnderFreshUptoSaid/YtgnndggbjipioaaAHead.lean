/- weftlaw18.Book.keepList: a list of packets that is written full, and on beyond its end, in memory. Plain theorems; conditions as written. -/
import Derived.Test.YtgnndggbjipioaaAWhole
namespace Go.Proofs.Ytgnndggbjipioaa
open Go.RowKit

/-- k packets to t without bytes, their cells -/
def mrow (t : Int) : Nat → List Value
  | 0 => []
  | k + 1 => mrow t k ++ [.int .u32 t, .slice none 0 0]
theorem mrow_length (t : Int) (k : Nat) : (mrow t k).length = k * 2 := by
  induction k with
  | zero => rfl
  | succ k ih => rw [mrow, List.length_append, ih]; show k * 2 + 2 = _; omega
theorem mrow_add (t : Int) (a b : Nat) : mrow t (a + b) = mrow t a ++ mrow t b := by
  induction b with
  | zero => simp [mrow]
  | succ b ih => rw [← Nat.add_assoc, mrow, ih, mrow, List.append_assoc]
theorem mrow_take (t : Int) {a b : Nat} (h : b ≤ a) : (mrow t a).take (b * 2) = mrow t b := by
  obtain ⟨d, rfl⟩ := Nat.exists_eq_add_of_le h
  rw [mrow_add]
  exact List.take_left' (mrow_length t b)
theorem mrow_drop (t : Int) {a b : Nat} (h : b ≤ a) : (mrow t a).drop (b * 2) = mrow t (a - b) := by
  obtain ⟨d, rfl⟩ := Nat.exists_eq_add_of_le h
  rw [mrow_add, List.drop_left' (mrow_length t b)]
  congr 1
  omega
theorem mrow_get (t : Int) {k i : Nat} (h : i < k) : (mrow t k)[i * 2]? = some (.int .u32 t) ∧ (mrow t k)[i * 2 + 1]? = some (.slice none 0 0) := by
  obtain ⟨d, rfl⟩ := Nat.exists_eq_add_of_lt h
  have e : mrow t (i + d + 1) = mrow t i ++ ([.int .u32 t, .slice none 0 0] ++ mrow t d) := by
    rw [show i + d + 1 = i + (1 + d) by omega, mrow_add, mrow_add]
    rfl
  rw [e]
  have hl := mrow_length t i
  exact ⟨by rw [List.getElem?_append_right (by omega), hl, Nat.sub_self]; rfl, by rw [List.getElem?_append_right (by omega), hl, show i * 2 + 1 - i * 2 = 1 by omega]; rfl⟩
theorem mrow_splice (t : Int) {n k m : Nat} (hn : n ≤ k) : (mrow t k).take (n * 2) ++ mrow t m ++ (mrow t k).drop ((n + m) * 2) = mrow t (max k (n + m)) := by
  rw [mrow_take t hn]
  by_cases h : n + m ≤ k
  · rw [mrow_drop t h, Nat.max_eq_left h, ← mrow_add, ← mrow_add]
    congr 1
    omega
  · rw [List.drop_of_length_le (by rw [mrow_length]; omega), List.append_nil, ← mrow_add, Nat.max_eq_right (by omega)]

/-- The list's block: its first k places hold one packet. -/
def HSt (w : World) (A : Option Addr) (n c : Nat) (t : Int) (k : Nat) : Prop := (A = none ∧ n = 0 ∧ c = 0 ∧ k = 0) ∨ ∃ gl, A = some ⟨gl, 0, none⟩ ∧ RowS w 48 2 gl c (mrow t k)
theorem HSt.keep {w w' : World} {A : Option Addr} {n c : Nat} {t : Int} {k : Nat} {S : Nat → Prop} (h : HSt w A n c t k) (hk : Keeps S w w') (hS : ∀ x, A = some ⟨x, 0, none⟩ → S x) : HSt w' A n c t k := by
  rcases h with h | ⟨gl, e, h⟩
  · exact .inl h
  · exact .inr ⟨gl, e, h.keep hk (hS gl e)⟩
theorem RowS.head {S : Nat → Prop} {w : World} {g c k m : Nat} {t : Int} (h : RowS w 48 2 g c (mrow t k)) (hS : S g) (hm : m ≤ k) (hl : m ≤ 281474976710656) : HeadV S w (.slice (some ⟨g, 0, none⟩) m c) t := by
  have hle := h.le
  rw [mrow_length] at hle
  refine ⟨_, m, c, rfl, by omega, by rw [List.length_replicate]; exact hl, fun _ => ⟨g, 0, rfl, hS, fun i hi => ?_⟩⟩
  rw [List.length_replicate] at hi
  obtain ⟨g0, g1⟩ := mrow_get t (k := k) (i := i) (by omega)
  have hml := mrow_length t k
  rw [List.getElem_replicate]
  exact ⟨none, 0, by rw [Nat.zero_add, h.cell (by omega), g0], by rw [Nat.zero_add, h.cell (by omega), g1]; rfl, Nat.le_refl _, Bts.nil _ _ _⟩
theorem HSt.head {S : Nat → Prop} {w : World} {A : Option Addr} {n c k m : Nat} {t : Int} (h : HSt w A n c t k) (hS : ∀ y, A = some ⟨y, 0, none⟩ → S y) (hm : m ≤ k) (hl : m ≤ 281474976710656) : HeadV S w (.slice A m c) t := by
  rcases h with ⟨rfl, _, rfl, rfl⟩ | ⟨gl, rfl, hr⟩
  · obtain rfl : m = 0 := by omega
    exact ⟨none, 0, 0, rfl, Nat.le_refl _, Pks.nil _ _ _⟩
  · exact hr.head (hS gl rfl) hm hl

theorem RowS.push2 {w : World} {g c k : Nat} {t : Int} (h : RowS w 48 2 g c (mrow t k)) (hk : k < c) : RowS ((w.setCell ⟨g, k * 2, none⟩ (.int .u32 t)).setCell ⟨g, k * 2 + 1, none⟩ (.slice none 0 0)) 48 2 g c (mrow t (k + 1)) := by
  have hl := mrow_length t k
  have h1 := h.push (by omega) (.int .u32 t)
  have hl1 : (mrow t k ++ [Value.int .u32 t]).length = k * 2 + 1 := by rw [List.length_append, hl]; rfl
  have h2 := h1.push (by omega) (.slice none 0 0)
  rw [hl1, hl, List.append_assoc] at h2
  exact h2

/-- An append of m packets more. -/
def AppH (w : World) (A : Option Addr) (n c : Nat) (t : Int) (k m : Nat) (v : Value) (w' : World) : Prop :=
  (∃ gl, A = some ⟨gl, 0, none⟩ ∧ n + m ≤ c ∧ v = .slice A (n + m) c ∧ RowS w' 48 2 gl c (mrow t (max k (n + m))) ∧ Keeps (· ≠ gl) w w' ∧ w'.heap.size = w.heap.size) ∨
  (c < n + m ∧ ∃ cap', n + m ≤ cap' ∧ cap' ≤ maxLen ∧ v = .slice (some ⟨w.heap.size, 0, none⟩) (n + m) cap' ∧ RowS w' 48 2 w.heap.size cap' (mrow t (n + m)) ∧ Old w w' ∧ w'.heap.size = w.heap.size + 1)

theorem mrow_one (t : Int) (m : Nat) : ∀ u ∈ mrow t m, u.oneCell' = true := by
  induction m with
  | zero => simp [mrow]
  | succ m ih =>
    intro u hu
    rw [mrow] at hu
    rcases List.mem_append.1 hu with h | h
    · exact ih u h
    · simp at h
      rcases h with rfl | rfl <;> rfl

theorem run_appH (w : World) (ty : TypeId) {A : Option Addr} {n c : Nat} {t : Int} {k : Nat} (hst : HSt w A n c t k) (hn : n ≤ k) (ad : Addr) (m cc : Nat) (hnews : ∀ j u, (mrow t m)[j]? = some u → w.cell? (ad.add j) = some u)
    (hm : 0 < m) (hb : (n + m) * 32 ≤ 140737488355328) (h63 : n + m ≤ maxLen) :
    ∃ v' w', (Builtin.append_ #[34, 34] ty #[.slice A n c, .slice (some ad) m cc]).run Try.prog w = .ok v' w' ∧ AppH w A n c t k m v' w' := by
  rcases hst with ⟨rfl, rfl, rfl, rfl⟩ | ⟨gl, rfl, hr⟩
  · obtain ⟨i, hi0, hz0, hzs, hzb⟩ := info_parts info48
    have hrun := run_append_nil (P := Try.prog) w 34 ty 48 i _ Try.underlying34 hi0 hz0 ad m cc (mrow t m) (by rw [hzs, mrow_length]) hnews hm (by simp only [maxLen] at h63; omega) (by rw [hzb]; omega)
    have hge := grownCap_ge w m 0 48
    have hcm : grownCap w m 0 48 ≤ maxLen := grownCap_le_maxLen w m 0 48 (by simpa using h63)
    refine ⟨_, _, hrun, .inr ⟨by omega, grownCap w m 0 48, by omega, hcm, by rw [Nat.zero_add], ⟨_, heap_alloc_new w.drew _, ?_, ?_, ?_⟩, ((Keeps.refl _ _).drew).alloc _, by simp⟩⟩
    · simp only [Array.size_append, List.size_toArray, size_zeroCells, mrow_length]
      show m * 2 + (grownCap w m 0 48 - m) * 2 = _
      omega
    · rw [mrow_length]; omega
    · rw [Nat.zero_add]
      simp only [Array.toList_append]
      exact List.take_left' rfl
  · obtain ⟨v', w', hrun, hA⟩ := run_appS (P := Try.prog) w 34 ty 48 Try.underlying34 info48 (by rfl) hr (n := n) (by rw [mrow_length]; omega) ad m cc (mrow t m) (mrow_length t m) hnews (mrow_one t m) hm hb h63
    refine ⟨v', w', hrun, ?_⟩
    rcases hA with ⟨h1, h2, h3, h4, h5⟩ | ⟨h1, cap', h2, h3, h4, h5, h6, h7⟩
    · rw [mrow_splice t hn] at h3
      exact .inl ⟨gl, rfl, h1, h2, h3, h4, h5⟩
    · rw [mrow_take t hn, ← mrow_add] at h5
      exact .inr ⟨h1, cap', h2, h3, h4, h5, h6, h7⟩

theorem wpList_appH (w : World) {ops : Array Oper} {rest : List Oper} {o : Oper} {a : Act} {Q : Exit → Act → World → Prop} (hgd : o.guard = none) (s x : Operand)
    (ho : o.op = .call { callee := .builtin .append, args := #[s, x], argTypes := #[34, 34] }) {A : Option Addr} {n c : Nat} {t : Int} {k : Nat} (hs : a.eval s = .slice A n c) (hst : HSt w A n c t k) (hn : n ≤ k) (ad : Addr) (m cc : Nat) (hx : a.eval x = .slice (some ad) m cc)
    (hnews : ∀ j u, (mrow t m)[j]? = some u → w.cell? (ad.add j) = some u) (hm : 0 < m) (hb : (n + m) * 32 ≤ 140737488355328) (h63 : n + m ≤ maxLen)
    (h : ∀ v' w', AppH w A n c t k m v' w' → wpList Try.prog ops Q rest (a.put o.dst v') w') : wpList Try.prog ops Q (o :: rest) a w := by
  refine wpList_plain hgd fun K hK => ?_
  obtain ⟨v', w', hrun, h2⟩ := run_appH w o.type hst hn ad m cc hnews hm hb h63
  unfold Oper.wp execOp
  simp only [ho, resolve, invoke, builtin, Sem.run_bind, Sem.run_pure, Result.andThen_ok, List.map_toArray, List.map_cons, List.map_nil, hs, hx, hrun]
  exact hK _ _ (h v' w' h2)
theorem AppH.two {w w' : World} {A : Option Addr} {n c k m : Nat} {t : Int} {v : Value} (h : AppH w A n c t k m v w') (hst : HSt w A n c t k) (hc : c ≤ maxLen) (hlt : ∀ x, A = some ⟨x, 0, none⟩ → x < w.heap.size) :
    ∃ b1 c1 f, v = .slice (some ⟨b1, 0, none⟩) (n + m) c1 ∧ n + m ≤ c1 ∧ c1 ≤ maxLen ∧ HSt w' A n c t f ∧ k ≤ f ∧ ((A = some ⟨b1, 0, none⟩ ∧ c1 = c ∧ n + m ≤ f) ∨ (w.heap.size ≤ b1 ∧ RowS w' 48 2 b1 c1 (mrow t (n + m)))) ∧ Keeps (fun x => A ≠ some ⟨x, 0, none⟩) w w' ∧ b1 < w'.heap.size := by
  rcases h with ⟨gl, rfl, h1, h2, h3, h4, h5⟩ | ⟨h1, cap', h2, h3, h4, h5, h6, h7⟩
  · exact ⟨gl, c, max k (n + m), h2, h1, hc, .inr ⟨gl, rfl, h3⟩, by omega, .inl ⟨rfl, rfl, by omega⟩, h4.mono fun x _ hx e => hx (by rw [e]), h3.lt⟩
  · exact ⟨w.heap.size, cap', k, h4, h2, h3, hst.keep h6 fun _ _ => trivial, Nat.le_refl _, .inr ⟨Nat.le_refl _, h5⟩, h6.old _, h5.lt⟩
end Go.Proofs.Ytgnndggbjipioaa
