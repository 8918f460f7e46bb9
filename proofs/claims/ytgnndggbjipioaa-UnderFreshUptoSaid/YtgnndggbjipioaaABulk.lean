/- The arguments of UnderFresh, opened with their bulk: lists are no longer than what is read. No conditions. -/
import Derived.Test.YtgnndggbjipioaaAOpen
import Derived.Test.YtgnndggbjipioaaAPlaced
namespace Go.Proofs.Ytgnndggbjipioaa
open Go.RowKit Go.ChangeShapes Go.WideShapes Go.Deep Go.ChangeAt

section
variable {H : Type}
theorem bulk_pos (d : DataW H) : 1 ≤ Rows.uptoBulk d := by
  unfold Rows.uptoBulk
  split <;> omega
theorem bulk_mem {d : DataW H} : ∀ {es : List (DataW H)}, d ∈ es → Rows.uptoBulk d ≤ Rows.uptoBulkAll es
  | e :: es, h => by
    rw [Rows.uptoBulkAll]
    rcases List.mem_cons.1 h with rfl | h
    · omega
    · have := bulk_mem h; omega
theorem bulk_len {lo : Nat} : ∀ {es : List (DataW H)}, (∀ d ∈ es, lo ≤ Rows.uptoBulk d) → es.length * lo ≤ Rows.uptoBulkAll es
  | [], _ => by simp
  | e :: es, h => by
    rw [Rows.uptoBulkAll, List.length_cons, Nat.add_mul, Nat.one_mul]
    have h1 := h e (by simp)
    have h2 := bulk_len (es := es) fun d hd => h d (by simp [hd])
    omega
end

section
variable {H : Type} {enc : TypeId × Value → H} {w : World} {held : Bool} {fuel : Nat} {cs : List Value} {x : DataW H × List MemPlace}

theorem open_rows2 {α : Type} [Inhabited α] {t e n lo : Nat} {Q : Nat → Nat → α → Prop} (ht : Try.prog.underlying t = some (.slice e)) (hn : Try.prog.cellsOf e = n) (h0 : 0 < n) (hby : 1 ≤ Try.prog.bytesOf e) (hF : Fit t x.1)
    (h : DataW.trod enc Try.prog w 0 (fun _ => true) held fuel t cs = some x)
    (hlo : ∀ (fuel : Nat) (cs' : List Value) (y : DataW H × List MemPlace), DataW.trod enc Try.prog w 0 (fun _ => true) held fuel e cs' = some y → lo ≤ Rows.uptoBulk y.1)
    (hel : ∀ (fuel : Nat) (b o : Nat) (cs' : List Value) (y : DataW H × List MemPlace), DataW.trod enc Try.prog w 0 (fun _ => true) held fuel e cs' = some y → Fit e y.1 → Rows.uptoBulk y.1 ≤ Rows.uptoBulk x.1 → cs'.length = n → (∀ i, i < n → w.cell? ⟨b, o + i, none⟩ = cs'[i]?) → ∃ a, Q b o a) :
    ∃ A c, ∃ l : List α, cs = [.slice A l.length c] ∧ l.length ≤ c ∧ l.length ≤ 281474976710656 ∧ l.length * Try.prog.bytesOf e ≤ reachBytes ∧ l.length * lo ≤ Rows.uptoBulk x.1 ∧ (l ≠ [] → ∃ b o, A = some ⟨b, o, none⟩ ∧ b < w.heap.size ∧ ∀ j (hj : j < l.length), Q b (o + j * n) l[j]) := by
  rcases open_slice ht h with ⟨rfl, _⟩ | ⟨a, len, cap, m, f, D, Pl, rfl, _, hl, hm, hmm, rfl, hi⟩
  · exact ⟨none, 0, [], rfl, by simp, by simp, by simp, by simp, fun h => absurd rfl h⟩
  · rw [hn] at hi
    simp only [if_true] at hmm
    obtain ⟨hw, hfe⟩ := fit_slice ht hF
    have h2 : len * Try.prog.bytesOf e ≤ reachBytes := Nat.le_trans (Nat.mul_le_mul_right _ (by simp)) hw
    have hml : len ≤ 281474976710656 := by
      have h1 := Nat.mul_le_mul_left len hby
      have h3 := h2
      unfold reachBytes at h3
      omega
    have hlen : len * lo ≤ Rows.uptoBulkAll ((List.range len).map D) := by
      have h3 := bulk_len (lo := lo) (es := (List.range len).map D) fun d hd => by
        obtain ⟨i, hi', rfl⟩ := List.mem_map.1 hd
        obtain ⟨cs', _, hf⟩ := hi i (by have := List.mem_range.1 hi'; omega)
        exact hlo _ _ _ hf
      simpa using h3
    have hbe : ∀ i, i < len → Rows.uptoBulk (D i) ≤ Rows.uptoBulkAll ((List.range len).map D) := fun i hil => bulk_mem (List.mem_map.2 ⟨i, by simpa using hil, rfl⟩)
    by_cases hz : len = 0
    · subst hz
      exact ⟨some a, cap, [], rfl, by simp, by simp, by simp, by simp, fun h => absurd rfl h⟩
    · obtain ⟨b, o, s⟩ := a
      have hs : s = none := by
        obtain ⟨cs', hc, _⟩ := hi 0 (by omega)
        obtain ⟨_, hcl, hat⟩ := World.cells?_some hc
        have h1 := hat 0 h0
        rw [List.getElem?_eq_getElem (by omega)] at h1
        have := spot_of_cell h1
        simpa [Addr.add] using this
      subst hs
      have hb : b < w.heap.size := by
        obtain ⟨cs', hc, _⟩ := hi 0 (by omega)
        have := World.cells?_block hc h0
        simpa [Addr.add] using this
      have hq : ∀ i, i < len → ∃ a, Q b (o + i * n) a := fun i hil => by
        obtain ⟨cs', hc, hf⟩ := hi i (by omega)
        obtain ⟨_, hcl, hat⟩ := World.cells?_some hc
        refine hel _ b (o + i * n) cs' _ hf (hfe _ (List.mem_map.2 ⟨i, by simpa using hil, rfl⟩)) ?_ hcl fun j hj => ?_
        · have := hbe i hil
          simp only [Rows.uptoBulk]
          omega
        · have := hat j hj
          rwa [add_none, add_none] at this
      obtain ⟨l, rfl, hlj⟩ := list_of hq
      refine ⟨_, cap, l, rfl, hl, by omega, h2, ?_, fun _ => ⟨b, o, rfl, hb, hlj⟩⟩
      simp only [Rows.uptoBulk]
      omega

theorem open_bytes2 (h : DataW.trod enc Try.prog w 0 (fun _ => true) held fuel 46 cs = some x) (hF : Fit 46 x.1) : ∃ A c, ∃ bs : List UInt8, cs = [.slice A bs.length c] ∧ bs.length ≤ c ∧ bs.length ≤ Rows.uptoBulk x.1 ∧ Bts (fun k => k < w.heap.size) w A bs := by
  obtain ⟨A, c, l, rfl, hc, hl, _, hb, hx⟩ := open_rows2 (lo := 1) (Q := fun b o (u : UInt8) => w.cell? ⟨b, o, none⟩ = some (.int .u8 u.toNat)) Try.underlying46 (n := 1) (by kernel_rfl) (by omega) (by rw [show Try.prog.bytesOf 5 = 1 by kernel_rfl]; omega) hF h (fun _ _ y _ => bulk_pos y.1) (fun _ b o cs' y hy hF _ hl hc => by
    obtain ⟨u, rfl⟩ := open_u8 hy
    exact ⟨u, hc 0 (by omega)⟩)
  exact ⟨A, c, l, rfl, hc, by omega, hl, by simpa using hx⟩

theorem trod_field2 {t : TypeId} {fs : Array Field} (ht : Try.prog.underlying t = some (.struct fs)) (hone : oneCellFields Try.prog fs = true) (hC : Try.prog.cellsOf t = fs.size) (h : DataW.trod enc Try.prog w 0 (fun _ => true) held fuel t cs = some x) (hF : Fit t x.1) :
    fs.size + 1 ≤ Rows.uptoBulk x.1 ∧ cs.length = fs.size ∧ ∀ (i : Nat) (f : Field), fs[i]? = some f → ∃ v y n, cs[i]? = some v ∧ DataW.trod enc Try.prog w 0 (fun _ => true) held n f.type [v] = some y ∧ Fit f.type y.1 ∧ Rows.uptoBulk y.1 ≤ Rows.uptoBulk x.1 := by
  obtain ⟨xs, n, _, rfl, hl, hxl, hf⟩ := DataW.trod_struct ht h
  rw [hC] at hl
  refine ⟨?_, hl, fun i f hi => ?_⟩
  · have h3 := bulk_len (lo := 1) (es := xs.map (·.1)) fun d _ => bulk_pos d
    rw [List.length_map] at h3
    simp only [Rows.uptoBulk]
    omega
  have h1 := hf i f hi
  obtain ⟨ho, hk⟩ := hone_of hone i f hi
  have hil : i < fs.size := (Array.getElem?_eq_some_iff.1 hi).1
  rw [ho, hk, List.drop_eq_getElem_cons (by omega), List.take_succ_cons, List.take_zero, List.getElem?_eq_getElem (by omega)] at h1
  refine ⟨_, _, n, List.getElem?_eq_getElem (by omega), h1, fit_struct ht hF hi (by simp [List.getElem?_eq_getElem (show i < xs.length by omega)]), ?_⟩
  have h4 := bulk_mem (d := (xs[i]'(by omega)).1) (es := xs.map (·.1)) (List.mem_map.2 ⟨_, List.getElem_mem _, rfl⟩)
  simp only [Rows.uptoBulk]
  omega

theorem open_pk2 (h : DataW.trod enc Try.prog w 0 (fun _ => true) held fuel 48 cs = some x) (hF : Fit 48 x.1) : ∃ t A c, ∃ bs : List UInt8, cs = [.int .u32 t, .slice A bs.length c] ∧ bs.length ≤ c ∧ Bts (fun k => k < w.heap.size) w A bs ∧ bs.length ≤ Rows.uptoBulk x.1 := by
  obtain ⟨_, hl, hf⟩ := trod_field2 Try.underlying48 (by kernel_rfl) (by kernel_rfl) h hF
  match cs, hl with
  | [c0, c1], _ =>
    obtain ⟨v0, y0, n0, p0, e0, _, _⟩ := hf 0 _ rfl
    obtain ⟨v1, y1, n1, p1, e1, f1, b1⟩ := hf 1 _ rfl
    obtain rfl : c0 = v0 := by simpa using p0
    obtain rfl : c1 = v1 := by simpa using p1
    obtain ⟨t, h0, _⟩ := DataW.trod_int (k := .u32) (by kernel_rfl) e0
    obtain ⟨A, c, bs, h1, hc, hbl, hb⟩ := open_bytes2 e1 f1
    exact ⟨t, A, c, bs, by injection h0 with h0; injection h1 with h1; rw [h0, h1], hc, hb, by omega⟩

theorem open_pks2 (h : DataW.trod enc Try.prog w 0 (fun _ => true) held fuel 34 cs = some x) (hF : Fit 34 x.1) : ∃ A c, ∃ ss : List Pk, cs = [.slice A ss.length c] ∧ ss.length ≤ c ∧ Pks (fun k => k < w.heap.size) w A ss ∧ ss.length ≤ Rows.uptoBulk x.1 ∧ ∀ p ∈ ss, p.2.length ≤ Rows.uptoBulk x.1 := by
  obtain ⟨A, c, l, rfl, hc, hl, hl2, hb, hx⟩ := open_rows2 (lo := 1) (α := Pk) (Q := fun b o (p : Pk) => p.2.length ≤ Rows.uptoBulk x.1 ∧ ∃ A' c', w.cell? ⟨b, o, none⟩ = some (.int .u32 p.1) ∧ w.cell? ⟨b, o + 1, none⟩ = some (.slice A' p.2.length c') ∧ p.2.length ≤ c' ∧ Bts (fun k => k < w.heap.size) w A' p.2) Try.underlying34 (n := 2) (by kernel_rfl) (by omega) (by rw [show Try.prog.bytesOf 48 = 32 by kernel_rfl]; omega) hF h (fun _ _ y _ => bulk_pos y.1) (fun _ b o cs' y hy hF hbk hl hc => by
    obtain ⟨t, A, c, bs, rfl, h1, h2, h3⟩ := open_pk2 hy hF
    exact ⟨(t, bs), by show bs.length ≤ _; omega, A, c, hc 0 (by omega), hc 1 (by omega), h1, h2⟩)
  refine ⟨A, c, l, rfl, hc, ⟨hl, fun hne => ?_⟩, by omega, fun p hp => ?_⟩
  · obtain ⟨b, o, e, hb', hj⟩ := hx hne
    exact ⟨b, o, e, hb', fun i hi => (hj i hi).2⟩
  · obtain ⟨b, o, _, _, hj⟩ := hx (by rintro rfl; simp at hp)
    obtain ⟨i, hi, rfl⟩ := List.getElem_of_mem hp
    exact (hj i hi).1

theorem open_op2 (h : DataW.trod enc Try.prog w 0 (fun _ => true) held fuel 36 cs = some x) (hF : Fit 36 x.1) : ∃ k A c i a, ∃ ss : List Pk, ∃ m : UInt8, cs = [.int .i64 k, .slice A ss.length c, .int .i64 i, .int .i64 a, .int .u8 m.toNat] ∧ ss.length ≤ c ∧ Pks (fun k => k < w.heap.size) w A ss ∧ ss.length ≤ Rows.uptoBulk x.1 ∧ ∀ p ∈ ss, p.2.length ≤ Rows.uptoBulk x.1 := by
  obtain ⟨_, hl, hf⟩ := trod_field2 Try.underlying36 (by kernel_rfl) (by kernel_rfl) h hF
  match cs, hl with
  | [c0, c1, c2, c3, c4], _ =>
    obtain ⟨v0, y0, n0, p0, e0, _, _⟩ := hf 0 _ rfl
    obtain ⟨v1, y1, n1, p1, e1, f1, b1⟩ := hf 1 _ rfl
    obtain ⟨v2, y2, n2, p2, e2, _, _⟩ := hf 2 _ rfl
    obtain ⟨v3, y3, n3, p3, e3, _, _⟩ := hf 3 _ rfl
    obtain ⟨v4, y4, n4, p4, e4, _, _⟩ := hf 4 _ rfl
    obtain rfl : c0 = v0 := by simpa using p0
    obtain rfl : c1 = v1 := by simpa using p1
    obtain rfl : c2 = v2 := by simpa using p2
    obtain rfl : c3 = v3 := by simpa using p3
    obtain rfl : c4 = v4 := by simpa using p4
    obtain ⟨k, h0, _⟩ := DataW.trod_int (k := .i64) (by kernel_rfl) e0
    obtain ⟨A, c, ss, h1, hc, hb, hl2, hps⟩ := open_pks2 e1 f1
    obtain ⟨i, h2, _⟩ := DataW.trod_int (k := .i64) (by kernel_rfl) e2
    obtain ⟨a, h3, _⟩ := DataW.trod_int (k := .i64) (by kernel_rfl) e3
    obtain ⟨m, h4⟩ := open_u8 e4
    exact ⟨k, A, c, i, a, ss, m, by injection h0 with h0; injection h1 with h1; injection h2 with h2; injection h3 with h3; injection h4 with h4; rw [h0, h1, h2, h3, h4], hc, hb, by omega, fun p hp => by have := hps p hp; omega⟩

theorem op_lo (h : DataW.trod enc Try.prog w 0 (fun _ => true) held fuel 36 cs = some x) : 6 ≤ Rows.uptoBulk x.1 := by
  obtain ⟨xs, n, _, rfl, hl, hxl, hf⟩ := DataW.trod_struct Try.underlying36 h
  have h3 := bulk_len (lo := 1) (es := xs.map (·.1)) fun d _ => bulk_pos d
  rw [List.length_map] at h3
  have h4 : xs.length = 5 := hxl
  simp only [Rows.uptoBulk]
  omega

theorem open_ops2 (h : DataW.trod enc Try.prog w 0 (fun _ => true) held fuel 28 cs = some x) (hF : Fit 28 x.1) : ∃ A c, ∃ l : List OpD, cs = [.slice A l.length c] ∧ l.length ≤ c ∧ Ops (fun k => k < w.heap.size) w A l ∧ l.length * 6 ≤ Rows.uptoBulk x.1 ∧ ∀ p ∈ l, p.sents.length ≤ Rows.uptoBulk x.1 ∧ ∀ r ∈ p.sents, r.2.length ≤ Rows.uptoBulk x.1 := by
  obtain ⟨A, c, l, rfl, hc, hl, hl2, hb, hx⟩ := open_rows2 (lo := 6) (α := OpD) (Q := fun b o (p : OpD) => (p.sents.length ≤ Rows.uptoBulk x.1 ∧ ∀ r ∈ p.sents, r.2.length ≤ Rows.uptoBulk x.1) ∧ ∃ A' c', w.cell? ⟨b, o, none⟩ = some (.int .i64 p.kind) ∧ w.cell? ⟨b, o + 1, none⟩ = some (.slice A' p.sents.length c') ∧ w.cell? ⟨b, o + 2, none⟩ = some (.int .i64 p.i) ∧ w.cell? ⟨b, o + 3, none⟩ = some (.int .i64 p.at_) ∧ w.cell? ⟨b, o + 4, none⟩ = some (.int .u8 p.mask.toNat) ∧ p.sents.length ≤ c' ∧ Pks (fun k => k < w.heap.size) w A' p.sents) Try.underlying28 (n := 5) (by kernel_rfl) (by omega) (by rw [show Try.prog.bytesOf 36 = 56 by kernel_rfl]; omega) hF h (fun _ _ y hy => op_lo hy) (fun _ b o cs' y hy hF hbk hl hc => by
    obtain ⟨k, A, c, i, a, ss, m, rfl, h1, h2, h3, h4⟩ := open_op2 hy hF
    exact ⟨⟨k, ss, i, a, m⟩, ⟨by show ss.length ≤ _; omega, fun r hr => by have := h4 r hr; omega⟩, A, c, hc 0 (by omega), hc 1 (by omega), hc 2 (by omega), hc 3 (by omega), hc 4 (by omega), h1, h2⟩)
  refine ⟨A, c, l, rfl, hc, ⟨hl, fun hne => ?_⟩, hb, fun p hp => ?_⟩
  · obtain ⟨b, o, e, hb', hj⟩ := hx hne
    exact ⟨b, o, e, hb', fun i hi => (hj i hi).2⟩
  · obtain ⟨b, o, _, _, hj⟩ := hx (by rintro rfl; simp at hp)
    obtain ⟨i, hi, rfl⟩ := List.getElem_of_mem hp
    exact (hj i hi).1
end
end Go.Proofs.Ytgnndggbjipioaa
