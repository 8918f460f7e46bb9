/- The arguments of JournalFresh, opened with their bulk: lists are no longer than what is read. No conditions. -/
import Derived.Test.YtdpaaoeipconcaaDoorJArgs
namespace Go.Proofs.YtdpaaoeipconcaaDoor
open Go.RowKit Go.ChangeShapes Go.WideShapes Go.Deep Go.ChangeAt

section
variable {H : Type}
theorem bulk_pos (d : DataW H) : 1 ≤ Rows.uptoBulk d := by
  unfold Rows.uptoBulk
  split <;> omega
theorem bulk_mem {d : DataW H} : ∀ {es : List (DataW H)}, d ∈ es → Rows.uptoBulk d ≤ Rows.uptoBulkAll es
  | e :: es, h => by
    rw [Rows.uptoBulkAll]
    rcases List.mem_cons.1 h with rfl | h
    · omega
    · have := bulk_mem h; omega
theorem bulk_len {lo : Nat} : ∀ {es : List (DataW H)}, (∀ d ∈ es, lo ≤ Rows.uptoBulk d) → es.length * lo ≤ Rows.uptoBulkAll es
  | [], _ => by simp
  | e :: es, h => by
    rw [Rows.uptoBulkAll, List.length_cons, Nat.add_mul, Nat.one_mul]
    have h1 := h e (by simp)
    have h2 := bulk_len (es := es) fun d hd => h d (by simp [hd])
    omega
end

section
variable {H : Type} {enc : TypeId × Value → H} {w : World} {held : Bool} {fuel : Nat} {cs : List Value} {x : DataW H × List MemPlace}

theorem open_rows2 {α : Type} [Inhabited α] {t e n lo : Nat} {Q : Nat → Nat → α → Prop} (ht : Tryd.prog.underlying t = some (.slice e)) (hn : Tryd.prog.cellsOf e = n) (h0 : 0 < n) (hby : 1 ≤ Tryd.prog.bytesOf e) (hF : Fit t x.1)
    (h : DataW.trod enc Tryd.prog w 0 (fun _ => true) held fuel t cs = some x)
    (hlo : ∀ (fuel : Nat) (cs' : List Value) (y : DataW H × List MemPlace), DataW.trod enc Tryd.prog w 0 (fun _ => true) held fuel e cs' = some y → lo ≤ Rows.uptoBulk y.1)
    (hel : ∀ (fuel : Nat) (b o : Nat) (cs' : List Value) (y : DataW H × List MemPlace), DataW.trod enc Tryd.prog w 0 (fun _ => true) held fuel e cs' = some y → Fit e y.1 → Rows.uptoBulk y.1 ≤ Rows.uptoBulk x.1 → cs'.length = n → (∀ i, i < n → w.cell? ⟨b, o + i, none⟩ = cs'[i]?) → ∃ a, Q b o a) :
    ∃ A c, ∃ l : List α, cs = [.slice A l.length c] ∧ l.length ≤ c ∧ l.length ≤ 281474976710656 ∧ l.length * Tryd.prog.bytesOf e ≤ reachBytes ∧ l.length * lo ≤ Rows.uptoBulk x.1 ∧ (l ≠ [] → ∃ b o, A = some ⟨b, o, none⟩ ∧ b < w.heap.size ∧ ∀ j (hj : j < l.length), Q b (o + j * n) l[j]) := by
  rcases open_slice ht h with ⟨rfl, _⟩ | ⟨a, len, cap, m, f, D, Pl, rfl, _, hl, hm, hmm, rfl, hi⟩
  · exact ⟨none, 0, [], rfl, by simp, by simp, by simp, by simp, fun h => absurd rfl h⟩
  · rw [hn] at hi
    simp only [if_true] at hmm
    obtain ⟨hw, hfe⟩ := fit_slice ht hF
    have h2 : len * Tryd.prog.bytesOf e ≤ reachBytes := Nat.le_trans (Nat.mul_le_mul_right _ (by simp)) hw
    have hml : len ≤ 281474976710656 := by
      have h1 := Nat.mul_le_mul_left len hby
      have h3 := h2
      unfold reachBytes at h3
      omega
    have hlen : len * lo ≤ Rows.uptoBulkAll ((List.range len).map D) := by
      have h3 := bulk_len (lo := lo) (es := (List.range len).map D) fun d hd => by
        obtain ⟨i, hi', rfl⟩ := List.mem_map.1 hd
        obtain ⟨cs', _, hf⟩ := hi i (by have := List.mem_range.1 hi'; omega)
        exact hlo _ _ _ hf
      simpa using h3
    have hbe : ∀ i, i < len → Rows.uptoBulk (D i) ≤ Rows.uptoBulkAll ((List.range len).map D) := fun i hil => bulk_mem (List.mem_map.2 ⟨i, by simpa using hil, rfl⟩)
    by_cases hz : len = 0
    · subst hz
      exact ⟨some a, cap, [], rfl, by simp, by simp, by simp, by simp, fun h => absurd rfl h⟩
    · obtain ⟨b, o, s⟩ := a
      have hs : s = none := by
        obtain ⟨cs', hc, _⟩ := hi 0 (by omega)
        obtain ⟨_, hcl, hat⟩ := World.cells?_some hc
        have h1 := hat 0 h0
        rw [List.getElem?_eq_getElem (by omega)] at h1
        have := spot_of_cell h1
        simpa [Addr.add] using this
      subst hs
      have hb : b < w.heap.size := by
        obtain ⟨cs', hc, _⟩ := hi 0 (by omega)
        have := World.cells?_block hc h0
        simpa [Addr.add] using this
      have hq : ∀ i, i < len → ∃ a, Q b (o + i * n) a := fun i hil => by
        obtain ⟨cs', hc, hf⟩ := hi i (by omega)
        obtain ⟨_, hcl, hat⟩ := World.cells?_some hc
        refine hel _ b (o + i * n) cs' _ hf (hfe _ (List.mem_map.2 ⟨i, by simpa using hil, rfl⟩)) ?_ hcl fun j hj => ?_
        · have := hbe i hil
          simp only [Rows.uptoBulk]
          omega
        · have := hat j hj
          rwa [add_none, add_none] at this
      obtain ⟨l, rfl, hlj⟩ := list_of hq
      refine ⟨_, cap, l, rfl, hl, by omega, h2, ?_, fun _ => ⟨b, o, rfl, hb, hlj⟩⟩
      simp only [Rows.uptoBulk]
      omega

theorem open_bytes2 (h : DataW.trod enc Tryd.prog w 0 (fun _ => true) held fuel 22 cs = some x) (hF : Fit 22 x.1) : ∃ A c, ∃ bs : List UInt8, cs = [.slice A bs.length c] ∧ bs.length ≤ c ∧ bs.length ≤ Rows.uptoBulk x.1 ∧ Bts (fun k => k < w.heap.size) w A bs := by
  obtain ⟨A, c, l, rfl, hc, hl, _, hb, hx⟩ := open_rows2 (lo := 1) (Q := fun b o (u : UInt8) => w.cell? ⟨b, o, none⟩ = some (.int .u8 u.toNat)) Tryd.underlying22 (n := 1) (by kernel_rfl) (by omega) (by rw [show Tryd.prog.bytesOf 5 = 1 by kernel_rfl]; omega) hF h (fun _ _ y _ => bulk_pos y.1) (fun _ b o cs' y hy hF _ hl hc => by
    obtain ⟨u, rfl⟩ := open_u8 hy
    exact ⟨u, hc 0 (by omega)⟩)
  exact ⟨A, c, l, rfl, hc, by omega, hl, by simpa using hx⟩

theorem trod_field2 {t : TypeId} {fs : Array Field} (ht : Tryd.prog.underlying t = some (.struct fs)) (hone : oneCellFields Tryd.prog fs = true) (hC : Tryd.prog.cellsOf t = fs.size) (h : DataW.trod enc Tryd.prog w 0 (fun _ => true) held fuel t cs = some x) (hF : Fit t x.1) :
    fs.size + 1 ≤ Rows.uptoBulk x.1 ∧ cs.length = fs.size ∧ ∀ (i : Nat) (f : Field), fs[i]? = some f → ∃ v y n, cs[i]? = some v ∧ DataW.trod enc Tryd.prog w 0 (fun _ => true) held n f.type [v] = some y ∧ Fit f.type y.1 ∧ Rows.uptoBulk y.1 ≤ Rows.uptoBulk x.1 := by
  obtain ⟨xs, n, _, rfl, hl, hxl, hf⟩ := DataW.trod_struct ht h
  rw [hC] at hl
  refine ⟨?_, hl, fun i f hi => ?_⟩
  · have h3 := bulk_len (lo := 1) (es := xs.map (·.1)) fun d _ => bulk_pos d
    rw [List.length_map] at h3
    simp only [Rows.uptoBulk]
    omega
  have h1 := hf i f hi
  obtain ⟨ho, hk⟩ := hone_of hone i f hi
  have hil : i < fs.size := (Array.getElem?_eq_some_iff.1 hi).1
  rw [ho, hk, List.drop_eq_getElem_cons (by omega), List.take_succ_cons, List.take_zero, List.getElem?_eq_getElem (by omega)] at h1
  refine ⟨_, _, n, List.getElem?_eq_getElem (by omega), h1, fit_struct ht hF hi (by simp [List.getElem?_eq_getElem (show i < xs.length by omega)]), ?_⟩
  have h4 := bulk_mem (d := (xs[i]'(by omega)).1) (es := xs.map (·.1)) (List.mem_map.2 ⟨_, List.getElem_mem _, rfl⟩)
  simp only [Rows.uptoBulk]
  omega

theorem open_recs2 (h : DataW.trod enc Tryd.prog w 0 (fun _ => true) held fuel 35 cs = some x) (hF : Fit 35 x.1) : ∃ A c, ∃ rs : List (List UInt8), cs = [.slice A rs.length c] ∧ rs.length ≤ c ∧ rs.length ≤ 6000000000000 ∧ rs.length ≤ Rows.uptoBulk x.1 ∧ (∀ r ∈ rs, r.length ≤ Rows.uptoBulk x.1) ∧ Rcs (fun k => k < w.heap.size) w A rs := by
  obtain ⟨A, c, l, rfl, hc, hl, hl2, hb, hx⟩ := open_rows2 (lo := 1) (α := List UInt8) (Q := fun b o (p : List UInt8) => p.length ≤ Rows.uptoBulk x.1 ∧ ∃ A' c', w.cell? ⟨b, o, none⟩ = some (.slice A' p.length c') ∧ p.length ≤ c' ∧ Bts (fun k => k < w.heap.size) w A' p) Tryd.underlying35 (n := 1) (by kernel_rfl) (by omega) (by rw [show Tryd.prog.bytesOf 22 = 24 by kernel_rfl]; omega) hF h (fun _ _ y _ => bulk_pos y.1) (fun _ b o cs' y hy hF hbk hl hc => by
    obtain ⟨A, c, bs, rfl, h1, h3, h2⟩ := open_bytes2 hy hF
    exact ⟨bs, by omega, A, c, hc 0 (by omega), h1, h2⟩)
  rw [show Tryd.prog.bytesOf 22 = 24 by kernel_rfl] at hl2
  unfold reachBytes at hl2
  refine ⟨A, c, l, rfl, hc, by omega, by omega, fun r hr => ?_, hl, fun hne => ?_⟩
  · obtain ⟨b, o, _, _, hj⟩ := hx (by rintro rfl; simp at hr)
    obtain ⟨i, hi, rfl⟩ := List.getElem_of_mem hr
    exact (hj i hi).1
  · obtain ⟨b, o, e, hb', hj⟩ := hx hne
    exact ⟨b, o, e, hb', fun i hi => by simpa using (hj i hi).2⟩

theorem open_disk2 (h : DataW.trod enc Tryd.prog w 0 (fun _ => true) held fuel 24 cs = some x) (hF : Fit 24 x.1) : ∃ A c B d, ∃ xs ys : List UInt8, cs = [.slice A xs.length c, .slice B ys.length d] ∧ xs.length ≤ c ∧ ys.length ≤ d ∧ xs.length ≤ Rows.uptoBulk x.1 ∧ ys.length ≤ Rows.uptoBulk x.1 ∧ Bts (fun k => k < w.heap.size) w A xs ∧ Bts (fun k => k < w.heap.size) w B ys := by
  obtain ⟨_, hl, hf⟩ := trod_field2 Tryd.underlying24 (by kernel_rfl) (by kernel_rfl) h hF
  match cs, hl with
  | [c0, c1], _ =>
    obtain ⟨v0, y0, n0, p0, e0, f0, b0⟩ := hf 0 _ rfl
    obtain ⟨v1, y1, n1, p1, e1, f1, b1⟩ := hf 1 _ rfl
    obtain rfl : c0 = v0 := by simpa using p0
    obtain rfl : c1 = v1 := by simpa using p1
    obtain ⟨A, c, xs, h0, hc, hx, hb⟩ := open_bytes2 e0 f0
    obtain ⟨B, d, ys, h1, hd, hy, hb'⟩ := open_bytes2 e1 f1
    exact ⟨A, c, B, d, xs, ys, by injection h0 with h0; injection h1 with h1; rw [h0, h1], hc, hd, by omega, by omega, hb, hb'⟩

theorem open_op2 (h : DataW.trod enc Tryd.prog w 0 (fun _ => true) held fuel 54 cs = some x) (hF : Fit 54 x.1) : ∃ k A c B d n, ∃ (bs : List UInt8) (rs : List (List UInt8)), cs = [.int .i64 k, .slice A bs.length c, .slice B rs.length d, .int .i64 n] ∧ bs.length ≤ c ∧ rs.length ≤ d ∧ rs.length ≤ 6000000000000 ∧
    Bts (fun k => k < w.heap.size) w A bs ∧ Rcs (fun k => k < w.heap.size) w B rs ∧ -9223372036854775808 ≤ n ∧ n < 9223372036854775808 ∧ bs.length ≤ Rows.uptoBulk x.1 ∧ rs.length ≤ Rows.uptoBulk x.1 ∧ ∀ r ∈ rs, r.length ≤ Rows.uptoBulk x.1 := by
  obtain ⟨_, hl, hf⟩ := trod_field2 Tryd.underlying54 (by kernel_rfl) (by kernel_rfl) h hF
  match cs, hl with
  | [c0, c1, c2, c3], _ =>
    obtain ⟨v0, y0, n0, p0, e0, _, _⟩ := hf 0 _ rfl
    obtain ⟨v1, y1, n1, p1, e1, f1, b1⟩ := hf 1 _ rfl
    obtain ⟨v2, y2, n2, p2, e2, f2, b2⟩ := hf 2 _ rfl
    obtain ⟨v3, y3, n3, p3, e3, _, _⟩ := hf 3 _ rfl
    obtain rfl : c0 = v0 := by simpa using p0
    obtain rfl : c1 = v1 := by simpa using p1
    obtain rfl : c2 = v2 := by simpa using p2
    obtain rfl : c3 = v3 := by simpa using p3
    obtain ⟨k, h0, _⟩ := DataW.trod_int (k := .i64) (by kernel_rfl) e0
    obtain ⟨A, c, bs, h1, hc, hbl, hb⟩ := open_bytes2 e1 f1
    obtain ⟨B, d, rs, h2, hd, hd2, hrl, hre, hr⟩ := open_recs2 e2 f2
    obtain ⟨n, h3, _, hw⟩ := DataW.trod_int (k := .i64) (by kernel_rfl) e3
    simp only [Lit.wf, Bool.and_eq_true, decide_eq_true_eq] at hw
    have hn1 : -9223372036854775808 ≤ n := hw.1
    have hn2 : n ≤ 9223372036854775807 := hw.2
    exact ⟨k, A, c, B, d, n, bs, rs, by injection h0 with h0; injection h1 with h1; injection h2 with h2; injection h3 with h3; rw [h0, h1, h2, h3], hc, hd, hd2, hb, hr, hn1, by omega, by omega, by omega, fun r hr' => by have := hre r hr'; omega⟩

theorem op_lo (h : DataW.trod enc Tryd.prog w 0 (fun _ => true) held fuel 54 cs = some x) : 5 ≤ Rows.uptoBulk x.1 := by
  obtain ⟨xs, n, _, rfl, hl, hxl, hf⟩ := DataW.trod_struct Tryd.underlying54 h
  have h3 := bulk_len (lo := 1) (es := xs.map (·.1)) fun d _ => bulk_pos d
  rw [List.length_map] at h3
  have h4 : xs.length = 4 := hxl
  simp only [Rows.uptoBulk]
  omega

theorem open_ops2 (h : DataW.trod enc Tryd.prog w 0 (fun _ => true) held fuel 47 cs = some x) (hF : Fit 47 x.1) : ∃ A c, ∃ l : List OpJ, cs = [.slice A l.length c] ∧ l.length ≤ c ∧ Ops (fun k => k < w.heap.size) w A l ∧ l.length * 5 ≤ Rows.uptoBulk x.1 ∧ ∀ p ∈ l, p.one.length ≤ Rows.uptoBulk x.1 ∧ p.many.length ≤ Rows.uptoBulk x.1 ∧ ∀ r ∈ p.many, r.length ≤ Rows.uptoBulk x.1 := by
  obtain ⟨A, c, l, rfl, hc, hl, hl2, hb, hx⟩ := open_rows2 (lo := 5) (α := OpJ) (Q := fun b o (p : OpJ) => OpAt (fun k => k < w.heap.size) w b o p ∧ p.one.length ≤ Rows.uptoBulk x.1 ∧ p.many.length ≤ Rows.uptoBulk x.1 ∧ ∀ r ∈ p.many, r.length ≤ Rows.uptoBulk x.1) Tryd.underlying47 (n := 4) (by kernel_rfl) (by omega) (by rw [show Tryd.prog.bytesOf 54 = 64 by kernel_rfl]; omega) hF h (fun _ _ y hy => op_lo hy) (fun _ b o cs' y hy hF hbk hl hc => by
    obtain ⟨k, A, c, B, d, n, bs, rs, rfl, h1, h2, h3, h4, h5, h6, h7, g1, g2, g3⟩ := open_op2 hy hF
    exact ⟨⟨k, bs, rs, n⟩, ⟨A, c, B, d, hc 0 (by omega), hc 1 (by omega), hc 2 (by omega), hc 3 (by omega), h1, h2, h3, h4, h5, h6, h7⟩, by show bs.length ≤ _; omega, by show rs.length ≤ _; omega, fun r hr => by have := g3 r hr; omega⟩)
  rw [show Tryd.prog.bytesOf 54 = 64 by kernel_rfl] at hl2
  unfold reachBytes at hl2
  refine ⟨A, c, l, rfl, hc, ⟨by omega, fun hne => ?_⟩, hb, fun p hp => ?_⟩
  · obtain ⟨b, o, e, hb', hj⟩ := hx hne
    exact ⟨b, o, e, hb', fun i hi => (hj i hi).1⟩
  · obtain ⟨b, o, _, _, hj⟩ := hx (by rintro rfl; simp at hp)
    obtain ⟨i, hi, rfl⟩ := List.getElem_of_mem hp
    exact (hj i hi).2
end
end Go.Proofs.YtdpaaoeipconcaaDoor
