/- The arguments of the laws on package under, opened: numbers, bytes, truths, packets, scripts; and a row whose law answers true and leaves all as it was. No conditions. -/
import Derived.Test.YtgnndggbjipioaaAHolds
import Derived.Test.YtgnndggbjipioaaRows
import Derived.Deep.Slices
import Derived.Deep.Fields
import Derived.WalkKit
import Derived.ProofKit
import Derived.OpenShut
import Derived.ChangeOld
import Derived.Carry
import Derived.SizedLaws
namespace Go.Proofs.Ytgnndggbjipioaa
open Go.RowKit Go.ChangeShapes Go.WideShapes Go.Deep Go.ChangeAt

theorem spot_of_cell {w : World} {a : Addr} {v : Value} (h : w.cell? a = some v) : a.spot = none := by
  unfold World.cell? at h
  split at h
  · split at h
    · cases h
    · rename_i h1
      simpa using h1
  · cases h

theorem add_none (b o i : Nat) : (⟨b, o, none⟩ : Addr).add i = ⟨b, o + i, none⟩ := by
  unfold Addr.add
  split <;> simp_all

theorem list_of {α : Type} [Inhabited α] {n : Nat} {Q : Nat → α → Prop} (h : ∀ i, i < n → ∃ x, Q i x) : ∃ l : List α, l.length = n ∧ ∀ j (hj : j < l.length), Q j l[j] := by
  obtain ⟨f, hf⟩ := choose_lt h
  exact ⟨(List.range n).map f, by simp, fun j hj => by simpa using hf j (by simpa using hj)⟩

section
variable {H : Type}
/-- No part of it is too heavy. -/
def Fit (t : TypeId) (d : DataW H) : Prop := ∀ n ∈ DataW.weights Try.prog t d, n ≤ reachBytes

theorem mem_weightsAll {e : TypeId} {d : DataW H} {n : Nat} (hn : n ∈ DataW.weights Try.prog e d) : ∀ {es : List (DataW H)}, d ∈ es → n ∈ DataW.weightsAll Try.prog e es
  | _ :: es, h => by
    simp only [DataW.weightsAll, List.mem_append]
    rcases List.mem_cons.1 h with rfl | h
    · exact .inl hn
    · exact .inr (mem_weightsAll hn h)

theorem fit_slice {t e : TypeId} {es sp : List (DataW H)} (ht : Try.prog.underlying t = some (.slice e)) (h : Fit t (.slice es sp)) : (es.length + sp.length) * Try.prog.bytesOf e ≤ reachBytes ∧ ∀ d ∈ es, Fit e d := by
  unfold Fit at h
  simp only [DataW.weights, ht] at h
  exact ⟨h _ (List.mem_cons_self ..), fun d hd n hn => h n (List.mem_cons_of_mem _ (List.mem_append_left _ (mem_weightsAll hn hd)))⟩

theorem fit_struct {t : TypeId} {fs : Array Field} {ps : List (DataW H)} (ht : Try.prog.underlying t = some (.struct fs)) (h : Fit t (.agg ps)) {i : Nat} {f : Field} {d : DataW H} (hf : fs[i]? = some f) (hd : ps[i]? = some d) : Fit f.type d := by
  unfold Fit at h
  simp only [DataW.weights, ht] at h
  exact fun n hn => h n (DataW.weights_mem_each (t := f.type) (by simp [hf]) hd n hn)

theorem fit_each {ts : List TypeId} {ds : List (DataW H)} (h : (DataW.weightsEach Try.prog ts ds).all (· ≤ reachBytes) = true) {j : Nat} {t : TypeId} {d : DataW H} (ht : ts[j]? = some t) (hd : ds[j]? = some d) : Fit t d :=
  fun n hn => by simpa using List.all_eq_true.1 h _ (DataW.weights_mem_each ht hd n hn)
end

section
variable {H : Type} {enc : TypeId × Value → H} {w : World} {held : Bool} {fuel : Nat} {cs : List Value} {x : DataW H × List MemPlace}

/-- A slice whose elements each read as Q says. -/
theorem open_rows {α : Type} [Inhabited α] {t e n : Nat} {Q : Nat → Nat → α → Prop} (ht : Try.prog.underlying t = some (.slice e)) (hn : Try.prog.cellsOf e = n) (h0 : 0 < n) (hby : 1 ≤ Try.prog.bytesOf e) (hF : Fit t x.1)
    (h : DataW.trod enc Try.prog w 0 (fun _ => true) held fuel t cs = some x)
    (hel : ∀ (fuel : Nat) (b o : Nat) (cs' : List Value) (y : DataW H × List MemPlace), DataW.trod enc Try.prog w 0 (fun _ => true) held fuel e cs' = some y → Fit e y.1 → cs'.length = n → (∀ i, i < n → w.cell? ⟨b, o + i, none⟩ = cs'[i]?) → ∃ a, Q b o a) :
    ∃ A c, ∃ l : List α, cs = [.slice A l.length c] ∧ l.length ≤ c ∧ l.length ≤ 281474976710656 ∧ (l ≠ [] → ∃ b o, A = some ⟨b, o, none⟩ ∧ b < w.heap.size ∧ ∀ j (hj : j < l.length), Q b (o + j * n) l[j]) := by
  rcases open_slice ht h with ⟨rfl, _⟩ | ⟨a, len, cap, m, f, D, Pl, rfl, _, hl, hm, hmm, rfl, hi⟩
  · exact ⟨none, 0, [], rfl, by simp, by simp, fun h => absurd rfl h⟩
  · rw [hn] at hi
    simp only [if_true] at hmm
    obtain ⟨hw, hfe⟩ := fit_slice ht hF
    have hml : len ≤ 281474976710656 := by
      have h1 := Nat.mul_le_mul_left len hby
      have h2 : len * Try.prog.bytesOf e ≤ reachBytes := Nat.le_trans (Nat.mul_le_mul_right _ (by simp)) hw
      unfold reachBytes at h2
      omega
    by_cases hz : len = 0
    · subst hz
      exact ⟨some a, cap, [], rfl, by simp, by simp, fun h => absurd rfl h⟩
    · obtain ⟨b, o, s⟩ := a
      have hs : s = none := by
        obtain ⟨cs', hc, _⟩ := hi 0 (by omega)
        obtain ⟨_, hcl, hat⟩ := World.cells?_some hc
        have h1 := hat 0 h0
        rw [List.getElem?_eq_getElem (by omega)] at h1
        have := spot_of_cell h1
        simpa [Addr.add] using this
      subst hs
      have hb : b < w.heap.size := by
        obtain ⟨cs', hc, _⟩ := hi 0 (by omega)
        have := World.cells?_block hc h0
        simpa [Addr.add] using this
      have hq : ∀ i, i < len → ∃ a, Q b (o + i * n) a := fun i hil => by
        obtain ⟨cs', hc, hf⟩ := hi i (by omega)
        obtain ⟨_, hcl, hat⟩ := World.cells?_some hc
        refine hel _ b (o + i * n) cs' _ hf (hfe _ (List.mem_map.2 ⟨i, by simpa using hil, rfl⟩)) hcl fun j hj => ?_
        have := hat j hj
        rwa [add_none, add_none] at this
      obtain ⟨l, rfl, hlj⟩ := list_of hq
      exact ⟨_, cap, l, rfl, hl, by omega, fun _ => ⟨b, o, rfl, hb, hlj⟩⟩

theorem open_u8 (h : DataW.trod enc Try.prog w 0 (fun _ => true) held fuel 5 cs = some x) : ∃ u : UInt8, cs = [.int .u8 u.toNat] := by
  obtain ⟨n, rfl, _, hw⟩ := DataW.trod_int Try.underlying5 h
  simp only [Lit.wf, Bool.and_eq_true, decide_eq_true_eq] at hw
  have h1 : (0 : Int) ≤ n := hw.1
  have h2 : n ≤ 255 := hw.2
  refine ⟨UInt8.ofNat n.toNat, ?_⟩
  rw [UInt8.toNat_ofNat_of_lt' (by simp [UInt8.size]; omega)]
  simp; omega

theorem open_bytes (h : DataW.trod enc Try.prog w 0 (fun _ => true) held fuel 46 cs = some x) (hF : Fit 46 x.1) : ∃ A c, ∃ bs : List UInt8, cs = [.slice A bs.length c] ∧ bs.length ≤ c ∧ Bts (fun k => k < w.heap.size) w A bs := by
  obtain ⟨A, c, l, rfl, hc, hl, hx⟩ := open_rows (Q := fun b o (u : UInt8) => w.cell? ⟨b, o, none⟩ = some (.int .u8 u.toNat)) Try.underlying46 (n := 1) (by kernel_rfl) (by omega) (by rw [show Try.prog.bytesOf 5 = 1 by kernel_rfl]; omega) hF h (fun _ b o cs' y hy hF hl hc => by
    obtain ⟨u, rfl⟩ := open_u8 hy
    exact ⟨u, hc 0 (by omega)⟩)
  exact ⟨A, c, l, rfl, hc, hl, by simpa using hx⟩

theorem open_bools (h : DataW.trod enc Try.prog w 0 (fun _ => true) held fuel 31 cs = some x) (hF : Fit 31 x.1) : ∃ A c, ∃ bs : List Bool, cs = [.slice A bs.length c] ∧ bs.length ≤ c ∧ bs.length ≤ 281474976710656 ∧ (bs ≠ [] → ∃ b o, A = some ⟨b, o, none⟩ ∧ b < w.heap.size ∧ ∀ j (hj : j < bs.length), w.cell? ⟨b, o + j, none⟩ = some (.bool bs[j])) := by
  obtain ⟨A, c, l, rfl, hc, hl, hx⟩ := open_rows (Q := fun b o (u : Bool) => w.cell? ⟨b, o, none⟩ = some (.bool u)) Try.underlying31 (n := 1) (by kernel_rfl) (by omega) (by rw [show Try.prog.bytesOf 4 = 1 by kernel_rfl]; omega) hF h (fun _ b o cs' y hy hF hl hc => by
    obtain ⟨u, rfl, _⟩ := DataW.trod_bool Try.underlying4 hy
    exact ⟨u, hc 0 (by omega)⟩)
  exact ⟨A, c, l, rfl, hc, hl, by simpa using hx⟩

theorem open_nums (h : DataW.trod enc Try.prog w 0 (fun _ => true) held fuel 54 cs = some x) (hF : Fit 54 x.1) : ∃ A c, ∃ bs : List Int, cs = [.slice A bs.length c] ∧ bs.length ≤ c ∧ bs.length ≤ 281474976710656 ∧ (bs ≠ [] → ∃ b o, A = some ⟨b, o, none⟩ ∧ b < w.heap.size ∧ ∀ j (hj : j < bs.length), w.cell? ⟨b, o + j, none⟩ = some (.int .i64 bs[j])) := by
  obtain ⟨A, c, l, rfl, hc, hl, hx⟩ := open_rows (Q := fun b o (u : Int) => w.cell? ⟨b, o, none⟩ = some (.int .i64 u)) Try.underlying54 (n := 1) (by kernel_rfl) (by omega) (by rw [show Try.prog.bytesOf 3 = 8 by kernel_rfl]; omega) hF h (fun _ b o cs' y hy hF hl hc => by
    obtain ⟨u, rfl, _⟩ := DataW.trod_int Try.underlying3 hy
    exact ⟨u, hc 0 (by omega)⟩)
  exact ⟨A, c, l, rfl, hc, hl, by simpa using hx⟩

theorem trod_field {t : TypeId} {fs : Array Field} (ht : Try.prog.underlying t = some (.struct fs)) (hone : oneCellFields Try.prog fs = true) (hC : Try.prog.cellsOf t = fs.size) (h : DataW.trod enc Try.prog w 0 (fun _ => true) held fuel t cs = some x) (hF : Fit t x.1) :
    cs.length = fs.size ∧ ∀ (i : Nat) (f : Field), fs[i]? = some f → ∃ v y n, cs[i]? = some v ∧ DataW.trod enc Try.prog w 0 (fun _ => true) held n f.type [v] = some y ∧ Fit f.type y.1 := by
  obtain ⟨xs, n, _, rfl, hl, hxl, hf⟩ := DataW.trod_struct ht h
  rw [hC] at hl
  refine ⟨hl, fun i f hi => ?_⟩
  have h1 := hf i f hi
  obtain ⟨ho, hk⟩ := hone_of hone i f hi
  have hil : i < fs.size := (Array.getElem?_eq_some_iff.1 hi).1
  rw [ho, hk, List.drop_eq_getElem_cons (by omega), List.take_succ_cons, List.take_zero, List.getElem?_eq_getElem (by omega)] at h1
  exact ⟨_, _, n, List.getElem?_eq_getElem (by omega), h1, fit_struct ht hF hi (by simp [List.getElem?_eq_getElem (show i < xs.length by omega)])⟩

theorem open_pk (h : DataW.trod enc Try.prog w 0 (fun _ => true) held fuel 48 cs = some x) (hF : Fit 48 x.1) : ∃ t A c, ∃ bs : List UInt8, cs = [.int .u32 t, .slice A bs.length c] ∧ bs.length ≤ c ∧ Bts (fun k => k < w.heap.size) w A bs := by
  obtain ⟨hl, hf⟩ := trod_field Try.underlying48 (by kernel_rfl) (by kernel_rfl) h hF
  match cs, hl with
  | [c0, c1], _ =>
    obtain ⟨v0, y0, n0, p0, e0, _⟩ := hf 0 _ rfl
    obtain ⟨v1, y1, n1, p1, e1, f1⟩ := hf 1 _ rfl
    obtain rfl : c0 = v0 := by simpa using p0
    obtain rfl : c1 = v1 := by simpa using p1
    obtain ⟨t, h0, _⟩ := DataW.trod_int (k := .u32) (by kernel_rfl) e0
    obtain ⟨A, c, bs, h1, hc, hb⟩ := open_bytes e1 f1
    exact ⟨t, A, c, bs, by injection h0 with h0; injection h1 with h1; rw [h0, h1], hc, hb⟩

theorem open_pks (h : DataW.trod enc Try.prog w 0 (fun _ => true) held fuel 34 cs = some x) (hF : Fit 34 x.1) : ∃ A c, ∃ ss : List Pk, cs = [.slice A ss.length c] ∧ ss.length ≤ c ∧ Pks (fun k => k < w.heap.size) w A ss := by
  obtain ⟨A, c, l, rfl, hc, hl, hx⟩ := open_rows (α := Pk) (Q := fun b o (p : Pk) => ∃ A' c', w.cell? ⟨b, o, none⟩ = some (.int .u32 p.1) ∧ w.cell? ⟨b, o + 1, none⟩ = some (.slice A' p.2.length c') ∧ p.2.length ≤ c' ∧ Bts (fun k => k < w.heap.size) w A' p.2) Try.underlying34 (n := 2) (by kernel_rfl) (by omega) (by rw [show Try.prog.bytesOf 48 = 32 by kernel_rfl]; omega) hF h (fun _ b o cs' y hy hF hl hc => by
    obtain ⟨t, A, c, bs, rfl, h1, h2⟩ := open_pk hy hF
    exact ⟨(t, bs), A, c, hc 0 (by omega), hc 1 (by omega), h1, h2⟩)
  exact ⟨A, c, l, rfl, hc, hl, hx⟩

instance : Inhabited OpD := ⟨⟨0, [], 0, 0, 0⟩⟩

theorem open_op (h : DataW.trod enc Try.prog w 0 (fun _ => true) held fuel 36 cs = some x) (hF : Fit 36 x.1) : ∃ k A c i a, ∃ ss : List Pk, ∃ m : UInt8, cs = [.int .i64 k, .slice A ss.length c, .int .i64 i, .int .i64 a, .int .u8 m.toNat] ∧ ss.length ≤ c ∧ Pks (fun k => k < w.heap.size) w A ss := by
  obtain ⟨hl, hf⟩ := trod_field Try.underlying36 (by kernel_rfl) (by kernel_rfl) h hF
  match cs, hl with
  | [c0, c1, c2, c3, c4], _ =>
    obtain ⟨v0, y0, n0, p0, e0, _⟩ := hf 0 _ rfl
    obtain ⟨v1, y1, n1, p1, e1, f1⟩ := hf 1 _ rfl
    obtain ⟨v2, y2, n2, p2, e2, _⟩ := hf 2 _ rfl
    obtain ⟨v3, y3, n3, p3, e3, _⟩ := hf 3 _ rfl
    obtain ⟨v4, y4, n4, p4, e4, _⟩ := hf 4 _ rfl
    obtain rfl : c0 = v0 := by simpa using p0
    obtain rfl : c1 = v1 := by simpa using p1
    obtain rfl : c2 = v2 := by simpa using p2
    obtain rfl : c3 = v3 := by simpa using p3
    obtain rfl : c4 = v4 := by simpa using p4
    obtain ⟨k, h0, _⟩ := DataW.trod_int (k := .i64) (by kernel_rfl) e0
    obtain ⟨A, c, ss, h1, hc, hb⟩ := open_pks e1 f1
    obtain ⟨i, h2, _⟩ := DataW.trod_int (k := .i64) (by kernel_rfl) e2
    obtain ⟨a, h3, _⟩ := DataW.trod_int (k := .i64) (by kernel_rfl) e3
    obtain ⟨m, h4⟩ := open_u8 e4
    exact ⟨k, A, c, i, a, ss, m, by injection h0 with h0; injection h1 with h1; injection h2 with h2; injection h3 with h3; injection h4 with h4; rw [h0, h1, h2, h3, h4], hc, hb⟩

theorem open_ops (h : DataW.trod enc Try.prog w 0 (fun _ => true) held fuel 28 cs = some x) (hF : Fit 28 x.1) : ∃ A c, ∃ l : List OpD, cs = [.slice A l.length c] ∧ l.length ≤ c ∧ Ops (fun k => k < w.heap.size) w A l := by
  obtain ⟨A, c, l, rfl, hc, hl, hx⟩ := open_rows (α := OpD) (Q := fun b o (p : OpD) => ∃ A' c', w.cell? ⟨b, o, none⟩ = some (.int .i64 p.kind) ∧ w.cell? ⟨b, o + 1, none⟩ = some (.slice A' p.sents.length c') ∧ w.cell? ⟨b, o + 2, none⟩ = some (.int .i64 p.i) ∧ w.cell? ⟨b, o + 3, none⟩ = some (.int .i64 p.at_) ∧ w.cell? ⟨b, o + 4, none⟩ = some (.int .u8 p.mask.toNat) ∧ p.sents.length ≤ c' ∧ Pks (fun k => k < w.heap.size) w A' p.sents) Try.underlying28 (n := 5) (by kernel_rfl) (by omega) (by rw [show Try.prog.bytesOf 36 = 56 by kernel_rfl]; omega) hF h (fun _ b o cs' y hy hF hl hc => by
    obtain ⟨k, A, c, i, a, ss, m, rfl, h1, h2⟩ := open_op hy hF
    exact ⟨⟨k, ss, i, a, m⟩, A, c, hc 0 (by omega), hc 1 (by omega), hc 2 (by omega), hc 3 (by omega), hc 4 (by omega), h1, h2⟩)
  exact ⟨A, c, l, rfl, hc, hl, hx⟩
end

theorem laid_out : laidOutB Try.prog = true := by kernel_rfl

theorem cells_slice {v : Value} {A : Option Addr} {n c : Nat} (h : v.cells.toList = [.slice A n c]) (hs : ∀ cs, v ≠ .agg cs) : v = .slice A n c := by
  cases v <;> simp_all [Value.cells]

/-- The readings of what was there, after the call. -/
theorem trodAll_old {H : Type} {enc : TypeId × Value → H} {P : Program} (hl : laidOutB P = true) {W W' : World} (hb : Below W.heap.size W W') : ∀ (ts : List TypeId) {vs : List Value} {ds : List (DataW H)} {ps : List MemPlace},
    (∀ t ∈ ts, P.readableRec t = true ∧ t < P.types.size) → DataW.TrodAll enc P W 0 (fun _ => true) true ts vs ds ps → DataW.TrodAll enc P W' 0 (fun b => decide (b < W.heap.size)) true ts vs ds ps := by
  intro ts
  induction ts with
  | nil =>
    intro vs ds ps _ h
    obtain ⟨rfl, rfl, rfl⟩ := trodAll_nil h
    exact trodAll_mk0
  | cons t ts ih =>
    intro vs ds ps ht h
    obtain ⟨v, vs, d, ds, p, q, rfl, rfl, rfl, h1, h2⟩ := trodAll_cons h
    obtain ⟨t1, t2⟩ := ht t (List.mem_cons_self ..)
    have hlt : ∀ x ∈ p, x.block < W.heap.size := by
      obtain ⟨n, hn⟩ := h1
      exact fun x hx => DataW.trod_lt n _ _ _ hn x hx
    exact trodAll_cons_mk (Below.trod hl t1 t2 h1 hb hlt) (ih (fun u hu => ht u (List.mem_cons_of_mem _ hu)) h2)

/-- A law answers true and leaves all as it was: its row's end. -/
theorem post_true {H : Type} {enc : TypeId × Value → H} {f : Func} {s : ChangeSpec} {W W' : World} {args : Array Value} {ds gs : List (DataW H)} {before : List MemPlace}
    (hr : f.resultTypes = #[4]) (hp : ∀ t ∈ f.params.toList, Try.prog.readableRec t = true ∧ t < Try.prog.types.size) (hv : s.vars = [])
    (hW : DataW.Whole enc Try.prog f.params.toList s.vars false W args.toList ds gs before) (hfn : s.fn H (ds ++ gs) = { results := [.lit (.bool true)], args := ds }) (hold : Old W W') :
    s.post enc Try.prog f false true false false W args (.bool true) W' := by
  have hb : Below W.heap.size W W' := ⟨hold.os, hold.tape, hold.output, hold.size, fun k hk => hold.block k hk trivial⟩
  have hW' := hW
  obtain ⟨p, q, hA, hV, rfl, hfz, hnd⟩ := hW
  refine ⟨ds, gs, _, [], p, q, hW', ?_, ?_, ?_, hb.frame _, fun h => by cases h⟩
  · rw [hfn, hr]
    exact trodAll_mk1 (shut_bool Try.underlying4 _)
  · rw [hfn]
    exact trodAll_old laid_out hb _ hp hA
  · rw [hfn]
    rw [hv] at hV ⊢
    obtain ⟨_, rfl⟩ := trodVars_none hV
    rfl
end Go.Proofs.Ytgnndggbjipioaa
