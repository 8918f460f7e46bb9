/- journal.Log.begin: a generation begins in the current area: beginJ. Conditions: the journal's cells lie, the records can be read and fit, the table lies, not too many writes are waiting. -/
import Derived.Test.YtdpaaoeipconcaaDoorJRewP
namespace Go.Proofs.YtdpaaoeipconcaaDoor
open Go.RowKit

/-- A journal's cells, whatever they say. -/
structure LRaw (F : Nat → Prop) (w : World) (g : Nat) (vA vB vP : Value) (q : List (Wr × Value)) (j : Jn) : Prop where
  head : w.heap[g]? = some (.cells #[vA, vB, vP, .int .i64 (j.cur : Int), .int .u32 (j.gen : Int), .int .u32 (j.nr : Int), .int .i64 (j.end_ : Int)] 97 (0, 0))
  a : OwnB F w vA j.dA
  b : OwnB F w vB j.dB
  p : Pend 99 F w vP q
  pq : q.map (·.1) = j.ws
  ab : ∀ k, vA.ownBlock = some k → vB.ownBlock ≠ some k
  ap : ∀ x ∈ q, ∀ k, x.2.ownBlock = some k → vA.ownBlock ≠ some k ∧ vB.ownBlock ≠ some k
  fg : F g
  lt : ∀ k, F k → k < w.heap.size

section
variable {F G : Nat → Prop} {w w' w4 : World} {g : Nat} {vA vB vP v2 : Value} {q : List (Wr × Value)} {j j' : Jn} {x : Wr × Value}
theorem LNet.raw (h : LNet F w g vA vB vP q j) : LRaw F w g vA vB vP q j := ⟨h.head, h.a, h.b, h.p, h.pq, h.ab, h.ap, h.fg, h.lt⟩
theorem LRaw.net (h : LRaw F w g vA vB vP q j) (hg : Good j) : LNet F w g vA vB vP q j := ⟨h.head, h.a, h.b, h.p, h.pq, h.ab, h.ap, h.fg, h.lt, hg⟩
theorem LRaw.keep (h : LRaw F w g vA vB vP q j) (hk : Keeps F w w') : LRaw F w' g vA vB vP q j :=
  ⟨hk.heap h.head h.fg, h.a.keep hk, h.b.keep hk, h.p.keep hk, h.pq, h.ab, h.ap, h.fg, fun k hk' => Nat.lt_of_lt_of_le (h.lt k hk') hk.size⟩

/-- The journal's own numbers are set. -/
theorem LRaw.sets (h : LRaw F w g vA vB vP q j) (K : Keeps (· ≠ g) w w') (hh : w'.heap[g]? = some (.cells #[vA, vB, vP, .int .i64 (j'.cur : Int), .int .u32 (j'.gen : Int), .int .u32 (j'.nr : Int), .int .i64 (j'.end_ : Int)] 97 (0, 0)))
    (hA : j'.dA = j.dA) (hB : j'.dB = j.dB) (hws : j'.ws = j.ws) : LRaw F w' g vA vB vP q j' := by
  have nb : ∀ {v : Value} {n : Nat} {xs : List Value}, w.ownsRow 0 5 1 v n xs → ∀ k, v.ownBlock = some k → k ≠ g := fun hx k hk e => own_ne_heap hx h.head (by decide) (by rw [hk, e])
  exact ⟨hh, ⟨by rw [hA]; exact own_keeps h.a.row K (nb h.a.row), h.a.foot, by rw [hA]; exact h.a.len⟩, ⟨by rw [hB]; exact own_keeps h.b.row K (nb h.b.row), h.b.foot, by rw [hB]; exact h.b.len⟩,
    h.p.keepS K (fun k hk e => own_ne_heap h.p.row h.head (by decide) (by rw [hk, e])) (fun y hy => nb (h.p.own y hy).row), by rw [hws]; exact h.pq, h.ab, h.ap, h.fg, fun k hk => Nat.lt_of_lt_of_le (h.lt k hk) K.size⟩

/-- A write more. -/
theorem LRaw.push (h : LRaw F w g vA vB vP q j) (hv : OwnB G w x.2 x.1.bytes) (hGF : ∀ k, G k → ¬ F k) (K : Keeps (fun k => vP.ownBlock ≠ some k) w w4) (hown : w4.ownsRow 0 99 3 v2 (q.length + 1) (row3 q ++ row3 [x])) :
    LRaw (fun k => F k ∨ (G k ∧ k < w.heap.size) ∨ v2.ownBlock = some k) (w4.setCell ⟨g, 2, none⟩ v2) g vA vB v2 (q ++ [x]) { j with ws := j.ws ++ [x.1] } := by
  have hgP : vP.ownBlock ≠ some g := own_ne_heap h.p.row h.head (by decide)
  have hh := K.heap h.head hgP
  have KS : Keeps (· ≠ g) w4 (w4.setCell ⟨g, 2, none⟩ v2) := (Keeps.refl _ _).setCell (fun _ h => h rfl) _
  have KB : Keeps (fun k => k ≠ g ∧ vP.ownBlock ≠ some k) w (w4.setCell ⟨g, 2, none⟩ v2) := (K.mono fun _ _ h => h.2).trans KS fun _ _ h => h.1
  have nb : ∀ {v : Value} {n : Nat} {xs : List Value}, w.ownsRow 0 5 1 v n xs → ∀ k, v.ownBlock = some k → k ≠ g ∧ vP.ownBlock ≠ some k := fun hx k hk =>
    ⟨fun e => own_ne_heap hx h.head (by decide) (by rw [hk, e]), own_ne hx h.p.row (by decide) hk⟩
  have hp := h.p.push (x := x) (by decide) K hv hown
  have nb4 : ∀ {v : Value} {n : Nat} {xs : List Value}, w4.ownsRow 0 5 1 v n xs → ∀ k, v.ownBlock = some k → k ≠ g := fun hx k hk e => own_ne_heap hx hh (by decide) (by rw [hk, e])
  have hp2 := hp.keepS KS (fun k hk e => own_ne_heap hown hh (by decide) (by rw [hk, e])) (fun y hy => nb4 (hp.own y hy).row)
  refine ⟨?_, ⟨own_keeps h.a.row KB (nb h.a.row), fun k hk => .inl (h.a.foot k hk), h.a.len⟩, ⟨own_keeps h.b.row KB (nb h.b.row), fun k hk => .inl (h.b.foot k hk), h.b.len⟩,
    ⟨hp2.row, fun y hy => ?_, fun k hk => .inr (.inr hk)⟩, by rw [List.map_append, h.pq]; rfl, h.ab, fun y hy k hk => ?_, .inl h.fg, fun k hk => ?_⟩
  · rw [heap_setCell hh]
    rfl
  · have ho := hp2.own y hy
    refine ⟨ho.row, fun k hk => ?_, ho.len⟩
    rcases ho.foot k hk with h1 | h1 | h1
    · exact .inl h1
    · rcases List.mem_append.1 hy with hy | hy
      · exact .inl ((h.p.own y hy).foot k hk)
      · obtain rfl : y = x := by simpa using hy
        exact .inr (.inl ⟨h1, own_lt hv.row hk⟩)
    · exact .inr (.inr h1)
  · rcases List.mem_append.1 hy with hy | hy
    · exact h.ap y hy k hk
    · obtain rfl : y = x := by simpa using hy
      have hgk := hv.foot k hk
      exact ⟨fun e => hGF k hgk (h.a.foot k e), fun e => hGF k hgk (h.b.foot k e)⟩
  · rcases hk with hk | hk | hk
    · exact Nat.lt_of_lt_of_le (h.lt k hk) KB.size
    · exact Nat.lt_of_lt_of_le hk.2 KB.size
    · exact Nat.lt_of_lt_of_le (own_lt hown hk) KS.size
end

/-- The front of a block of bytes. -/
theorem OwnB.of_front {w : World} {g n N : Nat} {xs R : List UInt8} (hg : w.heap[g]? = some (.cells ((xs ++ R).map bv).toArray 5 (0, 0))) (hn : n = xs.length) (hN : N = xs.length + R.length) (hl : N ≤ 281474976710656) : OwnB (fun k => k = g) w (.slice (some ⟨g, 0, none⟩) n N) xs := by
  subst hn hN
  exact ⟨⟨by simp, .inr ⟨g, xs.length + R.length, _, rfl, Nat.zero_le _, hg, by omega, by unfold maxLen; omega, by simp, by simp⟩⟩, by simp [Value.ownBlock], by omega⟩
theorem Bts.of_front {w : World} {g t : Nat} {xs R : List UInt8} (hg : w.heap[g]? = some (.cells ((xs ++ R).map bv).toArray t (0, 0))) (hl : xs.length + R.length ≤ 281474976710656) : Bts (fun k => k = g) w (some ⟨g, 0, none⟩) xs := by
  have h := (Bts.of_block hg (by simpa using hl)).take (n := xs.length) (by simp)
  rwa [List.take_left'] at h
  rfl

theorem run_copy_weft (w : World) (g N t : Nat) (cur : List Value) (hg : w.heap[g]? = some (.cells cur.toArray t (0, 0))) (h4 : 4 ≤ cur.length) :
    ∃ w', (Builtin.copy_ #[22, 9] 3 #[.slice (some ⟨g, 0, none⟩) 16 N, .string ⟨#[119, 101, 102, 116]⟩]).run Tryd.prog w = .ok (.int .i64 4) w' ∧
      w'.heap[g]? = some (.cells ([bv 119, bv 101, bv 102, bv 116] ++ cur.drop 4).toArray t (0, 0)) ∧ Keeps (· ≠ g) w w' := by
  obtain ⟨i5, hi, hz0, hz1, hz2⟩ := info_parts info5
  have hst := run_storeCells_at Tryd.prog g 0 t [bv 119, bv 101, bv 102, bv 116] 0 cur.toArray w hg (by simpa using h4) (by simp [bv, Value.oneCell'])
  refine ⟨w.setRow g ([bv 119, bv 101, bv 102, bv 116] ++ cur.drop 4).toArray, ?_, setRow_heap w g _ _ t _ hg, (Keeps.refl _ _).setRow (by simp) _⟩
  have hs : (⟨#[119, 101, 102, 116]⟩ : ByteArray).size = 4 := rfl
  have hm : Nat.min 4 16 = 4 := rfl
  simp [bv] at hst
  simp [Builtin.copy_, run_underlying Tryd.underlying22, Builtin.lenOf, Builtin.firstCells, sizeOf, typeInfo, hi, hs, hm, hst, goInt, bv]
set_option maxRecDepth 10000 in
set_option maxHeartbeats 4000000 in
theorem begin_any (w : World) (F S : Nat → Prop) (g : Nat) (vA vB vP : Value) (q : List (Wr × Value)) (j : Jn) (A : Option Addr) (n c gen : Nat) (recs : List (List UInt8)) (h : LRaw F w g vA vB vP q j) (hr : Rcs S w A recs) (hn : n = recs.length) (hT : Tab w)
    (hg : gen < 4294967296) (hsz : 16 + sizeF recs ≤ 1048576) (hrl : ∀ r ∈ recs, r.length ≤ 65536) (hw : j.ws.length ≤ 3000000000000) :
    Calls Tryd.prog 62 #[.pointer (some ⟨g, 0, none⟩), .int .u32 (gen : Int), .slice A n c] w fun e w' => e = .returned (.tuple #[]) ∧ ∃ F' vP' q', LRaw F' w' g vA vB vP' q' (beginJ j gen recs) ∧ (∀ k, F' k → F k ∨ w.heap.size ≤ k) ∧ Keeps (fun k => ¬ F k) w w' := by
  subst hn
  obtain ⟨AP, cP, hvP, _, _⟩ := own_slice h.p.row
  subst hvP
  have hql : q.length = j.ws.length := by rw [← h.pq]; simp
  have HQL := hid hql
  clear hql
  have hnum := sizeF_num recs
  have hmono := fun k => sizeF_mono recs k
  have hstep := fun k (hk : k < recs.length) => sizeF_take recs hk
  have HM := hid (And.intro hmono hstep)
  clear hmono hstep
  obtain ⟨B, hB⟩ : ∃ B, B = sizeF recs := ⟨_, rfl⟩
  have HB := hid hB
  rw [← hB] at hsz hnum
  obtain ⟨i5, hi, hz0, hz1, hz2⟩ := info_parts info5
  obtain ⟨N, hN⟩ : ∃ N, N = 16 + B := ⟨_, rfl⟩
  have hmk := fun w => run_make (P := Tryd.prog) w 22 5 i5 (.int .u8 0) Tryd.underlying22 hi hz0 .i64 .i64 (16 : Int) (N : Int) (by omega) (by omega) (by rw [hz2]; omega) (by omega)
  simp only [hz1, Nat.mul_one, Int.toNat_natCast, show (16 : Int).toNat = 16 from rfl, show (Value.int .u8 0).cells = #[.int .u8 0] from rfl] at hmk
  have b0 : IntKind.i64.wrap (16 + (B : Int)) = (N : Int) := by rw [IntKind.wrap_i64]; omega
  have bB : IntKind.u32.wrap (B : Int) = (B : Int) := by rw [IntKind.wrap_u32]; omega
  have bR : IntKind.u32.wrap (recs.length : Int) = (recs.length : Int) := by rw [IntKind.wrap_u32]; omega
  have i12 : (12 : Int) ≤ (N : Int) := by omega
  have i13 : 12 ≤ N := by omega
  have HN := hid hN
  clear hN hB
  have hpos := hT.pos
  go_enter Tryd.func62, Tryd.ntmps62
  go_wp2
  go_loopw [6, 8, 14] (fun nv _ i wr => ∃ k : Nat, i = .int .i64 k ∧ k ≤ recs.length ∧ nv = .int .i64 (sizeF (recs.take k) : Nat) ∧ w = wr) (fun _ _ i _ => recs.length - (intOf i).toNat)
  case atStart => exact ⟨0, rfl, Nat.zero_le _, rfl, rfl⟩
  case round =>
    obtain ⟨k, rfl, hk, rfl, rfl⟩ := hrel
    by_cases hlt : k < recs.length
    · obtain ⟨b, o, A', c', rfl, hSb, h0, h1, h2⟩ := hr.at_ hlt
      have e1 := HM.out.2 k hlt
      have e2 := HM.out.1 (k + 1)
      rw [← HB.out] at e2
      have i1 : (0 : Int) ≤ (k : Int) := by omega
      have i2 : (k : Int) < (recs.length : Int) := by omega
      have b1 : IntKind.i64.wrap (12 + (recs[k].length : Int)) = 12 + (recs[k].length : Int) := by rw [IntKind.wrap_i64]; omega
      have b2 : IntKind.i64.wrap (((sizeF (recs.take k) : Nat) : Int) + (12 + (recs[k].length : Int))) = ((sizeF (recs.take (k + 1)) : Nat) : Int) := by rw [IntKind.wrap_i64, e1]; omega
      clear e1 e2
      generalize hdk : sizeF (recs.take (k + 1)) = dk1 at *
      have HDK := hid hdk
      clear hdk
      generalize sizeF (recs.take k) = dk at *
      generalize recs[k] = rec at *
      go_wp2
      exact ⟨⟨k + 1, by go_num, by omega, by rw [HDK.out], by first | rfl | trivial⟩, by simp [intOf]; omega⟩
    · obtain rfl : k = recs.length := by omega
      rw [List.take_length, ← HB.out]
      go_upto_region 7 with fail
      obtain ⟨W0, hW0⟩ : ∃ W, W = w.alloc (.cells (madeCells #[.int .u8 0] N) 5) := ⟨_, rfl⟩
      rw [← hW0]
      have k0 : Old w W0 := by rw [hW0]; exact (Keeps.refl _ _).alloc _
      have hb0 : W0.heap[w.heap.size]? = some (.cells ((List.replicate N (0 : UInt8)).map bv).toArray 5 (0, 0)) := by
        rw [hW0, heap_alloc_new, List.map_replicate, ← toList_madeCells_one]
        rfl
      rw [HN.out, Nat.add_comm 16] at hb0
      replace hb0 : W0.heap[w.heap.size]? = some (.cells ((0 :: 0 :: 0 :: 0 :: 0 :: 0 :: 0 :: 0 :: 0 :: 0 :: 0 :: 0 :: 0 :: 0 :: 0 :: 0 :: List.replicate B (0 : UInt8)).map bv).toArray 5 (0, 0)) := hb0
      have hR : (List.replicate B (0 : UInt8)).length = B := by simp
      generalize List.replicate B (0 : UInt8) = R at hb0 hR
      clear hW0 hmk
      have HR := hid hR
      clear hR
      obtain ⟨W1, hcp, hb1, kc⟩ := run_copy_weft W0 w.heap.size N 5 _ hb0 (by simp)
      replace hb1 : W1.heap[w.heap.size]? = some (.cells (([119, 101, 102, 116] ++ (0 :: 0 :: 0 :: 0 :: 0 :: 0 :: 0 :: 0 :: 0 :: 0 :: 0 :: 0 :: R)).map bv).toArray 5 (0, 0)) := hb1
      go_wp2_with fail
      refine (putLong_any W1 w.heap.size 16 N 5 _ 4 gen hb1 (by omega) (by simp only [List.length_append, List.length_cons]; omega) (by omega) hg).mono ?_
      rintro e w1 ⟨rfl, hb2, k1, _⟩
      replace hb2 : w1.heap[w.heap.size]? = some (.cells (([119, 101, 102, 116] ++ (four gen ++ (0 :: 0 :: 0 :: 0 :: 0 :: 0 :: 0 :: 0 :: R))).map bv).toArray 5 (0, 0)) := hb2
      go_wp2_with fail
      refine (putLong_any w1 w.heap.size 16 N 5 _ 8 B hb2 (by omega) (by simp only [List.length_append, List.length_cons, four_length]; omega) (by omega) (by omega)).mono ?_
      rintro e w2 ⟨rfl, hb3, k2, _⟩
      replace hb3 : w2.heap[w.heap.size]? = some (.cells ((([119, 101, 102, 116] ++ four gen ++ four B) ++ (0 :: 0 :: 0 :: 0 :: R)).map bv).toArray 5 (0, 0)) := hb3
      have K2 : Keeps (· ≠ w.heap.size) w w2 := (((k0.old _).trans' kc).trans' k1).trans' k2
      have hT2 := hT.keep K2 (by omega)
      have hRl := HR.out
      go_wp2_with fail
      refine (sum_any w2 _ _ N ([119, 101, 102, 116] ++ four gen ++ four B) hT2 (Bts.of_front hb3 (by simp only [List.length_append, List.length_cons, List.length_nil, four_length]; omega))).mono ?_
      rintro e w2' ⟨rfl, rfl⟩
      go_wp2_with fail
      refine (putLong_any w2 w.heap.size 16 N 5 _ 12 _ hb3 (by omega) (by simp only [List.length_append, List.length_cons, four_length]; omega) (by omega) (crc_lt _)).mono ?_
      rintro e w3 ⟨rfl, hb4, k3, _⟩
      replace hb4 : w3.heap[w.heap.size]? = some (.cells ((headB gen B ++ R).map bv).toArray 5 (0, 0)) := hb4
      have K3 : Old w w3 := (K2.trans' k3).mono fun k hk _ => by omega
      have hO3 : OwnB (fun k => w.heap.size ≤ k) w3 (.slice (some ⟨w.heap.size, 0, none⟩) 16 N) (headB gen B) := (OwnB.of_front hb4 (by rw [headB_length]) (by rw [headB_length]; have := HN.out; omega) (by have := HN.out; omega)).mono fun k _ hk => by have hk' : k = w.heap.size := hk; omega
      clear hb0 hb1 hb2 hb3 hb4 k0 kc k1 k2 k3 K2 hcp hT2 b0 bB i12 i13
      go_wp2
      go_loopw [9, 10, 11, 43] (fun bq _ _ i wr => ∃ k : Nat, i = .int .i64 k ∧ k ≤ recs.length ∧ Hid (Old w wr) ∧ Hid (OwnB (fun k => w.heap.size ≤ k) wr bq (headB gen B ++ framesB gen 0 (recs.take k)))) (fun _ _ _ i _ => recs.length - (intOf i).toNat)
      case atStart => exact ⟨0, rfl, Nat.zero_le _, hid K3, hid (by simpa [framesB] using hO3)⟩
      case round =>
        clear hO3 K3
        obtain ⟨k, rfl, hk, hold, hown⟩ := hrel
        replace hold := hold.out
        have hfl : (headB gen B ++ framesB gen 0 (recs.take k)).length = 16 + sizeF (recs.take k) := by rw [List.length_append, headB_length, framesB_length]
        have HFL := hid hfl
        clear hfl
        by_cases hlt : k < recs.length
        · obtain ⟨b, o, A', c', rfl, hSb, h0, h1, h2⟩ := (hr.keep (hold.old _)).at_ hlt
          have hft := framesB_take gen recs hlt
          have e1 := HM.out.2 k hlt
          have e2 := HM.out.1 (k + 1)
          rw [← HB.out] at e2
          have hrl' := hrl recs[k] (List.getElem_mem hlt)
          have HE := hid (And.intro hft (And.intro e1 e2))
          clear hft e1 e2
          obtain ⟨fb, hfb⟩ : ∃ fb, fb = headB gen B ++ framesB gen 0 (recs.take k) := ⟨_, rfl⟩
          rw [← hfb] at hown HFL
          obtain ⟨A9, c9, rfl, _, _⟩ := hown.out.slice
          have HFB := hid hfb
          clear hfb
          have i1 : (0 : Int) ≤ (k : Int) := by omega
          have i2 : (k : Int) < (recs.length : Int) := by omega
          have bk : IntKind.u32.wrap (k : Int) = (k : Int) := by rw [IntKind.wrap_u32]; omega
          have hfr := frame_any wr S gen k A' recs[k].length c' recs[k] (hT.keep (hold.old (fun _ => True)) trivial) hg (by omega) h2 rfl hrl'
          obtain ⟨fr, hfr2⟩ : ∃ fr, fr = frameB gen k recs[k] := ⟨_, rfl⟩
          rw [← hfr2] at hfr HE
          have hfrl : fr.length = 12 + recs[k].length := by rw [hfr2]; exact frameB_length ..
          clear hfr2
          generalize recs[k] = rec at *
          have hFRL := hid hfrl
          clear hfrl
          go_wp2_with fail
          refine hfr.mono ?_
          rintro e w4 ⟨v4, rfl, hv4, k4⟩
          clear hfr
          obtain ⟨A4, c4, rfl, _, _⟩ := hv4.slice
          have hown4 := hown.out.keep (k4.old _)
          have hrow4 := hown4.row
          have hs4 := k4.size
          have hso := hold.size
          go_wp2_with (at_builtin; refine wpList_append_ex _ (by rfl) _ _ 22 5 (by rfl) Tryd.underlying22 info5 (by rfl) (by omega) (by rfl) hrow4 A4 fr.length c4 (fr.map bv) (by rfl) (by simp) (fun h => (by obtain ⟨ad, e, _, h⟩ := hv4.bts.src (by simpa using h); exact ⟨ad, e, h⟩)) (bv_one fr) (by have := hFRL.out; have := HFL.out; have := HE.out.2; omega) (by have := hFRL.out; have := HFL.out; have := HE.out.2; unfold maxLen; omega) ?_; intro v5 w5 hown5 hgrow5 hat5)
          have K45 : Keeps (fun k => (Value.slice A9 fb.length c9).ownBlock ≠ some k) w4 w5 := (Keeps.refl _ w4).grown hgrow5 (fun k _ h hn => hn h)
          refine ⟨⟨k + 1, by go_num, by omega, hid ((hold.trans' k4).trans K45 fun k hk _ e => by have h1 : w.heap.size ≤ k := hown4.foot k e; omega), hid ?_⟩, by simp [intOf]; omega⟩
          rw [HE.out.1, ← List.append_assoc, ← HFB.out]
          refine ⟨by simpa using hown5, fun k hk => ?_, by have := hFRL.out; have := HFL.out; have := HE.out.2; simp; omega⟩
          rcases hat5 with e | e
          · rw [e] at hk; exact hown4.foot k hk
          · rw [e] at hk; injection hk with hk; omega
        · obtain rfl : k = recs.length := by omega
          rw [List.take_length] at hown HFL
          rw [← HB.out] at HFL
          have hbj : beginJ j gen recs = { j with ws := j.ws ++ [⟨j.cur, 0, headB gen B ++ framesB gen 0 recs⟩], gen := gen, nr := recs.length, end_ := (headB gen B ++ framesB gen 0 recs).length } := by rw [HFL.out, HB.out]; rfl
          have HBJ := hid hbj
          clear hbj
          generalize headB gen B ++ framesB gen 0 recs = fb at *
          obtain ⟨A9, c9, rfl, _, _⟩ := hown.out.slice
          have hwr := h.keep (hold.old _)
          have hh := hwr.head
          have c3 : wr.cell? ⟨g, 3, none⟩ = some (.int .i64 (j.cur : Int)) := cell_of_heap hh
          have c4 : wr.cell? ⟨g, 4, none⟩ = some (.int .u32 (j.gen : Int)) := cell_of_heap hh
          have c5 : wr.cell? ⟨g, 5, none⟩ = some (.int .u32 (j.nr : Int)) := cell_of_heap hh
          have c6 : wr.cell? ⟨g, 6, none⟩ = some (.int .i64 (j.end_ : Int)) := cell_of_heap hh
          have zf : ∀ i, wr.frozen? ⟨g, i, none⟩ = false := fun i => frozen_of_heap hh
          go_wp2
          obtain ⟨W5, hW5⟩ : ∃ W, W = ((wr.setCell ⟨g, 4, none⟩ (.int .u32 (gen : Int))).setCell ⟨g, 5, none⟩ (.int .u32 (recs.length : Int))).setCell ⟨g, 6, none⟩ (.int .i64 (fb.length : Int)) := ⟨_, rfl⟩
          rw [← hW5]
          have k5 : Keeps (· ≠ g) wr W5 := by rw [hW5]; exact (((Keeps.refl _ _).setCell (fun _ h => h rfl) _).setCell (fun _ h => h rfl) _).setCell (fun _ h => h rfl) _
          have h5 := hwr.sets (j' := { j with gen := gen, nr := recs.length, end_ := fb.length }) k5 (by
            rw [hW5, heap_setCell (heap_setCell (heap_setCell hh _) _)]
            rfl) rfl rfl rfl
          clear hW5 c3 c4 c5 c6 zf
          have hgb : g < w.heap.size := lt_of_heap h.head
          have hown5 := hown.out.keep (k5.mono fun k _ (hk : w.heap.size ≤ k) => by show k ≠ g; omega)
          have d2 : W5.cell? ⟨g, 2, none⟩ = some (.slice AP q.length cP) := cell_of_heap h5.head
          have d3 : W5.cell? ⟨g, 3, none⟩ = some (.int .i64 (j.cur : Int)) := cell_of_heap h5.head
          refine wp_region_planF (fun w' => w'.cell? ⟨g, 2, none⟩ = some (.slice AP q.length cP) ∧ w'.cell? ⟨g, 3, none⟩ = some (.int .i64 (j.cur : Int))) 13
            ((List.range 11).map (fun i => (i, none)) ++ [(11, some 11), (12, some 12)]) (by kernel_rfl) (by kernel_rfl) ⟨d2, d3⟩ ?_
          iterate 11 (refine planF_take (v := ?_) (by rfl) (by rfl) (fun w' hS => ?_) ?_; rotate_left 1; (obtain ⟨s0, s1⟩ := hS; go_simp <;> (try with_reducible rfl)); (simp only [Act.put, List.setIfInBounds_toArray, List.set_cons_zero, List.set_cons_succ]))
          refine planF_loud (by rfl) (loudly_of (by rfl) (fun K hK => ?_))
          go_wp2
          obtain ⟨w3, hw3⟩ : ∃ W, W = (W5.alloc (.cells #[.int .i64 (j.cur : Int), .int .i64 0, .slice A9 fb.length c9] 99)).drew := ⟨_, rfl⟩
          rw [← hw3]
          have K23 : Old W5 w3 := by rw [hw3]; exact ((Keeps.refl _ _).alloc _).drew
          have hb3 : w3.heap[W5.heap.size]? = some (.cells #[.int .i64 (j.cur : Int), .int .i64 0, .slice A9 fb.length c9] 99 (0, 0)) := by rw [hw3]; exact heap_alloc_new _ _
          clear hw3
          refine hK _ _ ⟨(K23.cell (lt_of_cell d2) trivial).trans d2, (K23.cell (lt_of_cell d3) trivial).trans d3⟩ ?_
          clear hK K
          have h3 := h5.keep (K23.old _)
          have hrow3 := h3.p.row
          refine planF_loud (by rfl) (loudly_of (by rfl) (fun K hK => ?_))
          refine wp_append_ex w3 _ _ 95 99 (by rfl) Tryd.underlying95 info99 (by rfl) (by omega) (by rfl) hrow3 (some ⟨W5.heap.size, 0, none⟩) 1 1 [.int .i64 (j.cur : Int), .int .i64 0, .slice A9 fb.length c9] (by rfl) (by rfl) (fun _ => ⟨_, rfl, World.news_of_block hb3⟩) (three_one rfl rfl rfl) (by have := HQL.out; omega) (by have := HQL.out; unfold maxLen; omega) ?_
          intro v2 w4 hown4 hgrow4 hat4
          simp only [Act.put, List.setIfInBounds_toArray, List.set_cons_zero, List.set_cons_succ]
          have K34 : Keeps (fun k => (Value.slice AP q.length cP).ownBlock ≠ some k) w3 w4 := (Keeps.refl _ w3).grown hgrow4 (fun k _ h hn => hn h)
          have hgP : (Value.slice AP q.length cP).ownBlock ≠ some g := own_ne_heap hrow3 h3.head (by decide)
          have hh4 := K34.heap h3.head hgP
          have z2 : w4.cell? ⟨g, 2, none⟩ = some (.slice AP q.length cP) := cell_of_heap hh4
          have z3 : w4.cell? ⟨g, 3, none⟩ = some (.int .i64 (j.cur : Int)) := cell_of_heap hh4
          have zf : ∀ i, w4.frozen? ⟨g, i, none⟩ = false := fun i => frozen_of_heap hh4
          obtain ⟨A4, c4', hv2, _, _⟩ := own_slice hown4
          subst hv2
          refine hK _ _ ⟨z2, z3⟩ ?_
          clear hK K
          have hs1 := hold.size
          have hs2 := k5.size
          have hs23 := K23.size
          have hGF : ∀ k, w.heap.size ≤ k → ¬ F k := fun k h1 h2 => by have := h.lt k h2; omega
          have L := h3.push (x := (⟨j.cur, 0, fb⟩, .slice A9 fb.length c9)) (hown5.keep (K23.old _)) hGF K34 hown4
          have KK : Keeps (fun k => ¬ F k) w (w4.setCell ⟨g, 2, none⟩ (.slice A4 (q.length + 1) c4')) :=
            (((((hold.old _).trans k5 fun k _ hk e => hk (by rw [e]; exact h.fg)).trans' (K23.old _)).trans (K34.mono fun k _ hk e => hk (h.p.foot k e)) fun _ _ hk => hk).setCell (fun _ hk => hk h.fg) _)
          have LL := hid (And.intro L KK)
          clear L KK hown4 hgrow4 hrow3 K34 h3 d2 d3 hown5 h5 k5 hwr hh
          refine planF_tail (by rfl) ?_
          go_wp2
          refine NoPanic.normal ?_
          go_wp2
          go_end0
          rw [HBJ.out]
          refine ⟨rfl, _, _, _, LL.out.1, fun k hk => ?_, LL.out.2⟩
          rcases hk with hk | hk | hk
          · exact .inl hk
          · exact .inr hk.1
          · rcases hat4 with e | e
            · rw [e] at hk; exact .inl (h.p.foot k hk)
            · rw [e] at hk; injection hk with hk; right; omega
end Go.Proofs.YtdpaaoeipconcaaDoor
