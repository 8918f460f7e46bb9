/- weftlaw12.JournalFills: an area takes just so many bytes. Conditions: the table lies. -/
import Derived.Test.YtdpaaoeipconcaaDoorJBegun
import Derived.Test.YtdpaaoeipconcaaDoorJApp
namespace Go.Proofs.YtdpaaoeipconcaaDoor
open Go.RowKit

theorem sizeF_replicate (k : Nat) (r : List UInt8) : sizeF (List.replicate k r) = k * (12 + r.length) := by
  induction k with
  | zero => simp [sizeF]
  | succ k ih =>
    have e : sizeF (List.replicate (k + 1) r) = (12 + r.length) + sizeF (List.replicate k r) := by simp [sizeF, List.replicate_succ]
    rw [e, ih, Nat.succ_mul]
    omega

def sliceLen : Value → Nat
  | .slice _ n _ => n
  | _ => 0

abbrev zeros (N : Nat) : List UInt8 := List.replicate N 0

/-- Bytes that are made. -/
theorem made_row {w : World} {N : Nat} : (w.alloc (.cells (madeCells #[.int .u8 0] N) 5)).heap[w.heap.size]? = some (.cells ((zeros N).map bv).toArray 5 (0, 0)) := by
  rw [heap_alloc_new, List.map_replicate, ← toList_madeCells_one]
  rfl

/-- ahead of a round -/
def InFill (w : World) (b N g k : Nat) (L : Value) (wr : World) : Prop :=
  ∃ (j : Jn) (F : Nat → Prop) (vA vB vP : Value) (q : List (Wr × Value)) (R0 : Recs) (rest : List (Recs × Nat)) (ql : List (List UInt8 × Value)), LNet F wr g vA vB vP q j ∧ RecJ j R0 rest (List.replicate k (zeros N)) ∧ OwnL (fun k => w.heap.size ≤ k ∧ ¬ F k) (fun k => k = b) wr L ql ∧
    ql.map (·.1) = List.replicate k (zeros N) ∧ ¬ F b ∧ (∀ k, F k → w.heap.size ≤ k) ∧ wr.heap[b]? = some (.cells ((zeros N).map bv).toArray 5 (0, 0)) ∧ Old w wr ∧ j.ws.length ≤ k + 1

theorem OwnL.foot2 {F F' S : Nat → Prop} {w : World} {L : Value} {q : List (List UInt8 × Value)} (h : OwnL F S w L q) (hF : ∀ k, k < w.heap.size → F k → F' k) : OwnL F' S w L q := ⟨h.row, h.vb, fun k hk => hF k (own_lt h.row hk) (h.foot k hk)⟩

/-- A block that is not the journal's. -/
def Away (F : Nat → Prop) (w : World) (k : Nat) : Prop := k < w.heap.size ∧ ¬ F k
theorem Away.step {F F' : Nat → Prop} {w w' : World} {k : Nat} (h : Away F w k) (hF : ∀ k, F' k → F k ∨ w.heap.size ≤ k) (hz : w.heap.size ≤ w'.heap.size) : Away F' w' k :=
  ⟨Nat.lt_of_lt_of_le h.1 hz, fun hf => by
    rcases hF k hf with h' | h'
    · exact h.2 h'
    · have := h.1; omega⟩
theorem Away.more {F : Nat → Prop} {w w' : World} {k : Nat} (h : Away F w k) (hz : w.heap.size ≤ w'.heap.size) : Away F w' k := ⟨Nat.lt_of_lt_of_le h.1 hz, h.2⟩

/-- An append of one onto the whole: the list and the longer one. -/
theorem App1.two {w w' : World} {e g cap : Nat} {xs : List Value} {x v : Value} (h : App1 w e g cap xs.length xs [x] v w') (hr : Row1 w e g cap xs) (hc : cap ≤ maxLen) :
    ∃ g' c', v = .slice (some ⟨g', 0, none⟩) (xs.length + 1) c' ∧ c' ≤ maxLen ∧ xs.length + 1 ≤ c' ∧ Row1 w' e g' c' (xs ++ [x]) ∧ Row1 w' e g cap xs ∧ Keeps (· ≠ g) w w' ∧ (g' = g ∨ g' = w.heap.size) ∧ w.heap.size ≤ w'.heap.size := by
  have h0 := hr.lt
  rcases h with ⟨h1, h2, h3, h4, h5⟩ | ⟨h1, c', h2, h3, h4, h5, h6, h7⟩
  · rw [List.take_length] at h3
    have h6 := h3.take (xs.length + 1)
    have h7 := h3.take xs.length
    rw [List.append_assoc, List.take_append, List.take_of_length_le (l := xs) (by omega)] at h6
    rw [List.append_assoc, List.take_append_of_le_length (Nat.le_refl _), List.take_length] at h7
    have e1 : ([x] ++ xs.drop (xs.length + [x].length)).take (xs.length + 1 - xs.length) = [x] := by
      rw [Nat.add_sub_cancel_left]; rfl
    rw [e1] at h6
    exact ⟨g, cap, h2, hc, h1, h6, h7, h4, .inl rfl, by omega⟩
  · rw [List.take_length] at h5
    exact ⟨w.heap.size, c', h4, h3, h2, h5, hr.keep h6 trivial, h6.mono fun _ _ _ => trivial, .inr rfl, by omega⟩

/-- Records out of a row of slices. -/
theorem rcs_of_row {S : Nat → Prop} {w : World} {g c : Nat} {q : List (List UInt8 × Value)} (hr : Row1 w 22 g c (q.map (·.2))) (hv : ∀ x ∈ q, VB S w x.2 x.1) (hg : S g) (hl : q.length ≤ 281474976710656) : Rcs S w (some ⟨g, 0, none⟩) (q.map (·.1)) := by
  refine ⟨by simpa using hl, fun _ => ⟨g, 0, rfl, hg, fun i hi => ?_⟩⟩
  have hi' : i < q.length := by simpa using hi
  obtain ⟨A', c', e, h1, h2⟩ := hv q[i] (List.getElem_mem hi')
  refine ⟨A', c', ?_, by simpa using h1, by simpa using h2⟩
  rw [Nat.zero_add, hr.cell (by simpa using hi')]
  simp [hi', e]

/-- A journal in the midst of steps: the blocks of X are not its own and are as they were in w0. -/
structure JSt (wc : World) (X : Nat → Prop) (w0 w : World) (F : Nat → Prop) (g : Nat) (vA vB vP : Value) (q : List (Wr × Value)) (j : Jn) : Prop where
  net : LNet F w g vA vB vP q j
  new : ∀ k, F k → wc.heap.size ≤ k
  away : ∀ k, X k → Away F w k
  keep : Keeps X w0 w
  old : Old wc w

section
variable {wc w0 w w' : World} {X F : Nat → Prop} {g : Nat} {vA vB vP : Value} {q : List (Wr × Value)} {j : Jn}
theorem JSt.step {F' : Nat → Prop} {vA' vB' vP' : Value} {q' : List (Wr × Value)} {j' : Jn} (h : JSt wc X w0 w F g vA vB vP q j) (hL : LNet F' w' g vA' vB' vP' q' j') (hF : ∀ k, F' k → F k ∨ w.heap.size ≤ k) (hk : Keeps (fun k => ¬ F k) w w') : JSt wc X w0 w' F' g vA' vB' vP' q' j' :=
  ⟨hL, fun k hk' => by
    rcases hF k hk' with h' | h'
    · exact h.new k h'
    · have := h.old.size; omega, fun k hx => (h.away k hx).step hF hk.size, h.keep.trans hk fun k _ hx => (h.away k hx).2, h.old.trans hk fun k hk' _ hf => by have := h.new k hf; omega⟩
theorem JSt.more (h : JSt wc X w0 w F g vA vB vP q j) (hk : Old w w') : JSt wc X w0 w' F g vA vB vP q j :=
  ⟨h.net.keep (hk.old _), h.new, fun k hx => (h.away k hx).more hk.size, h.keep.trans' (hk.old _), h.old.trans' hk⟩
/-- One of the blocks is written; others come under watch. -/
theorem JSt.rebase {Y : Nat → Prop} {b : Nat} (h : JSt wc X w0 w F g vA vB vP q j) (hk : Keeps (· ≠ b) w w') (hb : X b) (hbw : wc.heap.size ≤ b) (hY : ∀ k, Y k → X k ∨ (w.heap.size ≤ k ∧ k < w'.heap.size)) : JSt wc Y w' w' F g vA vB vP q j :=
  ⟨h.net.keep (hk.mono fun k _ hf e => (h.away b hb).2 (by rw [← e]; exact hf)), h.new, fun k hy => by
    rcases hY k hy with h' | h'
    · exact (h.away k h').more hk.size
    · exact ⟨h'.2, fun hf => by have := h.net.lt k hf; omega⟩, Keeps.refl _ _, h.old.trans hk fun k hk' _ e => by omega⟩
end

theorem Row1.ne_heap {w : World} {e g cap b t : Nat} {xs : List Value} {cs : Array Value} {f : Nat × Nat} (h : Row1 w e g cap xs) (hb : w.heap[b]? = some (.cells cs t f)) (hne : e ≠ t) : b ≠ g := by
  rintro rfl
  obtain ⟨cur, hg, _⟩ := h
  rw [hg] at hb
  injection hb with hb
  injection hb with _ ht
  exact hne ht

/-- .. of a guarded operation -/
theorem wpList_app1_g {P : Program} (w : World) {ops : Array Oper} {rest : List Oper} {o : Oper} {a : Act} {Q : Exit → Act → World → Prop} (hw : Region.wanted o (yielded ops a.tmps) = true) (s x : Operand) (t e : TypeId)
    (ho : o.op = .call { callee := .builtin .append, args := #[s, x], argTypes := #[t, t] })
    {z : Value} {bytes : Nat} (ht : P.underlying t = some (.slice e)) (hi : (P.info? e).map (fun i => (i.zero, i.size, i.bytes)) = some (some z, 1, bytes)) (hz1 : z.cells.size = 1)
    {g cap n : Nat} {xs : List Value} (hs : a.eval s = .slice (some ⟨g, 0, none⟩) n cap) (hr : Row1 w e g cap xs) (hn : n ≤ xs.length) (ad : Addr) (m c : Nat) (news : List Value) (hx : a.eval x = .slice (some ad) m c) (hl : news.length = m) (hnews : ∀ j u, news[j]? = some u → w.cell? (ad.add j) = some u) (h1 : ∀ u ∈ news, u.oneCell' = true)
    (hm : 0 < m) (hb : (n + m) * bytes ≤ 140737488355328) (h63 : n + m ≤ maxLen)
    (h : ∀ v' w', App1 w e g cap n xs news v' w' → wpList P ops Q rest (a.put o.dst v') w') : wpList P ops Q (o :: rest) a w := by
  refine wpList_step fun K hK => ?_
  rw [if_pos hw]
  obtain ⟨v', w', hrun, h2⟩ := run_app1 (P := P) w t o.type e ht hi hz1 hr hn ad m c news hl hnews h1 hm hb h63
  unfold Oper.wp execOp
  simp only [ho, resolve, invoke, builtin, Sem.run_bind, Sem.run_pure, Result.andThen_ok, List.map_toArray, List.map_cons, List.map_nil, hs, hx, hrun]
  exact hK _ _ (h v' w' h2)

theorem take_zeros {a b : Nat} (h : b ≤ a) : (zeros a).take b = zeros b := by rw [List.take_replicate, Nat.min_eq_left h]

set_option maxRecDepth 10000 in
set_option maxHeartbeats 16000000 in
theorem fills_any (w : World) (n : Int) (hT : Tab w) : Calls Tryd.prog 16 #[.int .i64 n] w fun e w' => e = .returned (.bool true) ∧ Old w w' := by
  have hpos := hT.pos
  go_enter Tryd.func16, Tryd.ntmps16
  go_upto_region 1 with fail
  go_cut [0, 17] (fun v p wx => wx = w ∧ ((∃ N : Nat, v = .int .i64 N ∧ 3000 ≤ N ∧ N ≤ 65536 ∧ p = .bool false) ∨ p = .bool true))
  case first =>
    by_cases h1 : n < 3000
    · go_wp2
      go_meet
      exact ⟨rfl, .inr rfl⟩
    · by_cases h2 : n > 65536
      · go_wp2
        go_meet
        exact ⟨rfl, .inr rfl⟩
      · go_wp2
        go_meet
        obtain ⟨m, rfl⟩ := Int.eq_ofNat_of_zero_le (show 0 ≤ n by omega)
        exact ⟨rfl, .inl ⟨m, rfl, by omega, by omega, rfl⟩⟩
  case rest =>
  obtain ⟨rfl, hNN⟩ := hcut
  rcases hNN with ⟨N, rfl, hN1, hN2, rfl⟩ | rfl
  · go_upto_region 3 with fail
    obtain ⟨i5, hi, hz0, hz1, hz2⟩ := info_parts info5
    have hmk := fun (N : Nat) (hN : N ≤ 1000000) w => run_make (P := Tryd.prog) w 22 5 i5 (.int .u8 0) Tryd.underlying22 hi hz0 .i64 .i64 (N : Int) (N : Int) (by omega) (by omega) (by rw [hz2]; omega) (by omega)
    simp only [hz1, Nat.mul_one, Int.toNat_natCast, show (Value.int .u8 0).cells = #[.int .u8 0] from rfl] at hmk
    have HMK := hid hmk
    clear hmk hi hz0 hz1 hz2
    go_wp2_with fail
    refine (first_any wc hT).mono ?_
    rintro e w1 ⟨rfl, k1⟩
    have hT1 := hT.keep (k1.old (fun _ => True)) trivial
    have z1 := k1.size
    go_wp2_with fail
    refine (begun_any w1 hT1 exJ0 ex_open).mono ?_
    rintro e w2 ⟨F0, g, tt, vA0, vB0, vP0, q0, rfl, hL0, hF0, k2⟩
    have z2 := k2.size
    have K2 := k1.trans' k2
    obtain ⟨W3, hW3⟩ : ∃ W, W = w2.alloc (.cells (madeCells #[.int .u8 0] N) 5) := ⟨_, rfl⟩
    have k3 : Old w2 W3 := by rw [hW3]; exact (Keeps.refl _ _).alloc _
    have hb3 : W3.heap[w2.heap.size]? = some (.cells ((zeros N).map bv).toArray 5 (0, 0)) := by rw [hW3]; exact made_row
    have hmk := HMK.out N (by omega) w2
    have hLt := hL0.lt
    have HS := hid (show InFill wc w2.heap.size N g 0 (.slice none 0 0) W3 from ⟨exJ0, F0, vA0, vB0, vP0, q0, [], [], [], hL0.keep (k3.old _), rec_ex, OwnL.nil _ _ _, by simp, fun h => by have := hLt _ h; omega, fun k h => by have := hF0 k h; omega, hb3, K2.trans' k3, by simp [exJ0]⟩)
    clear hL0 hF0 hLt hb3 k3
    go_upto_region 7 with fail
    rw [← hW3]
    clear hW3 hmk
    go_wp2
    have hzl : (zeros N).length = N := by simp
    obtain ⟨M, hM⟩ : ∃ M, M = 12 + N := ⟨_, rfl⟩
    have HM := hid hM
    have hM1 : 3012 ≤ M := by omega
    have hM2 : M ≤ 65548 := by omega
    clear hM
    go_loopw [6] (fun L wr => ∃ k : Nat, (∃ A c, L = .slice A k c) ∧ 16 + k * M ≤ 1048576 ∧ Hid (InFill wc w2.heap.size N g k L wr)) (fun L _ => 400 - sliceLen L)
    case atStart => exact ⟨0, ⟨none, 0, rfl⟩, by omega, HS⟩
    case round =>
      clear HS
      obtain ⟨k, ⟨AL, cL, rfl⟩, hkM, hin⟩ := hrel
      obtain ⟨j, F, vA, vB, vP, q, R0, rest, ql, hL, hrec, hOL, hql, hFb, hFw, hb, hold, hws⟩ := hin.out
      clear hin
      have hk4 : k ≤ 348 := by
        have := Nat.mul_le_mul_left k hM1
        omega
      have hend := hrec.log.end_
      rw [sizeF_replicate, hzl, ← HM.out] at hend
      obtain ⟨sz, hsz⟩ : ∃ sz, sz = 16 + k * M := ⟨_, rfl⟩
      rw [← hsz] at hend hkM
      have hls := lsize_any hL
      rw [hend] at hls
      have b1 : IntKind.i64.wrap ((sz : Int) + 12) = (sz : Int) + 12 := by rw [IntKind.wrap_i64]; omega
      have b2 : IntKind.i64.wrap ((sz : Int) + 12 + (N : Int)) = (sz : Int) + 12 + (N : Int) := by rw [IntKind.wrap_i64]; omega
      have hr := Bts.of_block hb (by simp; omega)
      have hso := hold.size
      by_cases hfit : sz + 12 + N ≤ 1048576
      · have i1 : (sz : Int) + 12 + (N : Int) ≤ 1048576 := by omega
        have hsz2 : 16 + (k + 1) * M = sz + 12 + N := by rw [Nat.add_mul, Nat.one_mul]; have := HM.out; omega
        obtain ⟨j', hap, hrec', _, hws'⟩ := rec_append hrec (rec := zeros N) (by rw [hzl]; omega) (by rw [sizeF_replicate, hzl, ← HM.out]; omega)
        have happ := append_any wr F _ g vA vB vP q j _ N N (zeros N) hL hr hzl.symm (hT.keep (hold.old (fun _ => True)) trivial) (by omega)
        rw [hap] at happ
        have hrs : List.replicate k (zeros N) ++ [zeros N] = List.replicate (k + 1) (zeros N) := by rw [List.replicate_succ']
        rw [hrs] at hrec'
        have HRS := hid hrs
        have HSZ2 := hid hsz2
        have HR := hid hrec'
        have hqk : ql.length = k := by
          have := congrArg List.length hql
          simpa using this
        subst hqk
        have HQ := hid hql
        clear hsz2 hrs hrec' hrec hap hend hsz hql
        generalize hzz : zeros N = rc at *
        go_wp2_with fail
        refine hls.mono ?_
        rintro e w3 ⟨rfl, rfl⟩
        clear hls
        go_wp2_with fail
        refine happ.mono ?_
        rintro e w4 ⟨rfl, F4, vP4, q4, hL4, hF4, k4⟩
        clear happ
        simp only at hL4
        have z4 := k4.size
        have hb4 := k4.heap hb hFb
        have hOL4 := hOL.keep (k4.mono fun k' _ h hf => by
          rcases h with h | rfl
          · exact h.2 hf
          · exact hFb hf)
        obtain ⟨W5, hW5⟩ : ∃ W, W = w4.alloc (.cells #[.slice (some ⟨w2.heap.size, 0, none⟩) N N] 22) := ⟨_, rfl⟩
        have k5 : Old w4 W5 := by rw [hW5]; exact (Keeps.refl _ _).alloc _
        have hbb : W5.heap[w4.heap.size]? = some (.cells #[.slice (some ⟨w2.heap.size, 0, none⟩) N N] 22 (0, 0)) := by rw [hW5]; exact heap_alloc_new _ _
        have hO5 := hOL4.keep (k5.old _)
        have hb5 := k5.heap hb4 trivial
        have hrow5 := hO5.row
        have z5 := k5.size
        go_upto_region 12 with (at_builtin; rw [← hW5]; refine wpList_append_ex _ (by rfl) _ _ 35 22 (by rfl) Tryd.underlying35 info22 (by rfl) (by omega) (by rfl) hrow5 (some ⟨w4.heap.size, 0, none⟩) 1 1 [.slice (some ⟨w2.heap.size, 0, none⟩) N N] (by rfl) (by rfl) (fun _ => ⟨_, rfl, World.news_of_block hbb⟩) (one_one rfl) (by omega) (by unfold maxLen; omega) ?_; intro v6 w6 hown6 hgrow6 hat6)
        have K6 : Keeps (fun k' => (Value.slice AL ql.length cL).ownBlock ≠ some k') W5 w6 := (Keeps.refl _ W5).grown hgrow6 (fun k' _ h hn => hn h)
        have hO5' : OwnL (fun k => wc.heap.size ≤ k ∧ ¬ F4 k) (fun k => k = w2.heap.size) W5 (.slice AL ql.length cL) ql := ⟨hO5.row, hO5.vb, fun k' hk' => ⟨(hO5.foot k' hk').1, fun hf => by
          rcases hF4 k' hf with h | h
          · exact (hO5.foot k' hk').2 h
          · have := own_lt hOL.row hk'; omega⟩⟩
        have hbL : (Value.slice AL ql.length cL).ownBlock ≠ some w2.heap.size := own_ne_heap hO5.row hb5 (by decide)
        have hVB : VB (fun k => k = w2.heap.size) W5 (.slice (some ⟨w2.heap.size, 0, none⟩) N N) rc := ⟨some ⟨w2.heap.size, 0, none⟩, N, by rw [hzl], by omega, Bts.of_block hb5 (by omega)⟩
        have hL4l := hL4.lt
        have hO6 := OwnL.push (x := (rc, .slice (some ⟨w2.heap.size, 0, none⟩) N N)) hO5' K6 hVB (fun k' e => by rw [e]; exact hbL) hown6 (fun k' hk' => by
          rcases hat6 with e | e
          · rw [e] at hk'; exact hO5'.foot k' hk'
          · rw [e] at hk'; injection hk' with hk'
            exact ⟨by omega, fun hf => by have := hL4l k' hf; omega⟩)
        have hL6 : LNet F4 w6 g vA vB vP4 q4 j' := (hL4.keep (k5.old _)).keep (K6.mono fun k' _ hf e => (hO5'.foot k' e).2 hf)
        have hb6 := K6.heap hb5 hbL
        have hold6 : Old wc w6 := ((hold.trans k4 fun k' hk' _ hf => by have := hFw k' hf; omega).trans' k5).trans K6 fun k' hk' _ e => by have := (hO5'.foot k' e).1; omega
        have hz6 := K6.size
        obtain ⟨A6, c6, hv6, _, _⟩ := own_slice hown6
        have hend' : j'.end_ = sz + 12 + N := by
          have := HR.out.log.end_
          rw [sizeF_replicate, hzl, ← HM.out] at this
          rw [this, HSZ2.out]
        have hls6 := lsize_any hL6
        rw [hend'] at hls6
        have hq6 : (ql ++ [(rc, Value.slice (some ⟨w2.heap.size, 0, none⟩) N N)]).map (·.1) = List.replicate (ql.length + 1) rc := by rw [List.map_append, HQ.out]; exact HRS.out
        obtain ⟨A6', c6', hv6', hc6, hR6⟩ := hO6.rcs (by simp; omega)
        rw [hq6] at hR6
        rw [hv6] at hv6'
        injection hv6' with hA6 hnn6 hc6'
        clear hnn6
        subst hA6 hc6'
        have hsg := size_any w6 _ A6 c6 (List.replicate (ql.length + 1) rc) hR6 (fun r hr => by rw [List.eq_of_mem_replicate hr, hzl]; omega) (by simp; omega)
        rw [List.length_replicate, sizeF_replicate, hzl, ← HM.out, HSZ2.out] at hsg
        have hRR := hid (show InFill wc w2.heap.size N g (ql.length + 1) (.slice A6 (ql.length + 1) c6) w6 from ⟨j', F4, vA, vB, vP4, q4, _, _, _, hL6, by rw [hzz]; exact HR.out, by rw [← hv6]; exact hO6, by rw [hzz]; exact hq6, fun hf => by
          rcases hF4 _ hf with h | h
          · exact hFb h
          · have := lt_of_heap hb; omega, fun k' hf => by
          rcases hF4 k' hf with h | h
          · exact hFw k' h
          · omega, by rw [hzz]; exact hb6, hold6, by omega⟩)
        have hkm : 16 + (ql.length + 1) * M ≤ 1048576 := by rw [HSZ2.out]; exact hfit
        clear hO6 hL6 hb6 hold6 hO5' hO5 hOL4 hOL hbL hVB hL4l hR6 hq6 hown6 hgrow6 hat6 K6 hL4 k4 k5 hbb hb5 hb4 hb hrow5 hL hend' hF4 hr hFw hold
        subst hv6
        have HSG := hid hsg
        have HKM := hid hkm
        clear hzz hW5 hws' hws hc6 b1 b2 hsg hkm hfit i1 HQ HRS HR HSZ2
        generalize hkk : ql.length = kk at *
        have HKK := hid hkk
        clear hkk
        go_wp2_with fail
        refine hls6.mono ?_
        rintro e w7 ⟨rfl, rfl⟩
        clear hls6
        go_wp2_with fail
        with_reducible refine HSG.out.mono ?_
        rintro e w7 ⟨rfl, rfl⟩
        go_wp2
        exact ⟨⟨kk + 1, ⟨A6, c6, rfl⟩, HKM.out, hRR⟩, by show 400 - (kk + 1) < 400 - ql.length; have := HKK.out; omega⟩
      · have i1 : ¬ (sz : Int) + 12 + (N : Int) ≤ 1048576 := by omega
        have hqk : ql.length = k := by
          have := congrArg List.length hql
          simpa using this
        subst hqk
        have hk1 : 0 < ql.length := by
          apply Nat.pos_of_ne_zero
          intro e
          rw [e] at hsz
          have := HM.out
          omega
        obtain ⟨gL, cc, hvL, hncL, hcmL, _⟩ := own_cellN hOL.row hk1
        injection hvL with hAL hnnL hccL
        clear hnnL
        subst hAL hccL
        have hRow : Row1 wr 22 gL cL (ql.map (·.2)) := Row1.ofOwn hOL.row
        have hgL := hOL.foot gL rfl
        have hJ0 : JSt wc (fun k => k = gL ∨ k = w2.heap.size) wr wr F g vA vB vP q j := ⟨hL, hFw, fun k hk => by
          rcases hk with rfl | rfl
          · exact ⟨hRow.lt, hgL.2⟩
          · exact ⟨lt_of_heap hb, hFb⟩, Keeps.refl _ _, hold⟩
        have hVB := hOL.vb
        have hszN : sizeF (List.replicate ql.length (zeros N)) = ql.length * M := by rw [sizeF_replicate, hzl, ← HM.out]
        have hsg : ∀ W, Keeps (fun k => k = gL ∨ k = w2.heap.size) wr W → Calls Tryd.prog 27 #[.slice (some ⟨gL, 0, none⟩) ql.length cL] W fun e w' => e = .returned (.int .i64 (sz : Int)) ∧ W = w' := fun W hW => by
          have hr := rcs_of_row (S := fun k => k = gL ∨ k = w2.heap.size) (hRow.keep hW (.inl rfl)) (fun x hx => ((hVB x hx).mono fun k _ e => .inr e).keep hW) (.inl rfl) (by omega)
          have h := size_any W _ (some ⟨gL, 0, none⟩) cL (ql.map (·.1)) hr (fun r hr => by rw [hql] at hr; rw [List.eq_of_mem_replicate hr, hzl]; omega) (by simp; omega)
          rw [List.length_map, hql, hszN, ← hsz] at h
          exact h
        have hls : ∀ W F g vA vB vP q, LNet F W g vA vB vP q j → Calls Tryd.prog 21 #[.pointer (some ⟨g, 0, none⟩)] W fun e w' => e = .returned (.int .i64 (sz : Int)) ∧ W = w' := fun W F g vA vB vP q h => by
          have := lsize_any h
          rwa [hend] at this
        have hap1 : appendJ j (zeros N) = (4, j) := by rw [appendJ, if_neg (by rw [hzl]; omega), if_pos (by rw [hzl, hend]; omega)]
        obtain ⟨Q, hQ⟩ : ∃ Q : Nat, Q = 65537 := ⟨_, rfl⟩
        have hzq : (zeros Q).length = Q := by simp
        have hap2 : appendJ j (zeros Q) = (2, j) := by rw [appendJ, if_pos (by rw [hzq]; omega)]
        have hmkq := HMK.out Q (by omega)
        have e65 : ((Q : Nat) : Int) = 65537 := by rw [hQ]; rfl
        rw [e65] at hmkq
        have happ := append_any wr F _ g vA vB vP q j _ N N (zeros N) hL hr hzl.symm (hT.keep (hold.old (fun _ => True)) trivial) (by omega)
        rw [hap1] at happ
        have HCM := hid hcmL
        have HGL := hid hgL.1
        have HGB := hid (hRow.ne_heap hb (by decide))
        have HSG := hid hsg
        have HLS := hid hls
        have HRE := hid hrec
        have HVB := hid hVB
        have HQL := hid hql
        have HSZ := hid (And.intro hsz (And.intro hend hszN))
        have HQ2 := hid hQ
        have HB := hid hb
        have HRW := hid hRow
        have HN12 := hid hfit
        have hws2 : j.ws.length ≤ 1000 := by omega
        have HZQ := hid hzq
        clear hzq
        clear hsg hls hap1 hVB hql hrec hOL hszN hsz hend hQ e65 hcmL hncL hr hws hfit
        clear hRow hb
        have hlsr := HLS.out wr F g vA vB vP q hL
        clear hL hFw hold hgL hFb
        go_wp2_with fail
        refine hlsr.mono ?_
        rintro e w3 ⟨rfl, rfl⟩
        clear hlsr
        go_wp2_with fail
        refine happ.mono ?_
        rintro e w4 ⟨rfl, F4, vP4, q4, hL4, hF4, k4⟩
        clear happ
        have hJ4 := hJ0.step hL4 hF4 k4
        clear hJ0 hL4 hF4 k4
        go_wp2_with fail
        refine (HLS.out w4 F4 g vA vB vP4 q4 hJ4.net).mono ?_
        rintro e w3 ⟨rfl, rfl⟩
        go_wp2_with fail
        refine (HSG.out w4 hJ4.keep).mono ?_
        rintro e w3 ⟨rfl, rfl⟩
        go_wp2_with fail
        obtain ⟨W5, hW5⟩ : ∃ W, W = w4.alloc (.cells (madeCells #[.int .u8 0] Q) 5) := ⟨_, rfl⟩
        have k5 : Old w4 W5 := by rw [hW5]; exact (Keeps.refl _ _).alloc _
        have hb5 : W5.heap[w4.heap.size]? = some (.cells ((zeros Q).map bv).toArray 5 (0, 0)) := by rw [hW5]; exact made_row
        have hJ5 := hJ4.more k5
        have happ := append_any W5 F4 _ g vA vB vP4 q4 j (some ⟨w4.heap.size, 0, none⟩) Q Q (zeros Q) hJ5.net (Bts.of_block hb5 (by have := HZQ.out; have := HQ2.out; omega)) HZQ.out.symm (hT.keep (hJ5.old.old (fun _ => True)) trivial) (by omega)
        rw [hap2] at happ
        rw [← hW5]
        clear hW5 hb5 k5 hmkq hap2
        refine happ.mono ?_
        rintro e w6 ⟨rfl, F6, vP6, q6, hL6, hF6, k6⟩
        clear happ
        have hJ6 := hJ5.step hL6 hF6 k6
        clear hL6 hF6 k6 hJ5 hJ4
        go_wp2_with fail
        refine (HSG.out w6 hJ6.keep).mono ?_
        rintro e w3 ⟨rfl, rfl⟩
        have b3 : IntKind.i64.wrap (1048576 - (sz : Int)) = 1048576 - (sz : Int) := by rw [IntKind.wrap_i64]; omega
        by_cases hrest : sz + 12 ≤ 1048576
        · obtain ⟨T, hTs⟩ : ∃ T, T + (sz + 12) = 1048576 := ⟨1048576 - (sz + 12), by omega⟩
          have b4 : IntKind.i64.wrap (1048576 - (sz : Int) - 12) = (T : Int) := by rw [IntKind.wrap_i64]; omega
          obtain ⟨T1, hT1⟩ : ∃ T1, T1 = T + 1 := ⟨_, rfl⟩
          have b5 : IntKind.i64.wrap ((T : Int) + 1) = (T1 : Int) := by rw [IntKind.wrap_i64]; omega
          have hTl : T ≤ 65535 := by have := HN12.out; omega
          have hmkt := HMK.out T1 (by omega)
          have i2 : ¬ (T : Int) < 0 := by omega
          have HTS := hid (And.intro hTs hT1)
          clear hTs hT1
          obtain ⟨W8, hW8⟩ : ∃ W, W = w6.alloc (.cells (madeCells #[.int .u8 0] T1) 5) := ⟨_, rfl⟩
          have k8 : Old w6 W8 := by rw [hW8]; exact (Keeps.refl _ _).alloc _
          have hb8 : W8.heap[w6.heap.size]? = some (.cells ((zeros T1).map bv).toArray 5 (0, 0)) := by rw [hW8]; exact made_row
          have z8 : W8.heap.size = w6.heap.size + 1 := by rw [hW8]; simp
          have hJ8 : JSt wc (fun k => (k = gL ∨ k = w2.heap.size) ∨ k = w6.heap.size) W8 W8 F6 g vA vB vP6 q6 j := ⟨hJ6.net.keep (k8.old _), hJ6.new, fun k hk => by
            rcases hk with hk | rfl
            · exact (hJ6.away k hk).more k8.size
            · exact ⟨by omega, fun hf => by have := hJ6.net.lt _ hf; omega⟩, Keeps.refl _ _, hJ6.old.trans' k8⟩
          have kx := hJ6.keep.trans' (k8.old _)
          have hJ0z := hJ6.keep.size
          have hRow8 := HRW.out.keep kx (.inl rfl)
          have hVB8 : ∀ x ∈ ql, VB (fun k => k = w2.heap.size ∨ k = w6.heap.size) W8 x.2 x.1 := fun x hx => ((HVB.out x hx).keep (kx.mono fun k _ e => .inr e)).mono fun k _ e => .inl e
          have hzt : (zeros T1).length = T1 := by simp
          have hzt0 : (zeros T).length = T := by simp
          have hbt : Bts (fun k => k = w6.heap.size) W8 (some ⟨w6.heap.size, 0, none⟩) (zeros T1) := Bts.of_block hb8 (by have := HTS.out; omega)
          have hap4 : appendJ j (zeros T1) = (4, j) := by rw [appendJ, if_neg (by rw [hzt]; have := HTS.out; omega), if_pos (by rw [hzt, HSZ.out.2.1]; have := HTS.out; omega)]
          obtain ⟨j2, hap5, hrec2, _, hws3⟩ := rec_append HRE.out (rec := zeros T) (by rw [hzt0]; omega) (by rw [HSZ.out.2.2, ← HSZ.out.1, hzt0]; have := HTS.out; omega)
          have he2 : j2.end_ = 1048576 := by
            have := hrec2.log.end_
            rw [sizeF_push, HSZ.out.2.2, hzt0] at this
            have h1 := HSZ.out.1
            have h2 := HTS.out
            omega
          have hap6 : appendJ j2 [] = (4, j2) := by rw [appendJ, if_neg (by simp), if_pos (by rw [he2]; simp)]
          have hls2 : ∀ W F g vA vB vP q, LNet F W g vA vB vP q j2 → Calls Tryd.prog 21 #[.pointer (some ⟨g, 0, none⟩)] W fun e w' => e = .returned (.int .i64 1048576) ∧ W = w' := fun W F g vA vB vP q h => by
            have := lsize_any h
            rwa [he2] at this
          have HLS2 := hid hls2
          have HR2 := hid hrec2
          have HE2 := hid he2
          have happ := append_any W8 F6 _ g vA vB vP6 q6 j (some ⟨w6.heap.size, 0, none⟩) T1 T1 (zeros T1) hJ8.net hbt hzt.symm (hT.keep (hJ8.old.old (fun _ => True)) trivial) (by omega)
          rw [hap4] at happ
          have HBT := hid hbt
          have HZ := hid (And.intro hzt hzt0)
          have HVB8 := hid hVB8
          have HRow8 := hid hRow8
          clear hap4 hls2 hrec2 he2 hbt hzt hzt0 hVB8 hRow8 kx hb8 k8 hJ6
          have i3 : T ≤ T1 := by have := HTS.out; omega
          have i4 : (0 : Int) ≤ (T : Int) := by omega
          go_upto_region 20 with fail
          rw [← hW8]
          clear hW8 hmkt b5
          go_wp2_with fail
          refine happ.mono ?_
          rintro e w9 ⟨rfl, F9, vP9, q9, hL9, hF9, k9⟩
          clear happ
          have hJ9 := hJ8.step hL9 hF9 k9
          clear hL9 hF9 k9 hJ8
          have hbt9 := (HBT.out.keep (hJ9.keep.mono fun k _ e => .inr e)).take (n := T) (by rw [HZ.out.1]; exact i3)
          rw [take_zeros i3] at hbt9
          have happ := append_any w9 F9 _ g vA vB vP9 q9 j (some ⟨w6.heap.size, 0, none⟩) T T1 (zeros T) hJ9.net hbt9 HZ.out.2.symm (hT.keep (hJ9.old.old (fun _ => True)) trivial) (by omega)
          rw [hap5] at happ
          clear hap5 hbt9
          go_wp2_with fail
          refine happ.mono ?_
          rintro e w10 ⟨rfl, F10, vP10, q10, hL10, hF10, k10⟩
          clear happ
          have hJ10 := hJ9.step hL10 hF10 k10
          clear hL10 hF10 k10 hJ9
          have happ := append_any w10 F10 (fun _ => False) g vA vB vP10 q10 j2 none 0 0 [] hJ10.net (Bts.nil _ _ _) rfl (hT.keep (hJ10.old.old (fun _ => True)) trivial) (by omega)
          rw [hap6] at happ
          clear hap6
          go_wp2_with fail
          refine happ.mono ?_
          rintro e w11 ⟨rfl, F11, vP11, q11, hL11, hF11, k11⟩
          clear happ
          have hJ11 := hJ10.step hL11 hF11 k11
          clear hL11 hF11 k11 hJ10
          go_wp2_with fail
          refine (HLS2.out w11 F11 g vA vB vP11 q11 hJ11.net).mono ?_
          rintro e w3 ⟨rfl, rfl⟩
          have z11 := hJ11.keep.size
          have hgL6 : gL < w6.heap.size := by have := HRW.out.lt; have := hJ0z; omega
          have hRow11 := HRow8.out.keep hJ11.keep (.inl (.inl rfl))
          have hVB11 : ∀ x ∈ ql, VB (fun k => k = w2.heap.size ∨ k = w6.heap.size) w11 x.2 x.1 := fun x hx => (HVB8.out x hx).keep (hJ11.keep.mono fun k _ e => by
            rcases e with e | e
            · exact .inl (.inr e)
            · exact .inr e)
          have hbt11 := HBT.out.keep (hJ11.keep.mono fun k _ e => .inr e)
          obtain ⟨W12, hW12⟩ : ∃ W, W = w11.alloc (.cells #[.slice (some ⟨w6.heap.size, 0, none⟩) T1 T1] 22) := ⟨_, rfl⟩
          have k12 : Old w11 W12 := by rw [hW12]; exact (Keeps.refl _ _).alloc _
          have hb12 : W12.heap[w11.heap.size]? = some (.cells #[.slice (some ⟨w6.heap.size, 0, none⟩) T1 T1] 22 (0, 0)) := by rw [hW12]; exact heap_alloc_new _ _
          have hJ12 := hJ11.more k12
          have hRow12 := hRow11.keep k12 trivial
          have hVB12 : ∀ x ∈ ql, VB (fun k => k = w2.heap.size ∨ k = w6.heap.size) W12 x.2 x.1 := fun x hx => (hVB11 x hx).keep (k12.old _)
          have hbt12 := hbt11.keep (k12.old _)
          have hNb : ∀ k, (k = w2.heap.size ∨ k = w6.heap.size) → k ≠ gL := fun k hk => by
            rcases hk with rfl | rfl
            · exact HGB.out
            · omega
          have HNB := hid hNb
          clear hJ11 hRow11 hVB11 hbt11 hNb
          have hqlm : ql.length ≤ (ql.map (·.2)).length := by simp
          go_wp2_with (at_builtin; rw [← hW12]; refine wpList_app1 _ (by rfl) _ _ 35 22 (by rfl) Tryd.underlying35 info22 (by rfl) (by rfl) hRow12 hqlm ⟨w11.heap.size, 0, none⟩ 1 1 [.slice (some ⟨w6.heap.size, 0, none⟩) T1 T1] (by rfl) (by rfl) (World.news_of_block hb12) (one_one rfl) (by omega) (by omega) (by unfold maxLen; omega) ?_; intro v13 w13 hap13; rw [show ql.length = (ql.map (·.2)).length by simp] at hap13; obtain ⟨g13, c13, hv13, hc13, hn13, hRv13, hRL13, kk13, hg13, hz13⟩ := hap13.two hRow12 HCM.out; rw [List.length_map] at hv13 hn13; subst hv13)
          clear hW12 hb12
          have hVB13 : ∀ x ∈ ql ++ [(zeros T1, Value.slice (some ⟨w6.heap.size, 0, none⟩) T1 T1)], VB (fun k => ((k = w2.heap.size ∨ k = w6.heap.size) ∨ k = gL) ∨ k = g13) w13 x.2 x.1 := fun x hx => by
            have hm : VB (fun k => k = w2.heap.size ∨ k = w6.heap.size) W12 x.2 x.1 := by
              rcases List.mem_append.1 hx with hx | hx
              · exact hVB12 x hx
              · obtain rfl : x = _ := by simpa using hx
                exact ⟨some ⟨w6.heap.size, 0, none⟩, T1, by rw [HZ.out.1], by rw [HZ.out.1]; exact Nat.le_refl _, hbt12.mono' fun k e => .inr e⟩
            exact (hm.keep (kk13.mono fun k _ hk => HNB.out k hk)).mono fun k _ hk => .inl (.inl hk)
          have hJ13 : JSt wc (fun k => ((k = w2.heap.size ∨ k = w6.heap.size) ∨ k = gL) ∨ k = g13) w13 w13 F11 g vA vB vP11 q11 j2 := hJ12.rebase kk13 (.inl (.inl rfl)) HGL.out fun k hk => by
            rcases hk with ((h | h) | h) | h
            · exact .inl (.inl (.inr h))
            · exact .inl (.inr h)
            · exact .inl (.inl (.inl h))
            · rcases hg13 with e | e
              · rw [h, e]; exact .inl (.inl (.inl rfl))
              · right; rw [h, e]; exact ⟨Nat.le_refl _, by rw [← e]; exact hRv13.lt⟩
          have hRc13 := rcs_of_row (q := ql ++ [(zeros T1, Value.slice (some ⟨w6.heap.size, 0, none⟩) T1 T1)]) (S := fun k => ((k = w2.heap.size ∨ k = w6.heap.size) ∨ k = gL) ∨ k = g13) (by rw [List.map_append]; exact hRv13) hVB13 (.inr rfl) (by simp; omega)
          have hrm : (ql ++ [(zeros T1, Value.slice (some ⟨w6.heap.size, 0, none⟩) T1 T1)]).map (·.1) = List.replicate ql.length (zeros N) ++ [zeros T1] := by rw [List.map_append, HQL.out]; rfl
          rw [hrm] at hRc13
          have hbt13 := hbt12.keep (kk13.mono fun k _ hk => HNB.out k (.inr hk))
          have hrw1 : rewriteJ j2 (List.replicate ql.length (zeros N) ++ [zeros T1]) = (4, j2) := by
            rw [rewriteJ, if_neg, if_pos]
            · rw [sizeF_push, HSZ.out.2.2, HZ.out.1]
              have h1 := HSZ.out.1
              have h2 := HTS.out
              omega
            · rintro ⟨r, hr, hl⟩
              rcases List.mem_append.1 hr with hr | hr
              · rw [List.eq_of_mem_replicate hr, hzl] at hl; omega
              · obtain rfl : r = zeros T1 := by simpa using hr
                rw [HZ.out.1] at hl
                have := HTS.out
                omega
          have hws4 : j2.ws.length ≤ 2000 := by omega
          have hre := rewrite_any w13 F11 _ g vA vB vP11 q11 j2 (some ⟨g13, 0, none⟩) (ql.length + 1) c13 _ hJ13.net hRc13 (fun k hk => (hJ13.away k hk).2) (by simp) (hT.keep (hJ13.old.old (fun _ => True)) trivial) (by omega)
          rw [hrw1] at hre
          have hVBq : ∀ x ∈ ql, VB (fun k => k = w2.heap.size ∨ k = w6.heap.size) w13 x.2 x.1 := fun x hx => (hVB12 x hx).keep (kk13.mono fun k _ hk => HNB.out k hk)
          have HVQ := hid hVBq
          clear hrw1 hrm hRc13 hVB13 hRv13 hap13 hbt12 hVB12 hRow12 hJ12 k12 hws3 hVBq
          go_wp2_with fail
          refine hre.mono ?_
          rintro e w14 ⟨rfl, F14, vP14, q14, hL14, hF14, k14⟩
          clear hre
          have hJ14 := hJ13.step hL14 hF14 k14
          clear hL14 hF14 k14 hJ13
          -- the one that fits
          obtain ⟨W15, hW15⟩ : ∃ W, W = w14.alloc (.cells #[.slice (some ⟨w6.heap.size, 0, none⟩) T T1] 22) := ⟨_, rfl⟩
          have k15 : Old w14 W15 := by rw [hW15]; exact (Keeps.refl _ _).alloc _
          have hb15 : W15.heap[w14.heap.size]? = some (.cells #[.slice (some ⟨w6.heap.size, 0, none⟩) T T1] 22 (0, 0)) := by rw [hW15]; exact heap_alloc_new _ _
          have hJ15 := hJ14.more k15
          have hRow15 := hRL13.keep hJ15.keep (.inl (.inr rfl))
          have hVB15 : ∀ x ∈ ql, VB (fun k => k = w2.heap.size ∨ k = w6.heap.size) W15 x.2 x.1 := fun x hx => (HVQ.out x hx).keep (hJ15.keep.mono fun k _ e => .inl (.inl e))
          have hbt15 := hbt13.keep (hJ15.keep.mono fun k _ e => .inl (.inl (.inr e)))
          clear hJ14 hbt13
          go_wp2_with (at_builtin; rw [← hW15]; refine wpList_app1_g _ (by first | rfl | kernel_rfl) _ _ 35 22 (by rfl) Tryd.underlying35 info22 (by rfl) (by rfl) hRow15 hqlm ⟨w14.heap.size, 0, none⟩ 1 1 [.slice (some ⟨w6.heap.size, 0, none⟩) T T1] (by rfl) (by rfl) (World.news_of_block hb15) (one_one rfl) (by omega) (by omega) (by unfold maxLen; omega) ?_; intro v16 w16 hap16; rw [show ql.length = (ql.map (·.2)).length by simp] at hap16; obtain ⟨g16, c16, hv16, hc16, hn16, hRv16, hRL16, kk16, hg16, hz16⟩ := hap16.two hRow15 HCM.out; rw [List.length_map] at hv16 hn16; subst hv16)
          clear hW15 hb15
          have hVB16 : ∀ x ∈ ql ++ [(zeros T, Value.slice (some ⟨w6.heap.size, 0, none⟩) T T1)], VB (fun k => ((k = w2.heap.size ∨ k = w6.heap.size) ∨ k = gL) ∨ k = g16) w16 x.2 x.1 := fun x hx => by
            have hm : VB (fun k => k = w2.heap.size ∨ k = w6.heap.size) W15 x.2 x.1 := by
              rcases List.mem_append.1 hx with hx | hx
              · exact hVB15 x hx
              · obtain rfl : x = _ := by simpa using hx
                have h1 := hbt15.take (n := T) (by rw [HZ.out.1]; exact i3)
                rw [take_zeros i3] at h1
                exact ⟨some ⟨w6.heap.size, 0, none⟩, T1, by rw [HZ.out.2], by rw [HZ.out.2]; exact i3, h1.mono' fun k e => .inr e⟩
            exact (hm.keep (kk16.mono fun k _ hk => HNB.out k hk)).mono fun k _ hk => .inl (.inl hk)
          have hJ16 : JSt wc (fun k => ((k = w2.heap.size ∨ k = w6.heap.size) ∨ k = gL) ∨ k = g16) w16 w16 F14 g vA vB vP14 q14 j2 := hJ15.rebase kk16 (.inl (.inr rfl)) HGL.out fun k hk => by
            rcases hk with h | h
            · exact .inl (.inl h)
            · rcases hg16 with e | e
              · rw [h, e]; exact .inl (.inl (.inr rfl))
              · right; rw [h, e]; exact ⟨Nat.le_refl _, by rw [← e]; exact hRv16.lt⟩
          have hRc16 := rcs_of_row (q := ql ++ [(zeros T, Value.slice (some ⟨w6.heap.size, 0, none⟩) T T1)]) (S := fun k => ((k = w2.heap.size ∨ k = w6.heap.size) ∨ k = gL) ∨ k = g16) (by rw [List.map_append]; exact hRv16) hVB16 (.inr rfl) (by simp; omega)
          obtain ⟨rs, hrs⟩ : ∃ rs, rs = List.replicate ql.length (zeros N) ++ [zeros T] := ⟨_, rfl⟩
          have hrm : (ql ++ [(zeros T, Value.slice (some ⟨w6.heap.size, 0, none⟩) T T1)]).map (·.1) = rs := by rw [List.map_append, HQL.out, hrs]; rfl
          rw [hrm] at hRc16
          have hrsl : rs.length = ql.length + 1 := by rw [hrs]; simp
          have hrsz : 16 + sizeF rs = 1048576 := by
            rw [hrs, sizeF_push, HSZ.out.2.2, HZ.out.2]
            have h1 := HSZ.out.1
            have h2 := HTS.out
            omega
          have hrsm : ∀ r ∈ rs, r.length ≤ 65536 := fun r hr => by
            rw [hrs] at hr
            rcases List.mem_append.1 hr with hr | hr
            · rw [List.eq_of_mem_replicate hr, hzl]; omega
            · obtain rfl : r = zeros T := by simpa using hr
              rw [HZ.out.2]; omega
          obtain ⟨j3, hrw2, hrec3, _, hws5⟩ := rec_rewrite HR2.out hrsm (by omega)
          have he3 : j3.end_ = 1048576 := by rw [hrec3.log.end_, hrsz]
          have hre := rewrite_any w16 F14 _ g vA vB vP14 q14 j2 (some ⟨g16, 0, none⟩) (ql.length + 1) c16 rs hJ16.net hRc16 (fun k hk => (hJ16.away k hk).2) hrsl.symm (hT.keep (hJ16.old.old (fun _ => True)) trivial) (by omega)
          rw [hrw2] at hre
          have HR3 := hid hrec3
          have HE3 := hid he3
          have HRSL := hid hrsl
          clear hrw2 hrm hRc16 hVB16 hRv16 hap16 hbt15 hVB15 hRow15 hJ15 k15 hrs hrsl hrsz hrsm hrec3 he3 hRL16 kk16 hg16 hRL13 kk13 hg13
          go_wp2_with fail
          refine hre.mono ?_
          rintro e w17 ⟨rfl, F17, vP17, q17, hL17, hF17, k17⟩
          clear hre
          have hJ17 := hJ16.step hL17 hF17 k17
          clear hL17 hF17 k17 hJ16
          have hsy := lsync_any w17 F17 g vA vB vP17 q17 j3 hJ17.net (by omega)
          go_wp2_with fail
          refine hsy.mono ?_
          rintro e w18 ⟨rfl, F18, vA18, vB18, hL18, hF18, k18⟩
          clear hsy
          have hJ18 := hJ17.step hL18 hF18 k18
          clear hL18 hF18 k18 hJ17
          have hcr := lcrash_any w18 F18 g vA18 vB18 _ [] (syncJ j3) 0 hJ18.net (by omega) (by omega) (by simp [syncJ]) (crashJ_len hJ18.net.good 0)
          have hop : openJ ((syncJ j3).dA, (syncJ j3).dB) = some (⟨(syncJ j3).dA, (syncJ j3).dB, [], j3.cur, j3.gen, rs.length, 16 + sizeF rs⟩, rs) := open_cur HR3.out.log.cur
          have hcs : crashJ (syncJ j3) 0 = ((syncJ j3).dA, (syncJ j3).dB) := rfl
          rw [hcs] at hcr
          clear hcs
          go_wp2_with fail
          refine hcr.mono ?_
          rintro e w19 ⟨vX, vY, rfl, hX, hY, _, k19⟩
          clear hcr
          simp only at hX hY
          obtain ⟨AX, cX, hvX, hcX, _⟩ := hX.slice
          obtain ⟨AY, cY, hvY, hcY, _⟩ := hY.slice
          subst hvX hvY
          have hJ19 := hJ18.more k19
          have ho := lopen_any w19 (fun _ => True) AX AY _ _ cX cY _ _ (hX.bts.mono' fun _ _ => trivial) (hY.bts.mono' fun _ _ => trivial) rfl rfl hcX hcY (hT.keep (hJ19.old.old (fun _ => True)) trivial)
          rw [hop] at ho
          have hls3 := fun W F g vA vB vP q (h : LNet F W g vA vB vP q (syncJ j3)) => (show Calls Tryd.prog 21 #[.pointer (some ⟨g, 0, none⟩)] W fun e w' => e = .returned (.int .i64 1048576) ∧ W = w' from by
            have := lsize_any h
            rwa [show (syncJ j3).end_ = 1048576 from HE3.out] at this)
          have HLS3 := hid hls3
          clear hls3 hop hX hY hJ18 k19
          generalize (syncJ j3).dA = xs at *
          generalize (syncJ j3).dB = ys at *
          go_wp2_with fail
          refine ho.mono ?_
          rintro e w20 ⟨F20, g20, a20, b20, p20, q20, L20, ql20, rfl, hL20, hF20, hq20, hO20, k20⟩
          clear ho hL20 hF20
          have hJ20 := hJ19.more k20
          have hqn : ql20.length = ql.length + 1 := by rw [← HRSL.out, ← hq20]; simp
          obtain ⟨A20, c20, hv20, _, _⟩ := own_slice hO20.row
          subst hv20
          rw [hqn]
          clear hq20 hO20 hqn hJ19
          have hlf := HLS3.out w20 F18 g vA18 vB18 _ _ hJ20.net
          have b6 : IntKind.i64.wrap ((ql.length : Int) + 1) = (ql.length : Int) + 1 := by rw [IntKind.wrap_i64]; omega
          go_wp2_with fail
          refine hlf.mono ?_
          rintro e w21 ⟨rfl, rfl⟩
          go_wp2
          go_ret
          exact ⟨rfl, hJ20.old⟩
        · have b4 : IntKind.i64.wrap (1048576 - (sz : Int) - 12) = 1048576 - (sz : Int) - 12 := by rw [IntKind.wrap_i64]; omega
          have i2 : 1048576 - (sz : Int) - 12 < 0 := by omega
          have hap3 : appendJ j [] = (4, j) := by rw [appendJ, if_neg (by simp), if_pos (by rw [HSZ.out.2.1]; simp; omega)]
          have happ := append_any w6 F6 (fun _ => False) g vA vB vP6 q6 j none 0 0 [] hJ6.net (Bts.nil _ _ _) rfl (hT.keep (hJ6.old.old (fun _ => True)) trivial) (by omega)
          rw [hap3] at happ
          clear hap3
          go_wp2_with fail
          refine happ.mono ?_
          rintro e w7 ⟨rfl, F7, vP7, q7, hL7, hF7, k7⟩
          have hJ7 := hJ6.step hL7 hF7 k7
          clear happ hL7 hF7 k7
          go_wp2
          go_ret
          exact ⟨rfl, hJ7.old⟩
  · go_upto_region 3 with fail
    obtain ⟨N, hN⟩ : ∃ N : Nat, N = 65536 := ⟨_, rfl⟩
    rw [show (65536 : Int) = ((N : Nat) : Int) by rw [hN]; rfl]
    have hN1 : 3000 ≤ N := by omega
    have hN2 : N ≤ 65536 := by omega
    clear hN
    obtain ⟨i5, hi, hz0, hz1, hz2⟩ := info_parts info5
    have hmk := fun (N : Nat) (hN : N ≤ 1000000) w => run_make (P := Tryd.prog) w 22 5 i5 (.int .u8 0) Tryd.underlying22 hi hz0 .i64 .i64 (N : Int) (N : Int) (by omega) (by omega) (by rw [hz2]; omega) (by omega)
    simp only [hz1, Nat.mul_one, Int.toNat_natCast, show (Value.int .u8 0).cells = #[.int .u8 0] from rfl] at hmk
    have HMK := hid hmk
    clear hmk hi hz0 hz1 hz2
    go_wp2_with fail
    refine (first_any wc hT).mono ?_
    rintro e w1 ⟨rfl, k1⟩
    have hT1 := hT.keep (k1.old (fun _ => True)) trivial
    have z1 := k1.size
    go_wp2_with fail
    refine (begun_any w1 hT1 exJ0 ex_open).mono ?_
    rintro e w2 ⟨F0, g, tt, vA0, vB0, vP0, q0, rfl, hL0, hF0, k2⟩
    have z2 := k2.size
    have K2 := k1.trans' k2
    obtain ⟨W3, hW3⟩ : ∃ W, W = w2.alloc (.cells (madeCells #[.int .u8 0] N) 5) := ⟨_, rfl⟩
    have k3 : Old w2 W3 := by rw [hW3]; exact (Keeps.refl _ _).alloc _
    have hb3 : W3.heap[w2.heap.size]? = some (.cells ((zeros N).map bv).toArray 5 (0, 0)) := by rw [hW3]; exact made_row
    have hmk := HMK.out N (by omega) w2
    have hLt := hL0.lt
    have HS := hid (show InFill wc w2.heap.size N g 0 (.slice none 0 0) W3 from ⟨exJ0, F0, vA0, vB0, vP0, q0, [], [], [], hL0.keep (k3.old _), rec_ex, OwnL.nil _ _ _, by simp, fun h => by have := hLt _ h; omega, fun k h => by have := hF0 k h; omega, hb3, K2.trans' k3, by simp [exJ0]⟩)
    clear hL0 hF0 hLt hb3 k3
    go_upto_region 7 with fail
    rw [← hW3]
    clear hW3 hmk
    go_wp2
    have hzl : (zeros N).length = N := by simp
    obtain ⟨M, hM⟩ : ∃ M, M = 12 + N := ⟨_, rfl⟩
    have HM := hid hM
    have hM1 : 3012 ≤ M := by omega
    have hM2 : M ≤ 65548 := by omega
    clear hM
    go_loopw [6] (fun L wr => ∃ k : Nat, (∃ A c, L = .slice A k c) ∧ 16 + k * M ≤ 1048576 ∧ Hid (InFill wc w2.heap.size N g k L wr)) (fun L _ => 400 - sliceLen L)
    case atStart => exact ⟨0, ⟨none, 0, rfl⟩, by omega, HS⟩
    case round =>
      clear HS
      obtain ⟨k, ⟨AL, cL, rfl⟩, hkM, hin⟩ := hrel
      obtain ⟨j, F, vA, vB, vP, q, R0, rest, ql, hL, hrec, hOL, hql, hFb, hFw, hb, hold, hws⟩ := hin.out
      clear hin
      have hk4 : k ≤ 348 := by
        have := Nat.mul_le_mul_left k hM1
        omega
      have hend := hrec.log.end_
      rw [sizeF_replicate, hzl, ← HM.out] at hend
      obtain ⟨sz, hsz⟩ : ∃ sz, sz = 16 + k * M := ⟨_, rfl⟩
      rw [← hsz] at hend hkM
      have hls := lsize_any hL
      rw [hend] at hls
      have b1 : IntKind.i64.wrap ((sz : Int) + 12) = (sz : Int) + 12 := by rw [IntKind.wrap_i64]; omega
      have b2 : IntKind.i64.wrap ((sz : Int) + 12 + (N : Int)) = (sz : Int) + 12 + (N : Int) := by rw [IntKind.wrap_i64]; omega
      have hr := Bts.of_block hb (by simp; omega)
      have hso := hold.size
      by_cases hfit : sz + 12 + N ≤ 1048576
      · have i1 : (sz : Int) + 12 + (N : Int) ≤ 1048576 := by omega
        have hsz2 : 16 + (k + 1) * M = sz + 12 + N := by rw [Nat.add_mul, Nat.one_mul]; have := HM.out; omega
        obtain ⟨j', hap, hrec', _, hws'⟩ := rec_append hrec (rec := zeros N) (by rw [hzl]; omega) (by rw [sizeF_replicate, hzl, ← HM.out]; omega)
        have happ := append_any wr F _ g vA vB vP q j _ N N (zeros N) hL hr hzl.symm (hT.keep (hold.old (fun _ => True)) trivial) (by omega)
        rw [hap] at happ
        have hrs : List.replicate k (zeros N) ++ [zeros N] = List.replicate (k + 1) (zeros N) := by rw [List.replicate_succ']
        rw [hrs] at hrec'
        have HRS := hid hrs
        have HSZ2 := hid hsz2
        have HR := hid hrec'
        have hqk : ql.length = k := by
          have := congrArg List.length hql
          simpa using this
        subst hqk
        have HQ := hid hql
        clear hsz2 hrs hrec' hrec hap hend hsz hql
        generalize hzz : zeros N = rc at *
        go_wp2_with fail
        refine hls.mono ?_
        rintro e w3 ⟨rfl, rfl⟩
        clear hls
        go_wp2_with fail
        refine happ.mono ?_
        rintro e w4 ⟨rfl, F4, vP4, q4, hL4, hF4, k4⟩
        clear happ
        simp only at hL4
        have z4 := k4.size
        have hb4 := k4.heap hb hFb
        have hOL4 := hOL.keep (k4.mono fun k' _ h hf => by
          rcases h with h | rfl
          · exact h.2 hf
          · exact hFb hf)
        obtain ⟨W5, hW5⟩ : ∃ W, W = w4.alloc (.cells #[.slice (some ⟨w2.heap.size, 0, none⟩) N N] 22) := ⟨_, rfl⟩
        have k5 : Old w4 W5 := by rw [hW5]; exact (Keeps.refl _ _).alloc _
        have hbb : W5.heap[w4.heap.size]? = some (.cells #[.slice (some ⟨w2.heap.size, 0, none⟩) N N] 22 (0, 0)) := by rw [hW5]; exact heap_alloc_new _ _
        have hO5 := hOL4.keep (k5.old _)
        have hb5 := k5.heap hb4 trivial
        have hrow5 := hO5.row
        have z5 := k5.size
        go_upto_region 12 with (at_builtin; rw [← hW5]; refine wpList_append_ex _ (by rfl) _ _ 35 22 (by rfl) Tryd.underlying35 info22 (by rfl) (by omega) (by rfl) hrow5 (some ⟨w4.heap.size, 0, none⟩) 1 1 [.slice (some ⟨w2.heap.size, 0, none⟩) N N] (by rfl) (by rfl) (fun _ => ⟨_, rfl, World.news_of_block hbb⟩) (one_one rfl) (by omega) (by unfold maxLen; omega) ?_; intro v6 w6 hown6 hgrow6 hat6)
        have K6 : Keeps (fun k' => (Value.slice AL ql.length cL).ownBlock ≠ some k') W5 w6 := (Keeps.refl _ W5).grown hgrow6 (fun k' _ h hn => hn h)
        have hO5' : OwnL (fun k => wc.heap.size ≤ k ∧ ¬ F4 k) (fun k => k = w2.heap.size) W5 (.slice AL ql.length cL) ql := ⟨hO5.row, hO5.vb, fun k' hk' => ⟨(hO5.foot k' hk').1, fun hf => by
          rcases hF4 k' hf with h | h
          · exact (hO5.foot k' hk').2 h
          · have := own_lt hOL.row hk'; omega⟩⟩
        have hbL : (Value.slice AL ql.length cL).ownBlock ≠ some w2.heap.size := own_ne_heap hO5.row hb5 (by decide)
        have hVB : VB (fun k => k = w2.heap.size) W5 (.slice (some ⟨w2.heap.size, 0, none⟩) N N) rc := ⟨some ⟨w2.heap.size, 0, none⟩, N, by rw [hzl], by omega, Bts.of_block hb5 (by omega)⟩
        have hL4l := hL4.lt
        have hO6 := OwnL.push (x := (rc, .slice (some ⟨w2.heap.size, 0, none⟩) N N)) hO5' K6 hVB (fun k' e => by rw [e]; exact hbL) hown6 (fun k' hk' => by
          rcases hat6 with e | e
          · rw [e] at hk'; exact hO5'.foot k' hk'
          · rw [e] at hk'; injection hk' with hk'
            exact ⟨by omega, fun hf => by have := hL4l k' hf; omega⟩)
        have hL6 : LNet F4 w6 g vA vB vP4 q4 j' := (hL4.keep (k5.old _)).keep (K6.mono fun k' _ hf e => (hO5'.foot k' e).2 hf)
        have hb6 := K6.heap hb5 hbL
        have hold6 : Old wc w6 := ((hold.trans k4 fun k' hk' _ hf => by have := hFw k' hf; omega).trans' k5).trans K6 fun k' hk' _ e => by have := (hO5'.foot k' e).1; omega
        have hz6 := K6.size
        obtain ⟨A6, c6, hv6, _, _⟩ := own_slice hown6
        have hend' : j'.end_ = sz + 12 + N := by
          have := HR.out.log.end_
          rw [sizeF_replicate, hzl, ← HM.out] at this
          rw [this, HSZ2.out]
        have hls6 := lsize_any hL6
        rw [hend'] at hls6
        have hq6 : (ql ++ [(rc, Value.slice (some ⟨w2.heap.size, 0, none⟩) N N)]).map (·.1) = List.replicate (ql.length + 1) rc := by rw [List.map_append, HQ.out]; exact HRS.out
        obtain ⟨A6', c6', hv6', hc6, hR6⟩ := hO6.rcs (by simp; omega)
        rw [hq6] at hR6
        rw [hv6] at hv6'
        injection hv6' with hA6 hnn6 hc6'
        clear hnn6
        subst hA6 hc6'
        have hsg := size_any w6 _ A6 c6 (List.replicate (ql.length + 1) rc) hR6 (fun r hr => by rw [List.eq_of_mem_replicate hr, hzl]; omega) (by simp; omega)
        rw [List.length_replicate, sizeF_replicate, hzl, ← HM.out, HSZ2.out] at hsg
        have hRR := hid (show InFill wc w2.heap.size N g (ql.length + 1) (.slice A6 (ql.length + 1) c6) w6 from ⟨j', F4, vA, vB, vP4, q4, _, _, _, hL6, by rw [hzz]; exact HR.out, by rw [← hv6]; exact hO6, by rw [hzz]; exact hq6, fun hf => by
          rcases hF4 _ hf with h | h
          · exact hFb h
          · have := lt_of_heap hb; omega, fun k' hf => by
          rcases hF4 k' hf with h | h
          · exact hFw k' h
          · omega, by rw [hzz]; exact hb6, hold6, by omega⟩)
        have hkm : 16 + (ql.length + 1) * M ≤ 1048576 := by rw [HSZ2.out]; exact hfit
        clear hO6 hL6 hb6 hold6 hO5' hO5 hOL4 hOL hbL hVB hL4l hR6 hq6 hown6 hgrow6 hat6 K6 hL4 k4 k5 hbb hb5 hb4 hb hrow5 hL hend' hF4 hr hFw hold
        subst hv6
        have HSG := hid hsg
        have HKM := hid hkm
        clear hzz hW5 hws' hws hc6 b1 b2 hsg hkm hfit i1 HQ HRS HR HSZ2
        generalize hkk : ql.length = kk at *
        have HKK := hid hkk
        clear hkk
        go_wp2_with fail
        refine hls6.mono ?_
        rintro e w7 ⟨rfl, rfl⟩
        clear hls6
        go_wp2_with fail
        with_reducible refine HSG.out.mono ?_
        rintro e w7 ⟨rfl, rfl⟩
        go_wp2
        exact ⟨⟨kk + 1, ⟨A6, c6, rfl⟩, HKM.out, hRR⟩, by show 400 - (kk + 1) < 400 - ql.length; have := HKK.out; omega⟩
      · have i1 : ¬ (sz : Int) + 12 + (N : Int) ≤ 1048576 := by omega
        have hqk : ql.length = k := by
          have := congrArg List.length hql
          simpa using this
        subst hqk
        have hk1 : 0 < ql.length := by
          apply Nat.pos_of_ne_zero
          intro e
          rw [e] at hsz
          have := HM.out
          omega
        obtain ⟨gL, cc, hvL, hncL, hcmL, _⟩ := own_cellN hOL.row hk1
        injection hvL with hAL hnnL hccL
        clear hnnL
        subst hAL hccL
        have hRow : Row1 wr 22 gL cL (ql.map (·.2)) := Row1.ofOwn hOL.row
        have hgL := hOL.foot gL rfl
        have hJ0 : JSt wc (fun k => k = gL ∨ k = w2.heap.size) wr wr F g vA vB vP q j := ⟨hL, hFw, fun k hk => by
          rcases hk with rfl | rfl
          · exact ⟨hRow.lt, hgL.2⟩
          · exact ⟨lt_of_heap hb, hFb⟩, Keeps.refl _ _, hold⟩
        have hVB := hOL.vb
        have hszN : sizeF (List.replicate ql.length (zeros N)) = ql.length * M := by rw [sizeF_replicate, hzl, ← HM.out]
        have hsg : ∀ W, Keeps (fun k => k = gL ∨ k = w2.heap.size) wr W → Calls Tryd.prog 27 #[.slice (some ⟨gL, 0, none⟩) ql.length cL] W fun e w' => e = .returned (.int .i64 (sz : Int)) ∧ W = w' := fun W hW => by
          have hr := rcs_of_row (S := fun k => k = gL ∨ k = w2.heap.size) (hRow.keep hW (.inl rfl)) (fun x hx => ((hVB x hx).mono fun k _ e => .inr e).keep hW) (.inl rfl) (by omega)
          have h := size_any W _ (some ⟨gL, 0, none⟩) cL (ql.map (·.1)) hr (fun r hr => by rw [hql] at hr; rw [List.eq_of_mem_replicate hr, hzl]; omega) (by simp; omega)
          rw [List.length_map, hql, hszN, ← hsz] at h
          exact h
        have hls : ∀ W F g vA vB vP q, LNet F W g vA vB vP q j → Calls Tryd.prog 21 #[.pointer (some ⟨g, 0, none⟩)] W fun e w' => e = .returned (.int .i64 (sz : Int)) ∧ W = w' := fun W F g vA vB vP q h => by
          have := lsize_any h
          rwa [hend] at this
        have hap1 : appendJ j (zeros N) = (4, j) := by rw [appendJ, if_neg (by rw [hzl]; omega), if_pos (by rw [hzl, hend]; omega)]
        obtain ⟨Q, hQ⟩ : ∃ Q : Nat, Q = 65537 := ⟨_, rfl⟩
        have hzq : (zeros Q).length = Q := by simp
        have hap2 : appendJ j (zeros Q) = (2, j) := by rw [appendJ, if_pos (by rw [hzq]; omega)]
        have hmkq := HMK.out Q (by omega)
        have e65 : ((Q : Nat) : Int) = 65537 := by rw [hQ]; rfl
        rw [e65] at hmkq
        have happ := append_any wr F _ g vA vB vP q j _ N N (zeros N) hL hr hzl.symm (hT.keep (hold.old (fun _ => True)) trivial) (by omega)
        rw [hap1] at happ
        have HCM := hid hcmL
        have HGL := hid hgL.1
        have HGB := hid (hRow.ne_heap hb (by decide))
        have HSG := hid hsg
        have HLS := hid hls
        have HRE := hid hrec
        have HVB := hid hVB
        have HQL := hid hql
        have HSZ := hid (And.intro hsz (And.intro hend hszN))
        have HQ2 := hid hQ
        have HB := hid hb
        have HRW := hid hRow
        have HN12 := hid hfit
        have hws2 : j.ws.length ≤ 1000 := by omega
        have HZQ := hid hzq
        clear hzq
        clear hsg hls hap1 hVB hql hrec hOL hszN hsz hend hQ e65 hcmL hncL hr hws hfit
        clear hRow hb
        have hlsr := HLS.out wr F g vA vB vP q hL
        clear hL hFw hold hgL hFb
        go_wp2_with fail
        refine hlsr.mono ?_
        rintro e w3 ⟨rfl, rfl⟩
        clear hlsr
        go_wp2_with fail
        refine happ.mono ?_
        rintro e w4 ⟨rfl, F4, vP4, q4, hL4, hF4, k4⟩
        clear happ
        have hJ4 := hJ0.step hL4 hF4 k4
        clear hJ0 hL4 hF4 k4
        go_wp2_with fail
        refine (HLS.out w4 F4 g vA vB vP4 q4 hJ4.net).mono ?_
        rintro e w3 ⟨rfl, rfl⟩
        go_wp2_with fail
        refine (HSG.out w4 hJ4.keep).mono ?_
        rintro e w3 ⟨rfl, rfl⟩
        go_wp2_with fail
        obtain ⟨W5, hW5⟩ : ∃ W, W = w4.alloc (.cells (madeCells #[.int .u8 0] Q) 5) := ⟨_, rfl⟩
        have k5 : Old w4 W5 := by rw [hW5]; exact (Keeps.refl _ _).alloc _
        have hb5 : W5.heap[w4.heap.size]? = some (.cells ((zeros Q).map bv).toArray 5 (0, 0)) := by rw [hW5]; exact made_row
        have hJ5 := hJ4.more k5
        have happ := append_any W5 F4 _ g vA vB vP4 q4 j (some ⟨w4.heap.size, 0, none⟩) Q Q (zeros Q) hJ5.net (Bts.of_block hb5 (by have := HZQ.out; have := HQ2.out; omega)) HZQ.out.symm (hT.keep (hJ5.old.old (fun _ => True)) trivial) (by omega)
        rw [hap2] at happ
        rw [← hW5]
        clear hW5 hb5 k5 hmkq hap2
        refine happ.mono ?_
        rintro e w6 ⟨rfl, F6, vP6, q6, hL6, hF6, k6⟩
        clear happ
        have hJ6 := hJ5.step hL6 hF6 k6
        clear hL6 hF6 k6 hJ5 hJ4
        go_wp2_with fail
        refine (HSG.out w6 hJ6.keep).mono ?_
        rintro e w3 ⟨rfl, rfl⟩
        have b3 : IntKind.i64.wrap (1048576 - (sz : Int)) = 1048576 - (sz : Int) := by rw [IntKind.wrap_i64]; omega
        by_cases hrest : sz + 12 ≤ 1048576
        · obtain ⟨T, hTs⟩ : ∃ T, T + (sz + 12) = 1048576 := ⟨1048576 - (sz + 12), by omega⟩
          have b4 : IntKind.i64.wrap (1048576 - (sz : Int) - 12) = (T : Int) := by rw [IntKind.wrap_i64]; omega
          obtain ⟨T1, hT1⟩ : ∃ T1, T1 = T + 1 := ⟨_, rfl⟩
          have b5 : IntKind.i64.wrap ((T : Int) + 1) = (T1 : Int) := by rw [IntKind.wrap_i64]; omega
          have hTl : T ≤ 65535 := by have := HN12.out; omega
          have hmkt := HMK.out T1 (by omega)
          have i2 : ¬ (T : Int) < 0 := by omega
          have HTS := hid (And.intro hTs hT1)
          clear hTs hT1
          obtain ⟨W8, hW8⟩ : ∃ W, W = w6.alloc (.cells (madeCells #[.int .u8 0] T1) 5) := ⟨_, rfl⟩
          have k8 : Old w6 W8 := by rw [hW8]; exact (Keeps.refl _ _).alloc _
          have hb8 : W8.heap[w6.heap.size]? = some (.cells ((zeros T1).map bv).toArray 5 (0, 0)) := by rw [hW8]; exact made_row
          have z8 : W8.heap.size = w6.heap.size + 1 := by rw [hW8]; simp
          have hJ8 : JSt wc (fun k => (k = gL ∨ k = w2.heap.size) ∨ k = w6.heap.size) W8 W8 F6 g vA vB vP6 q6 j := ⟨hJ6.net.keep (k8.old _), hJ6.new, fun k hk => by
            rcases hk with hk | rfl
            · exact (hJ6.away k hk).more k8.size
            · exact ⟨by omega, fun hf => by have := hJ6.net.lt _ hf; omega⟩, Keeps.refl _ _, hJ6.old.trans' k8⟩
          have kx := hJ6.keep.trans' (k8.old _)
          have hJ0z := hJ6.keep.size
          have hRow8 := HRW.out.keep kx (.inl rfl)
          have hVB8 : ∀ x ∈ ql, VB (fun k => k = w2.heap.size ∨ k = w6.heap.size) W8 x.2 x.1 := fun x hx => ((HVB.out x hx).keep (kx.mono fun k _ e => .inr e)).mono fun k _ e => .inl e
          have hzt : (zeros T1).length = T1 := by simp
          have hzt0 : (zeros T).length = T := by simp
          have hbt : Bts (fun k => k = w6.heap.size) W8 (some ⟨w6.heap.size, 0, none⟩) (zeros T1) := Bts.of_block hb8 (by have := HTS.out; omega)
          have hap4 : appendJ j (zeros T1) = (4, j) := by rw [appendJ, if_neg (by rw [hzt]; have := HTS.out; omega), if_pos (by rw [hzt, HSZ.out.2.1]; have := HTS.out; omega)]
          obtain ⟨j2, hap5, hrec2, _, hws3⟩ := rec_append HRE.out (rec := zeros T) (by rw [hzt0]; omega) (by rw [HSZ.out.2.2, ← HSZ.out.1, hzt0]; have := HTS.out; omega)
          have he2 : j2.end_ = 1048576 := by
            have := hrec2.log.end_
            rw [sizeF_push, HSZ.out.2.2, hzt0] at this
            have h1 := HSZ.out.1
            have h2 := HTS.out
            omega
          have hap6 : appendJ j2 [] = (4, j2) := by rw [appendJ, if_neg (by simp), if_pos (by rw [he2]; simp)]
          have hls2 : ∀ W F g vA vB vP q, LNet F W g vA vB vP q j2 → Calls Tryd.prog 21 #[.pointer (some ⟨g, 0, none⟩)] W fun e w' => e = .returned (.int .i64 1048576) ∧ W = w' := fun W F g vA vB vP q h => by
            have := lsize_any h
            rwa [he2] at this
          have HLS2 := hid hls2
          have HR2 := hid hrec2
          have HE2 := hid he2
          have happ := append_any W8 F6 _ g vA vB vP6 q6 j (some ⟨w6.heap.size, 0, none⟩) T1 T1 (zeros T1) hJ8.net hbt hzt.symm (hT.keep (hJ8.old.old (fun _ => True)) trivial) (by omega)
          rw [hap4] at happ
          have HBT := hid hbt
          have HZ := hid (And.intro hzt hzt0)
          have HVB8 := hid hVB8
          have HRow8 := hid hRow8
          clear hap4 hls2 hrec2 he2 hbt hzt hzt0 hVB8 hRow8 kx hb8 k8 hJ6
          have i3 : T ≤ T1 := by have := HTS.out; omega
          have i4 : (0 : Int) ≤ (T : Int) := by omega
          go_upto_region 20 with fail
          rw [← hW8]
          clear hW8 hmkt b5
          go_wp2_with fail
          refine happ.mono ?_
          rintro e w9 ⟨rfl, F9, vP9, q9, hL9, hF9, k9⟩
          clear happ
          have hJ9 := hJ8.step hL9 hF9 k9
          clear hL9 hF9 k9 hJ8
          have hbt9 := (HBT.out.keep (hJ9.keep.mono fun k _ e => .inr e)).take (n := T) (by rw [HZ.out.1]; exact i3)
          rw [take_zeros i3] at hbt9
          have happ := append_any w9 F9 _ g vA vB vP9 q9 j (some ⟨w6.heap.size, 0, none⟩) T T1 (zeros T) hJ9.net hbt9 HZ.out.2.symm (hT.keep (hJ9.old.old (fun _ => True)) trivial) (by omega)
          rw [hap5] at happ
          clear hap5 hbt9
          go_wp2_with fail
          refine happ.mono ?_
          rintro e w10 ⟨rfl, F10, vP10, q10, hL10, hF10, k10⟩
          clear happ
          have hJ10 := hJ9.step hL10 hF10 k10
          clear hL10 hF10 k10 hJ9
          have happ := append_any w10 F10 (fun _ => False) g vA vB vP10 q10 j2 none 0 0 [] hJ10.net (Bts.nil _ _ _) rfl (hT.keep (hJ10.old.old (fun _ => True)) trivial) (by omega)
          rw [hap6] at happ
          clear hap6
          go_wp2_with fail
          refine happ.mono ?_
          rintro e w11 ⟨rfl, F11, vP11, q11, hL11, hF11, k11⟩
          clear happ
          have hJ11 := hJ10.step hL11 hF11 k11
          clear hL11 hF11 k11 hJ10
          go_wp2_with fail
          refine (HLS2.out w11 F11 g vA vB vP11 q11 hJ11.net).mono ?_
          rintro e w3 ⟨rfl, rfl⟩
          have z11 := hJ11.keep.size
          have hgL6 : gL < w6.heap.size := by have := HRW.out.lt; have := hJ0z; omega
          have hRow11 := HRow8.out.keep hJ11.keep (.inl (.inl rfl))
          have hVB11 : ∀ x ∈ ql, VB (fun k => k = w2.heap.size ∨ k = w6.heap.size) w11 x.2 x.1 := fun x hx => (HVB8.out x hx).keep (hJ11.keep.mono fun k _ e => by
            rcases e with e | e
            · exact .inl (.inr e)
            · exact .inr e)
          have hbt11 := HBT.out.keep (hJ11.keep.mono fun k _ e => .inr e)
          obtain ⟨W12, hW12⟩ : ∃ W, W = w11.alloc (.cells #[.slice (some ⟨w6.heap.size, 0, none⟩) T1 T1] 22) := ⟨_, rfl⟩
          have k12 : Old w11 W12 := by rw [hW12]; exact (Keeps.refl _ _).alloc _
          have hb12 : W12.heap[w11.heap.size]? = some (.cells #[.slice (some ⟨w6.heap.size, 0, none⟩) T1 T1] 22 (0, 0)) := by rw [hW12]; exact heap_alloc_new _ _
          have hJ12 := hJ11.more k12
          have hRow12 := hRow11.keep k12 trivial
          have hVB12 : ∀ x ∈ ql, VB (fun k => k = w2.heap.size ∨ k = w6.heap.size) W12 x.2 x.1 := fun x hx => (hVB11 x hx).keep (k12.old _)
          have hbt12 := hbt11.keep (k12.old _)
          have hNb : ∀ k, (k = w2.heap.size ∨ k = w6.heap.size) → k ≠ gL := fun k hk => by
            rcases hk with rfl | rfl
            · exact HGB.out
            · omega
          have HNB := hid hNb
          clear hJ11 hRow11 hVB11 hbt11 hNb
          have hqlm : ql.length ≤ (ql.map (·.2)).length := by simp
          go_wp2_with (at_builtin; rw [← hW12]; refine wpList_app1 _ (by rfl) _ _ 35 22 (by rfl) Tryd.underlying35 info22 (by rfl) (by rfl) hRow12 hqlm ⟨w11.heap.size, 0, none⟩ 1 1 [.slice (some ⟨w6.heap.size, 0, none⟩) T1 T1] (by rfl) (by rfl) (World.news_of_block hb12) (one_one rfl) (by omega) (by omega) (by unfold maxLen; omega) ?_; intro v13 w13 hap13; rw [show ql.length = (ql.map (·.2)).length by simp] at hap13; obtain ⟨g13, c13, hv13, hc13, hn13, hRv13, hRL13, kk13, hg13, hz13⟩ := hap13.two hRow12 HCM.out; rw [List.length_map] at hv13 hn13; subst hv13)
          clear hW12 hb12
          have hVB13 : ∀ x ∈ ql ++ [(zeros T1, Value.slice (some ⟨w6.heap.size, 0, none⟩) T1 T1)], VB (fun k => ((k = w2.heap.size ∨ k = w6.heap.size) ∨ k = gL) ∨ k = g13) w13 x.2 x.1 := fun x hx => by
            have hm : VB (fun k => k = w2.heap.size ∨ k = w6.heap.size) W12 x.2 x.1 := by
              rcases List.mem_append.1 hx with hx | hx
              · exact hVB12 x hx
              · obtain rfl : x = _ := by simpa using hx
                exact ⟨some ⟨w6.heap.size, 0, none⟩, T1, by rw [HZ.out.1], by rw [HZ.out.1]; exact Nat.le_refl _, hbt12.mono' fun k e => .inr e⟩
            exact (hm.keep (kk13.mono fun k _ hk => HNB.out k hk)).mono fun k _ hk => .inl (.inl hk)
          have hJ13 : JSt wc (fun k => ((k = w2.heap.size ∨ k = w6.heap.size) ∨ k = gL) ∨ k = g13) w13 w13 F11 g vA vB vP11 q11 j2 := hJ12.rebase kk13 (.inl (.inl rfl)) HGL.out fun k hk => by
            rcases hk with ((h | h) | h) | h
            · exact .inl (.inl (.inr h))
            · exact .inl (.inr h)
            · exact .inl (.inl (.inl h))
            · rcases hg13 with e | e
              · rw [h, e]; exact .inl (.inl (.inl rfl))
              · right; rw [h, e]; exact ⟨Nat.le_refl _, by rw [← e]; exact hRv13.lt⟩
          have hRc13 := rcs_of_row (q := ql ++ [(zeros T1, Value.slice (some ⟨w6.heap.size, 0, none⟩) T1 T1)]) (S := fun k => ((k = w2.heap.size ∨ k = w6.heap.size) ∨ k = gL) ∨ k = g13) (by rw [List.map_append]; exact hRv13) hVB13 (.inr rfl) (by simp; omega)
          have hrm : (ql ++ [(zeros T1, Value.slice (some ⟨w6.heap.size, 0, none⟩) T1 T1)]).map (·.1) = List.replicate ql.length (zeros N) ++ [zeros T1] := by rw [List.map_append, HQL.out]; rfl
          rw [hrm] at hRc13
          have hbt13 := hbt12.keep (kk13.mono fun k _ hk => HNB.out k (.inr hk))
          have hrw1 : rewriteJ j2 (List.replicate ql.length (zeros N) ++ [zeros T1]) = (4, j2) := by
            rw [rewriteJ, if_neg, if_pos]
            · rw [sizeF_push, HSZ.out.2.2, HZ.out.1]
              have h1 := HSZ.out.1
              have h2 := HTS.out
              omega
            · rintro ⟨r, hr, hl⟩
              rcases List.mem_append.1 hr with hr | hr
              · rw [List.eq_of_mem_replicate hr, hzl] at hl; omega
              · obtain rfl : r = zeros T1 := by simpa using hr
                rw [HZ.out.1] at hl
                have := HTS.out
                omega
          have hws4 : j2.ws.length ≤ 2000 := by omega
          have hre := rewrite_any w13 F11 _ g vA vB vP11 q11 j2 (some ⟨g13, 0, none⟩) (ql.length + 1) c13 _ hJ13.net hRc13 (fun k hk => (hJ13.away k hk).2) (by simp) (hT.keep (hJ13.old.old (fun _ => True)) trivial) (by omega)
          rw [hrw1] at hre
          have hVBq : ∀ x ∈ ql, VB (fun k => k = w2.heap.size ∨ k = w6.heap.size) w13 x.2 x.1 := fun x hx => (hVB12 x hx).keep (kk13.mono fun k _ hk => HNB.out k hk)
          have HVQ := hid hVBq
          clear hrw1 hrm hRc13 hVB13 hRv13 hap13 hbt12 hVB12 hRow12 hJ12 k12 hws3 hVBq
          go_wp2_with fail
          refine hre.mono ?_
          rintro e w14 ⟨rfl, F14, vP14, q14, hL14, hF14, k14⟩
          clear hre
          have hJ14 := hJ13.step hL14 hF14 k14
          clear hL14 hF14 k14 hJ13
          -- the one that fits
          obtain ⟨W15, hW15⟩ : ∃ W, W = w14.alloc (.cells #[.slice (some ⟨w6.heap.size, 0, none⟩) T T1] 22) := ⟨_, rfl⟩
          have k15 : Old w14 W15 := by rw [hW15]; exact (Keeps.refl _ _).alloc _
          have hb15 : W15.heap[w14.heap.size]? = some (.cells #[.slice (some ⟨w6.heap.size, 0, none⟩) T T1] 22 (0, 0)) := by rw [hW15]; exact heap_alloc_new _ _
          have hJ15 := hJ14.more k15
          have hRow15 := hRL13.keep hJ15.keep (.inl (.inr rfl))
          have hVB15 : ∀ x ∈ ql, VB (fun k => k = w2.heap.size ∨ k = w6.heap.size) W15 x.2 x.1 := fun x hx => (HVQ.out x hx).keep (hJ15.keep.mono fun k _ e => .inl (.inl e))
          have hbt15 := hbt13.keep (hJ15.keep.mono fun k _ e => .inl (.inl (.inr e)))
          clear hJ14 hbt13
          go_wp2_with (at_builtin; rw [← hW15]; refine wpList_app1_g _ (by first | rfl | kernel_rfl) _ _ 35 22 (by rfl) Tryd.underlying35 info22 (by rfl) (by rfl) hRow15 hqlm ⟨w14.heap.size, 0, none⟩ 1 1 [.slice (some ⟨w6.heap.size, 0, none⟩) T T1] (by rfl) (by rfl) (World.news_of_block hb15) (one_one rfl) (by omega) (by omega) (by unfold maxLen; omega) ?_; intro v16 w16 hap16; rw [show ql.length = (ql.map (·.2)).length by simp] at hap16; obtain ⟨g16, c16, hv16, hc16, hn16, hRv16, hRL16, kk16, hg16, hz16⟩ := hap16.two hRow15 HCM.out; rw [List.length_map] at hv16 hn16; subst hv16)
          clear hW15 hb15
          have hVB16 : ∀ x ∈ ql ++ [(zeros T, Value.slice (some ⟨w6.heap.size, 0, none⟩) T T1)], VB (fun k => ((k = w2.heap.size ∨ k = w6.heap.size) ∨ k = gL) ∨ k = g16) w16 x.2 x.1 := fun x hx => by
            have hm : VB (fun k => k = w2.heap.size ∨ k = w6.heap.size) W15 x.2 x.1 := by
              rcases List.mem_append.1 hx with hx | hx
              · exact hVB15 x hx
              · obtain rfl : x = _ := by simpa using hx
                have h1 := hbt15.take (n := T) (by rw [HZ.out.1]; exact i3)
                rw [take_zeros i3] at h1
                exact ⟨some ⟨w6.heap.size, 0, none⟩, T1, by rw [HZ.out.2], by rw [HZ.out.2]; exact i3, h1.mono' fun k e => .inr e⟩
            exact (hm.keep (kk16.mono fun k _ hk => HNB.out k hk)).mono fun k _ hk => .inl (.inl hk)
          have hJ16 : JSt wc (fun k => ((k = w2.heap.size ∨ k = w6.heap.size) ∨ k = gL) ∨ k = g16) w16 w16 F14 g vA vB vP14 q14 j2 := hJ15.rebase kk16 (.inl (.inr rfl)) HGL.out fun k hk => by
            rcases hk with h | h
            · exact .inl (.inl h)
            · rcases hg16 with e | e
              · rw [h, e]; exact .inl (.inl (.inr rfl))
              · right; rw [h, e]; exact ⟨Nat.le_refl _, by rw [← e]; exact hRv16.lt⟩
          have hRc16 := rcs_of_row (q := ql ++ [(zeros T, Value.slice (some ⟨w6.heap.size, 0, none⟩) T T1)]) (S := fun k => ((k = w2.heap.size ∨ k = w6.heap.size) ∨ k = gL) ∨ k = g16) (by rw [List.map_append]; exact hRv16) hVB16 (.inr rfl) (by simp; omega)
          obtain ⟨rs, hrs⟩ : ∃ rs, rs = List.replicate ql.length (zeros N) ++ [zeros T] := ⟨_, rfl⟩
          have hrm : (ql ++ [(zeros T, Value.slice (some ⟨w6.heap.size, 0, none⟩) T T1)]).map (·.1) = rs := by rw [List.map_append, HQL.out, hrs]; rfl
          rw [hrm] at hRc16
          have hrsl : rs.length = ql.length + 1 := by rw [hrs]; simp
          have hrsz : 16 + sizeF rs = 1048576 := by
            rw [hrs, sizeF_push, HSZ.out.2.2, HZ.out.2]
            have h1 := HSZ.out.1
            have h2 := HTS.out
            omega
          have hrsm : ∀ r ∈ rs, r.length ≤ 65536 := fun r hr => by
            rw [hrs] at hr
            rcases List.mem_append.1 hr with hr | hr
            · rw [List.eq_of_mem_replicate hr, hzl]; omega
            · obtain rfl : r = zeros T := by simpa using hr
              rw [HZ.out.2]; omega
          obtain ⟨j3, hrw2, hrec3, _, hws5⟩ := rec_rewrite HR2.out hrsm (by omega)
          have he3 : j3.end_ = 1048576 := by rw [hrec3.log.end_, hrsz]
          have hre := rewrite_any w16 F14 _ g vA vB vP14 q14 j2 (some ⟨g16, 0, none⟩) (ql.length + 1) c16 rs hJ16.net hRc16 (fun k hk => (hJ16.away k hk).2) hrsl.symm (hT.keep (hJ16.old.old (fun _ => True)) trivial) (by omega)
          rw [hrw2] at hre
          have HR3 := hid hrec3
          have HE3 := hid he3
          have HRSL := hid hrsl
          clear hrw2 hrm hRc16 hVB16 hRv16 hap16 hbt15 hVB15 hRow15 hJ15 k15 hrs hrsl hrsz hrsm hrec3 he3 hRL16 kk16 hg16 hRL13 kk13 hg13
          go_wp2_with fail
          refine hre.mono ?_
          rintro e w17 ⟨rfl, F17, vP17, q17, hL17, hF17, k17⟩
          clear hre
          have hJ17 := hJ16.step hL17 hF17 k17
          clear hL17 hF17 k17 hJ16
          have hsy := lsync_any w17 F17 g vA vB vP17 q17 j3 hJ17.net (by omega)
          go_wp2_with fail
          refine hsy.mono ?_
          rintro e w18 ⟨rfl, F18, vA18, vB18, hL18, hF18, k18⟩
          clear hsy
          have hJ18 := hJ17.step hL18 hF18 k18
          clear hL18 hF18 k18 hJ17
          have hcr := lcrash_any w18 F18 g vA18 vB18 _ [] (syncJ j3) 0 hJ18.net (by omega) (by omega) (by simp [syncJ]) (crashJ_len hJ18.net.good 0)
          have hop : openJ ((syncJ j3).dA, (syncJ j3).dB) = some (⟨(syncJ j3).dA, (syncJ j3).dB, [], j3.cur, j3.gen, rs.length, 16 + sizeF rs⟩, rs) := open_cur HR3.out.log.cur
          have hcs : crashJ (syncJ j3) 0 = ((syncJ j3).dA, (syncJ j3).dB) := rfl
          rw [hcs] at hcr
          clear hcs
          go_wp2_with fail
          refine hcr.mono ?_
          rintro e w19 ⟨vX, vY, rfl, hX, hY, _, k19⟩
          clear hcr
          simp only at hX hY
          obtain ⟨AX, cX, hvX, hcX, _⟩ := hX.slice
          obtain ⟨AY, cY, hvY, hcY, _⟩ := hY.slice
          subst hvX hvY
          have hJ19 := hJ18.more k19
          have ho := lopen_any w19 (fun _ => True) AX AY _ _ cX cY _ _ (hX.bts.mono' fun _ _ => trivial) (hY.bts.mono' fun _ _ => trivial) rfl rfl hcX hcY (hT.keep (hJ19.old.old (fun _ => True)) trivial)
          rw [hop] at ho
          have hls3 := fun W F g vA vB vP q (h : LNet F W g vA vB vP q (syncJ j3)) => (show Calls Tryd.prog 21 #[.pointer (some ⟨g, 0, none⟩)] W fun e w' => e = .returned (.int .i64 1048576) ∧ W = w' from by
            have := lsize_any h
            rwa [show (syncJ j3).end_ = 1048576 from HE3.out] at this)
          have HLS3 := hid hls3
          clear hls3 hop hX hY hJ18 k19
          generalize (syncJ j3).dA = xs at *
          generalize (syncJ j3).dB = ys at *
          go_wp2_with fail
          refine ho.mono ?_
          rintro e w20 ⟨F20, g20, a20, b20, p20, q20, L20, ql20, rfl, hL20, hF20, hq20, hO20, k20⟩
          clear ho hL20 hF20
          have hJ20 := hJ19.more k20
          have hqn : ql20.length = ql.length + 1 := by rw [← HRSL.out, ← hq20]; simp
          obtain ⟨A20, c20, hv20, _, _⟩ := own_slice hO20.row
          subst hv20
          rw [hqn]
          clear hq20 hO20 hqn hJ19
          have hlf := HLS3.out w20 F18 g vA18 vB18 _ _ hJ20.net
          have b6 : IntKind.i64.wrap ((ql.length : Int) + 1) = (ql.length : Int) + 1 := by rw [IntKind.wrap_i64]; omega
          go_wp2_with fail
          refine hlf.mono ?_
          rintro e w21 ⟨rfl, rfl⟩
          go_wp2
          go_ret
          exact ⟨rfl, hJ20.old⟩
        · have b4 : IntKind.i64.wrap (1048576 - (sz : Int) - 12) = 1048576 - (sz : Int) - 12 := by rw [IntKind.wrap_i64]; omega
          have i2 : 1048576 - (sz : Int) - 12 < 0 := by omega
          have hap3 : appendJ j [] = (4, j) := by rw [appendJ, if_neg (by simp), if_pos (by rw [HSZ.out.2.1]; simp; omega)]
          have happ := append_any w6 F6 (fun _ => False) g vA vB vP6 q6 j none 0 0 [] hJ6.net (Bts.nil _ _ _) rfl (hT.keep (hJ6.old.old (fun _ => True)) trivial) (by omega)
          rw [hap3] at happ
          clear hap3
          go_wp2_with fail
          refine happ.mono ?_
          rintro e w7 ⟨rfl, F7, vP7, q7, hL7, hF7, k7⟩
          have hJ7 := hJ6.step hL7 hF7 k7
          clear happ hL7 hF7 k7
          go_wp2
          go_ret
          exact ⟨rfl, hJ7.old⟩
end Go.Proofs.YtdpaaoeipconcaaDoor

