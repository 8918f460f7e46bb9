/- weftlaw12.Pair.numbers, plays: each step on a journal and on the document's answers alike. Conditions: the pair stands whole, apart from what is handed in; what is handed in can be read; the table lies; not too many writes are waiting. -/
import Derived.Test.YtdpaaoeipconcaaDoorJLSync
import Derived.Test.YtdpaaoeipconcaaDoorJRSync
import Derived.Test.YtdpaaoeipconcaaDoorJRRewrite
import Derived.Test.YtdpaaoeipconcaaDoorJOpens
namespace Go.Proofs.YtdpaaoeipconcaaDoor
open Go.RowKit

/-- How many writes are waiting. -/
def wsN : Option Jn → Nat
  | none => 0
  | some j => j.ws.length

def PostPlays (H : Nat → Prop) (w : World) (p : Nat) (o : Option Jn) (e : Ending) (w' : World) : Prop :=
  e = .returned (.bool true) ∧ ∃ H' o', PairAt H' w' p o' ∧ (∀ k, H' k → H k ∨ w.heap.size ≤ k) ∧ Keeps (fun k => ¬ H k) w w' ∧ wsN o' ≤ wsN o + 1

theorem pair_join {H F G F' G' : Nat → Prop} {w w0 w1 w1' w2 w3 : World} {p gl gm : Nat} {o : Option Jn} {j' : Jn} {vA vB vP vA' vB' vP' : Value} {q q' : List (Wr × Value)}
    (hp : w.heap[p]? = some (.cells #[.pointer (some ⟨gl, 0, none⟩), .pointer (some ⟨gm, 0, none⟩)] 29 (0, 0))) (hHlt : ∀ k, H k → k < w.heap.size) (hHp : H p) (hFG : ∀ k, F k → ¬ G k) (hF : ∀ k, F k → H k ∧ k ≠ p) (hG : ∀ k, G k → H k ∧ k ≠ p)
    (k0 : Old w w0) (hL : LNet F' w1 gl vA vB vP q j') (hF' : ∀ k, F' k → F k ∨ w0.heap.size ≤ k) (kL : Keeps (fun k => ¬ F k) w0 w1) (k1 : Old w1 w1')
    (hR : RNet G' w2 gm vA' vB' vP' q' j') (hG' : ∀ k, G' k → G k ∨ w1'.heap.size ≤ k) (kR : Keeps (fun k => ¬ G k) w1' w2) (k2 : Old w2 w3) (hN : j'.ws.length ≤ wsN o + 1) :
    PostPlays H w p o (.returned (.bool true)) w3 := by
  have z0 := k0.size
  have z1 := kL.size
  have z1' := k1.size
  have z2 := kR.size
  have z3 := k2.size
  have hpl := hHlt p hHp
  have KK : Keeps (fun k => ¬ F k ∧ ¬ G k) w w3 := ((((k0.old _).trans' (kL.mono fun k _ h => h.1)).trans' (k1.old _)).trans' (kR.mono fun k _ h => h.2)).trans' (k2.old _)
  have hp3 := KK.heap hp ⟨fun h => (hF p h).2 rfl, fun h => (hG p h).2 rfl⟩
  have kR3 : Keeps F' w1 w3 := ((k1.old _).trans kR fun k hk h hg => by
    rcases hF' k h with h | h
    · exact hFG k h hg
    · have := hHlt k (hG k hg).1; omega).trans' (k2.old _)
  have hL3 := hL.keep kR3
  have hR3 := hR.keep (k2.old _)
  refine ⟨rfl, fun k => k = p ∨ F' k ∨ G' k, some j', ⟨.inl rfl, fun k hk => ?_, F', G', gl, gm, vA, vB, vP, q, vA', vB', vP', q', hp3, hL3, hR3, fun k h1 h2 => ?_, fun k h => ⟨.inr (.inl h), fun e => ?_⟩, fun k h => ⟨.inr (.inr h), fun e => ?_⟩⟩, fun k hk => ?_, KK.mono fun k _ h => ⟨fun hf => h (hF k hf).1, fun hg => h (hG k hg).1⟩, hN⟩
  · rcases hk with rfl | hk | hk
    · exact lt_of_heap hp3
    · exact hL3.lt k hk
    · exact hR3.lt k hk
  · rcases hG' k h2 with g | g
    · rcases hF' k h1 with f | f
      · exact hFG k f g
      · have := hHlt k (hG k g).1; omega
    · have := hL.lt k h1; omega
  · rcases hF' k h with f | f
    · exact (hF k f).2 e
    · omega
  · rcases hG' k h with f | f
    · exact (hG k f).2 e
    · omega
  · rcases hk with rfl | hk | hk
    · exact .inl hHp
    · rcases hF' k hk with f | f
      · exact .inl (hF k f).1
      · right; omega
    · rcases hG' k hk with f | f
      · exact .inl (hG k f).1
      · right; omega

set_option maxHeartbeats 4000000 in
theorem numbers_any (w : World) (F G : Nat → Prop) (p gl gm : Nat) (vA vB vP vA' vB' vP' : Value) (q q' : List (Wr × Value)) (j : Jn) (kind n : Int) (A B : Option Addr) (c d : Nat) (rec : List UInt8) (recs : List (List UInt8))
    (hp : w.heap[p]? = some (.cells #[.pointer (some ⟨gl, 0, none⟩), .pointer (some ⟨gm, 0, none⟩)] 29 (0, 0))) (hL : LNet F w gl vA vB vP q j) (hR : RNet G w gm vA' vB' vP' q' j) (hw : j.ws.length ≤ 4000000000000) :
    Calls Tryd.prog 66 #[.pointer (some ⟨p, 0, none⟩), .agg #[.int .i64 kind, .slice A rec.length c, .slice B recs.length d, .int .i64 n]] w fun e w' => e = .returned (.bool true) ∧ Old w w' := by
  obtain ⟨W0, hW0⟩ : ∃ W, W = w.alloc (.cells #[.int .i64 kind, .slice A rec.length c, .slice B recs.length d, .int .i64 n] 54) := ⟨_, rfl⟩
  have k0 : Old w W0 := by rw [hW0]; exact (Keeps.refl _ _).alloc _
  have hb0 : W0.heap[w.heap.size]? = some (.cells #[.int .i64 kind, .slice A rec.length c, .slice B recs.length d, .int .i64 n] 54 (0, 0)) := by rw [hW0]; exact heap_alloc_new _ _
  have hp0 := k0.heap hp trivial
  have b0 : W0.cell? ⟨w.heap.size, 0, none⟩ = some (.int .i64 kind) := cell_of_heap hb0
  have kd : Old W0 W0.drew := (Keeps.refl _ _).drew
  have hL0 := hL.keep (k0.old _)
  have hR0 := hR.keep (k0.old _)
  have hls : ∀ W, Old W0 W → Calls Tryd.prog 21 #[.pointer (some ⟨gl, 0, none⟩)] W fun e w' => e = .returned (.int .i64 (j.end_ : Int)) ∧ W = w' := fun W hW => lsize_any (hL0.keep (hW.old _))
  have hrs : ∀ W, Old W0 W → Calls Tryd.prog 22 #[.pointer (some ⟨gm, 0, none⟩)] W fun e w' => e = .returned (.int .i64 (j.end_ : Int)) ∧ W = w' := fun W hW => rsize_any (hR0.keep (hW.old _))
  have hld : ∀ W, Old W0 W → Calls Tryd.prog 23 #[.pointer (some ⟨gl, 0, none⟩)] W fun e w' => e = .returned (.int .i64 (dirtyN j.ws : Nat)) ∧ Old W w' := fun W hW => ldirty_any (hL0.keep (hW.old _)) hw
  have hrd : ∀ W, Old W0 W → Calls Tryd.prog 20 #[.pointer (some ⟨gm, 0, none⟩)] W fun e w' => e = .returned (.int .i64 (dirtyN j.ws : Nat)) ∧ W = w' := fun W hW => rdirty_any (hR0.keep (hW.old _)) hw
  clear hL hR hL0 hR0
  generalize dirtyN j.ws = dn at *
  go_enter Tryd.func66, Tryd.ntmps66
  go_upto_region 1 with fail
  rw [← hW0]
  clear hW0
  by_cases h4 : kind = 4
  · subst h4
    go_upto_region 2 with fail
    refine wp_region_tree (fun w' => w'.heap[p]? = some (.cells #[.pointer (some ⟨gl, 0, none⟩), .pointer (some ⟨gm, 0, none⟩)] 29 (0, 0)) ∧ w'.heap[w.heap.size]? = some (.cells #[.int .i64 4, .slice A rec.length c, .slice B recs.length d, .int .i64 n] 54 (0, 0))) 12
      (.take 0 (.take 1 (.take 2 (.take 3 (.take 5 (.take 6 (.take 7 (.take 8 (.one 4 (.one 9 (.take 10 (.take 11 .tail)))))))))))) (by kernel_rfl) (by kernel_rfl) ⟨hp0, hb0⟩ ?_
    iterate 8 (refine pt_take (v := ?_) (by rfl) (by first | rfl | kernel_rfl) (fun w' hS => ?_) ?_; rotate_left 1; (have s0 : w'.cell? ⟨p, 0, none⟩ = some (.pointer (some ⟨gl, 0, none⟩)) := cell_of_heap hS.1; have s1 : w'.cell? ⟨p, 1, none⟩ = some (.pointer (some ⟨gm, 0, none⟩)) := cell_of_heap hS.1; have t0 : w'.cell? ⟨w.heap.size, 0, none⟩ = some (.int .i64 4) := cell_of_heap hS.2; have t1 : w'.cell? ⟨w.heap.size, 1, none⟩ = some (.slice A rec.length c) := cell_of_heap hS.2; have t2 : w'.cell? ⟨w.heap.size, 2, none⟩ = some (.slice B recs.length d) := cell_of_heap hS.2; have t3 : w'.cell? ⟨w.heap.size, 3, none⟩ = some (.int .i64 n) := cell_of_heap hS.2; clear hS; go_simp <;> (try with_reducible rfl)); (simp only [Act.put, List.setIfInBounds_toArray, List.set_cons_zero, List.set_cons_succ]))
    refine pt_one (by rfl) (loudly_of (by first | rfl | kernel_rfl) (fun K hK => ?_))
    go_wp2_with (go_at_call 21; refine (hls W0.drew kd).mono ?_)
    rintro e w5 ⟨rfl, rfl⟩
    refine hK _ _ ⟨(kd).heap hp0 trivial, (kd).heap hb0 trivial⟩ ?_
    clear hK K
    refine pt_one (by rfl) (loudly_of (by first | rfl | kernel_rfl) (fun K hK => ?_))
    go_wp2_with (go_at_call 22; refine (hrs W0.drew kd).mono ?_)
    rintro e w5 ⟨rfl, rfl⟩
    refine hK _ _ ⟨(kd).heap hp0 trivial, (kd).heap hb0 trivial⟩ ?_
    clear hK K
    iterate 2 (refine pt_take (v := ?_) (by rfl) (by first | rfl | kernel_rfl) (fun w' hS => ?_) ?_; rotate_left 1; (have s0 : w'.cell? ⟨p, 0, none⟩ = some (.pointer (some ⟨gl, 0, none⟩)) := cell_of_heap hS.1; have s1 : w'.cell? ⟨p, 1, none⟩ = some (.pointer (some ⟨gm, 0, none⟩)) := cell_of_heap hS.1; have t0 : w'.cell? ⟨w.heap.size, 0, none⟩ = some (.int .i64 4) := cell_of_heap hS.2; have t1 : w'.cell? ⟨w.heap.size, 1, none⟩ = some (.slice A rec.length c) := cell_of_heap hS.2; have t2 : w'.cell? ⟨w.heap.size, 2, none⟩ = some (.slice B recs.length d) := cell_of_heap hS.2; have t3 : w'.cell? ⟨w.heap.size, 3, none⟩ = some (.int .i64 n) := cell_of_heap hS.2; clear hS; go_simp <;> (try with_reducible rfl)); (simp only [Act.put, List.setIfInBounds_toArray, List.set_cons_zero, List.set_cons_succ]))
    refine pt_tail (by rfl) ?_
    go_wp2
    refine NoPanic.normal ?_
    go_wp2
    go_ret
    exact ⟨by first | rfl | simp, k0.drew⟩
  · have b4 : (kind == 4) = false := beq_eq_false_iff_ne.2 h4
    go_upto_region 3 with fail
    refine wp_region_tree (fun w' => w'.heap[p]? = some (.cells #[.pointer (some ⟨gl, 0, none⟩), .pointer (some ⟨gm, 0, none⟩)] 29 (0, 0)) ∧ w'.heap[w.heap.size]? = some (.cells #[.int .i64 kind, .slice A rec.length c, .slice B recs.length d, .int .i64 n] 54 (0, 0))) 12
      (.take 0 (.take 1 (.take 2 (.take 3 (.take 5 (.take 6 (.take 7 (.take 8 (.one 4 (.one 9 (.take 10 (.take 11 .tail)))))))))))) (by kernel_rfl) (by kernel_rfl) ⟨hp0, hb0⟩ ?_
    iterate 8 (refine pt_take (v := ?_) (by rfl) (by first | rfl | kernel_rfl) (fun w' hS => ?_) ?_; rotate_left 1; (have s0 : w'.cell? ⟨p, 0, none⟩ = some (.pointer (some ⟨gl, 0, none⟩)) := cell_of_heap hS.1; have s1 : w'.cell? ⟨p, 1, none⟩ = some (.pointer (some ⟨gm, 0, none⟩)) := cell_of_heap hS.1; have t0 : w'.cell? ⟨w.heap.size, 0, none⟩ = some (.int .i64 kind) := cell_of_heap hS.2; have t1 : w'.cell? ⟨w.heap.size, 1, none⟩ = some (.slice A rec.length c) := cell_of_heap hS.2; have t2 : w'.cell? ⟨w.heap.size, 2, none⟩ = some (.slice B recs.length d) := cell_of_heap hS.2; have t3 : w'.cell? ⟨w.heap.size, 3, none⟩ = some (.int .i64 n) := cell_of_heap hS.2; clear hS; go_simp <;> (try with_reducible rfl)); (simp only [Act.put, List.setIfInBounds_toArray, List.set_cons_zero, List.set_cons_succ]))
    refine pt_one (by rfl) (loudly_of (by first | rfl | kernel_rfl) (fun K hK => ?_))
    go_wp2_with (go_at_call 23; refine (hld W0.drew kd).mono ?_)
    first
    | (rintro e w5 ⟨rfl, k5⟩; have K5 : Old W0 w5 := kd.trans' k5)
    | (rintro e w5 rfl k5; have K5 : Old W0 w5 := kd.trans' k5)
    refine hK _ _ ⟨(K5).heap hp0 trivial, (K5).heap hb0 trivial⟩ ?_
    clear hK K
    refine pt_one (by rfl) (loudly_of (by first | rfl | kernel_rfl) (fun K hK => ?_))
    go_wp2_with (go_at_call 20; refine (hrd w5 K5).mono ?_)
    rintro e w6 ⟨rfl, rfl⟩
    refine hK _ _ ⟨(K5).heap hp0 trivial, (K5).heap hb0 trivial⟩ ?_
    clear hK K
    iterate 2 (refine pt_take (v := ?_) (by rfl) (by first | rfl | kernel_rfl) (fun w' hS => ?_) ?_; rotate_left 1; (have s0 : w'.cell? ⟨p, 0, none⟩ = some (.pointer (some ⟨gl, 0, none⟩)) := cell_of_heap hS.1; have s1 : w'.cell? ⟨p, 1, none⟩ = some (.pointer (some ⟨gm, 0, none⟩)) := cell_of_heap hS.1; have t0 : w'.cell? ⟨w.heap.size, 0, none⟩ = some (.int .i64 kind) := cell_of_heap hS.2; have t1 : w'.cell? ⟨w.heap.size, 1, none⟩ = some (.slice A rec.length c) := cell_of_heap hS.2; have t2 : w'.cell? ⟨w.heap.size, 2, none⟩ = some (.slice B recs.length d) := cell_of_heap hS.2; have t3 : w'.cell? ⟨w.heap.size, 3, none⟩ = some (.int .i64 n) := cell_of_heap hS.2; clear hS; go_simp <;> (try with_reducible rfl)); (simp only [Act.put, List.setIfInBounds_toArray, List.set_cons_zero, List.set_cons_succ]))
    refine pt_tail (by rfl) ?_
    go_wp2
    refine NoPanic.normal ?_
    go_wp2
    go_ret
    exact ⟨by first | rfl | simp, k0.trans' K5⟩

theorem Rcs.len {S : Nat → Prop} {w : World} {A : Option Addr} {rs : List (List UInt8)} (h : Rcs S w A rs) : rs.length ≤ 281474976710656 := h.1

set_option maxRecDepth 10000 in
set_option maxHeartbeats 8000000 in
theorem plays_any (w : World) (H S : Nat → Prop) (p : Nat) (o : Option Jn) (kind n : Int) (A B : Option Addr) (c d : Nat) (rec : List UInt8) (recs : List (List UInt8)) (hP : PairAt H w p o) (hr : Bts S w A rec) (hrs : Rcs S w B recs) (hlen : recs.length ≤ 6000000000000)
    (hS : ∀ k, S k → k < w.heap.size ∧ ¬ H k) (hn0 : -9223372036854775808 ≤ n) (hn1 : n < 9223372036854775808) (hT : Tab w) (hH0 : ¬ H 0) (hw : wsN o ≤ 2900000000000) :
    Calls Tryd.prog 36 #[.pointer (some ⟨p, 0, none⟩), .agg #[.int .i64 kind, .slice A rec.length c, .slice B recs.length d, .int .i64 n]] w (PostPlays H w p o) := by
  have k0 : Old w (w.alloc (.cells #[.int .i64 kind, .slice A rec.length c, .slice B recs.length d, .int .i64 n] 54)) := (Keeps.refl _ _).alloc _
  obtain ⟨W0, hW0⟩ : ∃ W, W = w.alloc (.cells #[.int .i64 kind, .slice A rec.length c, .slice B recs.length d, .int .i64 n] 54) := ⟨_, rfl⟩
  have hb0 : W0.heap[w.heap.size]? = some (.cells #[.int .i64 kind, .slice A rec.length c, .slice B recs.length d, .int .i64 n] 54 (0, 0)) := by rw [hW0]; exact heap_alloc_new _ _
  rw [← hW0] at k0
  have z0 := k0.size
  have hpos := hT.pos
  have b0 : W0.cell? ⟨w.heap.size, 0, none⟩ = some (.int .i64 kind) := cell_of_heap hb0
  have bt0 : W0.cell? ⟨w.heap.size, 1, none⟩ = some (.slice A rec.length c) := cell_of_heap hb0
  have bt2 : W0.cell? ⟨w.heap.size, 2, none⟩ = some (.slice B recs.length d) := cell_of_heap hb0
  have bt3 : W0.cell? ⟨w.heap.size, 3, none⟩ = some (.int .i64 n) := cell_of_heap hb0
  obtain ⟨hHp, hHlt, hP⟩ := hP
  have hpl := hHlt p hHp
  cases o with
  | none =>
    have hp0 := k0.heap hP trivial
    have q0 : W0.cell? ⟨p, 0, none⟩ = some (.pointer none) := cell_of_heap hp0
    go_enter Tryd.func36, Tryd.ntmps36
    go_upto_region 1 with fail
    rw [← hW0]
    clear hW0
    go_wp2
    go_ret
    exact ⟨rfl, H, none, ⟨hHp, fun k hk => by have := hHlt k hk; omega, hp0⟩, fun k hk => .inl hk, k0.old _, Nat.zero_le _⟩
  | some j =>
    obtain ⟨F, G, gl, gm, vA, vB, vP, q, vA', vB', vP', q', hp, hL, hR, hFG, hF, hG⟩ := hP
    have hwj : j.ws.length ≤ 2900000000000 := hw
    have hp0 := k0.heap hp trivial
    have q0 : W0.cell? ⟨p, 0, none⟩ = some (.pointer (some ⟨gl, 0, none⟩)) := cell_of_heap hp0
    have q1 : W0.cell? ⟨p, 1, none⟩ = some (.pointer (some ⟨gm, 0, none⟩)) := cell_of_heap hp0
    have hL0 := hL.keep (k0.old _)
    have hR0 := hR.keep (k0.old _)
    have hT0 := hT.keep (k0.old (fun _ => True)) trivial
    have nFp : ¬ F p := fun h => (hF p h).2 rfl
    have nFb : ¬ F w.heap.size := fun h => by have := hL.lt _ h; omega
    have nGp : ¬ G p := fun h => (hG p h).2 rfl
    have nGb : ¬ G w.heap.size := fun h => by have := hR.lt _ h; omega
    have nF0 : ¬ F 0 := fun h => hH0 (hF 0 h).1
    have kd : Old W0 W0.drew := (Keeps.refl _ _).drew
    have hSF : ∀ k, S k → ¬ F k := fun k hk hf => (hS k hk).2 (hF k hf).1
    have hSG : ∀ k, S k → ¬ G k := fun k hk hg => (hS k hk).2 (hG k hg).1
    have hGF : ∀ k, G k → ¬ F k := fun k hg hf => hFG k hf hg
    have hr0 := hr.keep (k0.old _)
    have hrs0 := hrs.keep (k0.old _)
    by_cases h1 : kind = 1
    · subst h1
      have hN : (appendJ j rec).2.ws.length ≤ wsN (some j) + 1 := by
        unfold appendJ wsN
        split
        · simp
        · split <;> simp
      have hap : Calls Tryd.prog 29 #[.pointer (some ⟨gl, 0, none⟩), .slice A rec.length c] W0.drew (PostL F W0.drew gl vA vB (appendJ j rec)) := append_any W0.drew F S gl vA vB vP q j A rec.length c rec (hL0.keep (kd.old _)) (hr0.keep (kd.old _)) rfl (hT0.keep (kd.old (fun _ => True)) trivial) (by omega)
      have hrp : ∀ W, RNet G W gm vA' vB' vP' q' j → Bts S W A rec → Calls Tryd.prog 63 #[.pointer (some ⟨gm, 0, none⟩), .slice A rec.length c] W (PostR G W gm vA' vB' (appendJ j rec)) := fun W h1 h2 => rappend_any W G S gm vA' vB' vP' q' j A rec.length c rec h1 h2 rfl (by omega)
      generalize appendJ j rec = r at *
      obtain ⟨er, j'⟩ := r
      go_enter Tryd.func36, Tryd.ntmps36
      go_upto_region 1 with fail
      rw [← hW0]
      clear hW0
      go_upto_region 5 with fail
      refine wp_region_tree (fun w' => w'.heap[p]? = some (.cells #[.pointer (some ⟨gl, 0, none⟩), .pointer (some ⟨gm, 0, none⟩)] 29 (0, 0)) ∧ w'.heap[w.heap.size]? = some (.cells #[.int .i64 1, .slice A rec.length c, .slice B recs.length d, .int .i64 n] 54 (0, 0))) 8
        (.take 0 (.take 1 (.take 2 (.take 3 (.take 4 (.take 5 (.one 6 (.take 7 .tail)))))))) (by kernel_rfl) (by kernel_rfl) ⟨hp0, hb0⟩ ?_
      iterate 6 (refine pt_take (v := ?_) (by rfl) (by first | rfl | kernel_rfl) (fun w' hS => ?_) ?_; rotate_left 1; (have s0 : w'.cell? ⟨p, 0, none⟩ = some (.pointer (some ⟨gl, 0, none⟩)) := cell_of_heap hS.1; have s1 : w'.cell? ⟨p, 1, none⟩ = some (.pointer (some ⟨gm, 0, none⟩)) := cell_of_heap hS.1; have t0 : w'.cell? ⟨w.heap.size, 0, none⟩ = some (.int .i64 1) := cell_of_heap hS.2; have t1 : w'.cell? ⟨w.heap.size, 1, none⟩ = some (.slice A rec.length c) := cell_of_heap hS.2; have t2 : w'.cell? ⟨w.heap.size, 2, none⟩ = some (.slice B recs.length d) := cell_of_heap hS.2; have t3 : w'.cell? ⟨w.heap.size, 3, none⟩ = some (.int .i64 n) := cell_of_heap hS.2; clear hS; go_simp <;> (try with_reducible rfl)); (simp only [Act.put, List.setIfInBounds_toArray, List.set_cons_zero, List.set_cons_succ]))
      refine pt_one (by rfl) (loudly_of (by first | rfl | kernel_rfl) (fun K hK => ?_))
      go_wp2_with (go_at_call 29; refine hap.mono ?_)
      rintro e w1 ⟨rfl, F1, vP1, q1, hL1, hF1, kL1⟩
      clear hap
      have hpb1 : w1.heap[p]? = some (.cells #[.pointer (some ⟨gl, 0, none⟩), .pointer (some ⟨gm, 0, none⟩)] 29 (0, 0)) ∧ w1.heap[w.heap.size]? = some (.cells #[.int .i64 1, .slice A rec.length c, .slice B recs.length d, .int .i64 n] 54 (0, 0)) := ⟨kL1.heap hp0 nFp, kL1.heap hb0 nFb⟩
      refine hK _ _ hpb1 ?_
      clear hK K
      (refine pt_take (v := ?_) (by rfl) (by first | rfl | kernel_rfl) (fun w' hS => ?_) ?_; rotate_left 1; (have s0 : w'.cell? ⟨p, 0, none⟩ = some (.pointer (some ⟨gl, 0, none⟩)) := cell_of_heap hS.1; have s1 : w'.cell? ⟨p, 1, none⟩ = some (.pointer (some ⟨gm, 0, none⟩)) := cell_of_heap hS.1; have t0 : w'.cell? ⟨w.heap.size, 0, none⟩ = some (.int .i64 1) := cell_of_heap hS.2; have t1 : w'.cell? ⟨w.heap.size, 1, none⟩ = some (.slice A rec.length c) := cell_of_heap hS.2; have t2 : w'.cell? ⟨w.heap.size, 2, none⟩ = some (.slice B recs.length d) := cell_of_heap hS.2; have t3 : w'.cell? ⟨w.heap.size, 3, none⟩ = some (.int .i64 n) := cell_of_heap hS.2; clear hS; go_simp <;> (try with_reducible rfl)); (simp only [Act.put, List.setIfInBounds_toArray, List.set_cons_zero, List.set_cons_succ]))
      refine pt_tail (by rfl) ?_
      go_wp2
      refine NoPanic.normal ?_
      go_upto_region 6 with fail
      have kd1 : Old w1 w1.drew := (Keeps.refl _ _).drew
      have hR1 := (hR0.keep (kd.old _)).keep (kL1.mono fun k _ h => hGF k h)
      have hr1 := (hr0.keep (kd.old _)).keep (kL1.mono fun k _ h => hSF k h)
      refine wp_region_tree (fun w' => w'.heap[p]? = some (.cells #[.pointer (some ⟨gl, 0, none⟩), .pointer (some ⟨gm, 0, none⟩)] 29 (0, 0)) ∧ w'.heap[w.heap.size]? = some (.cells #[.int .i64 1, .slice A rec.length c, .slice B recs.length d, .int .i64 n] 54 (0, 0))) 8
        (.take 0 (.take 1 (.take 2 (.take 3 (.take 4 (.take 5 (.one 6 (.take 7 .tail)))))))) (by kernel_rfl) (by kernel_rfl) hpb1 ?_
      iterate 6 (refine pt_take (v := ?_) (by rfl) (by first | rfl | kernel_rfl) (fun w' hS => ?_) ?_; rotate_left 1; (have s0 : w'.cell? ⟨p, 0, none⟩ = some (.pointer (some ⟨gl, 0, none⟩)) := cell_of_heap hS.1; have s1 : w'.cell? ⟨p, 1, none⟩ = some (.pointer (some ⟨gm, 0, none⟩)) := cell_of_heap hS.1; have t0 : w'.cell? ⟨w.heap.size, 0, none⟩ = some (.int .i64 1) := cell_of_heap hS.2; have t1 : w'.cell? ⟨w.heap.size, 1, none⟩ = some (.slice A rec.length c) := cell_of_heap hS.2; have t2 : w'.cell? ⟨w.heap.size, 2, none⟩ = some (.slice B recs.length d) := cell_of_heap hS.2; have t3 : w'.cell? ⟨w.heap.size, 3, none⟩ = some (.int .i64 n) := cell_of_heap hS.2; clear hS; go_simp <;> (try with_reducible rfl)); (simp only [Act.put, List.setIfInBounds_toArray, List.set_cons_zero, List.set_cons_succ]))
      refine pt_one (by rfl) (loudly_of (by first | rfl | kernel_rfl) (fun K hK => ?_))
      go_wp2_with (go_at_call 63; refine (hrp w1.drew (hR1.keep (kd1.old _)) (hr1.keep (kd1.old _))).mono ?_)
      rintro e w2 ⟨rfl, G2, vP2, q2, hR2, hG2, kR2⟩
      refine hK _ _ ⟨kR2.heap hpb1.1 nGp, kR2.heap hpb1.2 nGb⟩ ?_
      clear hK K
      (refine pt_take (v := ?_) (by rfl) (by first | rfl | kernel_rfl) (fun w' hS => ?_) ?_; rotate_left 1; (have s0 : w'.cell? ⟨p, 0, none⟩ = some (.pointer (some ⟨gl, 0, none⟩)) := cell_of_heap hS.1; have s1 : w'.cell? ⟨p, 1, none⟩ = some (.pointer (some ⟨gm, 0, none⟩)) := cell_of_heap hS.1; have t0 : w'.cell? ⟨w.heap.size, 0, none⟩ = some (.int .i64 1) := cell_of_heap hS.2; have t1 : w'.cell? ⟨w.heap.size, 1, none⟩ = some (.slice A rec.length c) := cell_of_heap hS.2; have t2 : w'.cell? ⟨w.heap.size, 2, none⟩ = some (.slice B recs.length d) := cell_of_heap hS.2; have t3 : w'.cell? ⟨w.heap.size, 3, none⟩ = some (.int .i64 n) := cell_of_heap hS.2; clear hS; go_simp <;> (try with_reducible rfl)); (simp only [Act.put, List.setIfInBounds_toArray, List.set_cons_zero, List.set_cons_succ]))
      refine pt_tail (by rfl) ?_
      go_wp2
      refine NoPanic.normal ?_
      go_wp2
      go_ret
      have := pair_join (o := some j) hp hHlt hHp hFG hF hG (k0.trans' kd) hL1 hF1 kL1 kd1 hR2 hG2 kR2 (Keeps.refl _ _) hN
      first
      | exact this
      | simpa using this
    · have b1 : (kind == 1) = false := beq_eq_false_iff_ne.2 h1
      by_cases h2 : kind = 2
      · subst h2
        have hN : (rewriteJ j recs).2.ws.length ≤ wsN (some j) + 1 := by
          unfold rewriteJ wsN
          split
          · simp
          · split <;> simp
        have hap : Calls Tryd.prog 41 #[.pointer (some ⟨gl, 0, none⟩), .slice B recs.length d] W0.drew (PostL F W0.drew gl vA vB (rewriteJ j recs)) := rewrite_any W0.drew F S gl vA vB vP q j B recs.length d recs (hL0.keep (kd.old _)) (hrs0.keep (kd.old _)) hSF rfl (hT0.keep (kd.old (fun _ => True)) trivial) (by omega)
        have hrp : ∀ W, RNet G W gm vA' vB' vP' q' j → Rcs S W B recs → Calls Tryd.prog 64 #[.pointer (some ⟨gm, 0, none⟩), .slice B recs.length d] W (PostR G W gm vA' vB' (rewriteJ j recs)) := fun W h1 h2 => rrewrite_any W G S gm vA' vB' vP' q' j B recs.length d recs h1 h2 hSG rfl hlen (by omega)
        generalize rewriteJ j recs = r at *
        obtain ⟨er, j'⟩ := r
        go_enter Tryd.func36, Tryd.ntmps36
        go_upto_region 1 with fail
        rw [← hW0]
        clear hW0
        go_upto_region 9 with fail
        refine wp_region_tree (fun w' => w'.heap[p]? = some (.cells #[.pointer (some ⟨gl, 0, none⟩), .pointer (some ⟨gm, 0, none⟩)] 29 (0, 0)) ∧ w'.heap[w.heap.size]? = some (.cells #[.int .i64 2, .slice A rec.length c, .slice B recs.length d, .int .i64 n] 54 (0, 0))) 8
          (.take 0 (.take 1 (.take 2 (.take 3 (.take 4 (.take 5 (.one 6 (.take 7 .tail)))))))) (by kernel_rfl) (by kernel_rfl) ⟨hp0, hb0⟩ ?_
        iterate 6 (refine pt_take (v := ?_) (by rfl) (by first | rfl | kernel_rfl) (fun w' hS => ?_) ?_; rotate_left 1; (have s0 : w'.cell? ⟨p, 0, none⟩ = some (.pointer (some ⟨gl, 0, none⟩)) := cell_of_heap hS.1; have s1 : w'.cell? ⟨p, 1, none⟩ = some (.pointer (some ⟨gm, 0, none⟩)) := cell_of_heap hS.1; have t0 : w'.cell? ⟨w.heap.size, 0, none⟩ = some (.int .i64 2) := cell_of_heap hS.2; have t1 : w'.cell? ⟨w.heap.size, 1, none⟩ = some (.slice A rec.length c) := cell_of_heap hS.2; have t2 : w'.cell? ⟨w.heap.size, 2, none⟩ = some (.slice B recs.length d) := cell_of_heap hS.2; have t3 : w'.cell? ⟨w.heap.size, 3, none⟩ = some (.int .i64 n) := cell_of_heap hS.2; clear hS; go_simp <;> (try with_reducible rfl)); (simp only [Act.put, List.setIfInBounds_toArray, List.set_cons_zero, List.set_cons_succ]))
        refine pt_one (by rfl) (loudly_of (by first | rfl | kernel_rfl) (fun K hK => ?_))
        go_wp2_with (go_at_call 41; refine hap.mono ?_)
        rintro e w1 ⟨rfl, F1, vP1, q1, hL1, hF1, kL1⟩
        clear hap
        have hpb1 : w1.heap[p]? = some (.cells #[.pointer (some ⟨gl, 0, none⟩), .pointer (some ⟨gm, 0, none⟩)] 29 (0, 0)) ∧ w1.heap[w.heap.size]? = some (.cells #[.int .i64 2, .slice A rec.length c, .slice B recs.length d, .int .i64 n] 54 (0, 0)) := ⟨kL1.heap hp0 nFp, kL1.heap hb0 nFb⟩
        refine hK _ _ hpb1 ?_
        clear hK K
        (refine pt_take (v := ?_) (by rfl) (by first | rfl | kernel_rfl) (fun w' hS => ?_) ?_; rotate_left 1; (have s0 : w'.cell? ⟨p, 0, none⟩ = some (.pointer (some ⟨gl, 0, none⟩)) := cell_of_heap hS.1; have s1 : w'.cell? ⟨p, 1, none⟩ = some (.pointer (some ⟨gm, 0, none⟩)) := cell_of_heap hS.1; have t0 : w'.cell? ⟨w.heap.size, 0, none⟩ = some (.int .i64 2) := cell_of_heap hS.2; have t1 : w'.cell? ⟨w.heap.size, 1, none⟩ = some (.slice A rec.length c) := cell_of_heap hS.2; have t2 : w'.cell? ⟨w.heap.size, 2, none⟩ = some (.slice B recs.length d) := cell_of_heap hS.2; have t3 : w'.cell? ⟨w.heap.size, 3, none⟩ = some (.int .i64 n) := cell_of_heap hS.2; clear hS; go_simp <;> (try with_reducible rfl)); (simp only [Act.put, List.setIfInBounds_toArray, List.set_cons_zero, List.set_cons_succ]))
        refine pt_tail (by rfl) ?_
        go_wp2
        refine NoPanic.normal ?_
        go_upto_region 10 with fail
        have kd1 : Old w1 w1.drew := (Keeps.refl _ _).drew
        have hR1 := (hR0.keep (kd.old _)).keep (kL1.mono fun k _ h => hGF k h)
        have hr1 := (hrs0.keep (kd.old _)).keep (kL1.mono fun k _ h => hSF k h)
        refine wp_region_tree (fun w' => w'.heap[p]? = some (.cells #[.pointer (some ⟨gl, 0, none⟩), .pointer (some ⟨gm, 0, none⟩)] 29 (0, 0)) ∧ w'.heap[w.heap.size]? = some (.cells #[.int .i64 2, .slice A rec.length c, .slice B recs.length d, .int .i64 n] 54 (0, 0))) 8
          (.take 0 (.take 1 (.take 2 (.take 3 (.take 4 (.take 5 (.one 6 (.take 7 .tail)))))))) (by kernel_rfl) (by kernel_rfl) hpb1 ?_
        iterate 6 (refine pt_take (v := ?_) (by rfl) (by first | rfl | kernel_rfl) (fun w' hS => ?_) ?_; rotate_left 1; (have s0 : w'.cell? ⟨p, 0, none⟩ = some (.pointer (some ⟨gl, 0, none⟩)) := cell_of_heap hS.1; have s1 : w'.cell? ⟨p, 1, none⟩ = some (.pointer (some ⟨gm, 0, none⟩)) := cell_of_heap hS.1; have t0 : w'.cell? ⟨w.heap.size, 0, none⟩ = some (.int .i64 2) := cell_of_heap hS.2; have t1 : w'.cell? ⟨w.heap.size, 1, none⟩ = some (.slice A rec.length c) := cell_of_heap hS.2; have t2 : w'.cell? ⟨w.heap.size, 2, none⟩ = some (.slice B recs.length d) := cell_of_heap hS.2; have t3 : w'.cell? ⟨w.heap.size, 3, none⟩ = some (.int .i64 n) := cell_of_heap hS.2; clear hS; go_simp <;> (try with_reducible rfl)); (simp only [Act.put, List.setIfInBounds_toArray, List.set_cons_zero, List.set_cons_succ]))
        refine pt_one (by rfl) (loudly_of (by first | rfl | kernel_rfl) (fun K hK => ?_))
        go_wp2_with (go_at_call 64; refine (hrp w1.drew (hR1.keep (kd1.old _)) (hr1.keep (kd1.old _))).mono ?_)
        rintro e w2 ⟨rfl, G2, vP2, q2, hR2, hG2, kR2⟩
        refine hK _ _ ⟨kR2.heap hpb1.1 nGp, kR2.heap hpb1.2 nGb⟩ ?_
        clear hK K
        (refine pt_take (v := ?_) (by rfl) (by first | rfl | kernel_rfl) (fun w' hS => ?_) ?_; rotate_left 1; (have s0 : w'.cell? ⟨p, 0, none⟩ = some (.pointer (some ⟨gl, 0, none⟩)) := cell_of_heap hS.1; have s1 : w'.cell? ⟨p, 1, none⟩ = some (.pointer (some ⟨gm, 0, none⟩)) := cell_of_heap hS.1; have t0 : w'.cell? ⟨w.heap.size, 0, none⟩ = some (.int .i64 2) := cell_of_heap hS.2; have t1 : w'.cell? ⟨w.heap.size, 1, none⟩ = some (.slice A rec.length c) := cell_of_heap hS.2; have t2 : w'.cell? ⟨w.heap.size, 2, none⟩ = some (.slice B recs.length d) := cell_of_heap hS.2; have t3 : w'.cell? ⟨w.heap.size, 3, none⟩ = some (.int .i64 n) := cell_of_heap hS.2; clear hS; go_simp <;> (try with_reducible rfl)); (simp only [Act.put, List.setIfInBounds_toArray, List.set_cons_zero, List.set_cons_succ]))
        refine pt_tail (by rfl) ?_
        go_wp2
        refine NoPanic.normal ?_
        go_wp2
        go_ret
        have := pair_join (o := some j) hp hHlt hHp hFG hF hG (k0.trans' kd) hL1 hF1 kL1 kd1 hR2 hG2 kR2 (Keeps.refl _ _) hN
        first
        | exact this
        | simpa using this
      · have b2 : (kind == 2) = false := beq_eq_false_iff_ne.2 h2
        by_cases h3 : kind = 3
        · subst h3
          have hsy := lsync_any W0 F gl vA vB vP q j hL0 (by omega)
          go_enter Tryd.func36, Tryd.ntmps36
          go_upto_region 1 with fail
          rw [← hW0]
          clear hW0
          go_wp2_with fail
          refine hsy.mono ?_
          rintro e w1 ⟨rfl, F1, vA1, vB1, hL1, hF1, kL1⟩
          clear hsy
          have hp1 := kL1.heap hp0 nFp
          have u1 : w1.cell? ⟨p, 1, none⟩ = some (.pointer (some ⟨gm, 0, none⟩)) := cell_of_heap hp1
          have hrsy := rsync_any w1 G gm vA' vB' vP' q' j (hR0.keep (kL1.mono fun k _ h => hGF k h)) (by omega)
          go_wp2_with fail
          refine hrsy.mono ?_
          rintro e w2 ⟨rfl, G2, vA2, vB2, hR2, hG2, kR2⟩
          clear hrsy
          go_wp2
          go_ret
          exact pair_join (o := some j) hp hHlt hHp hFG hF hG k0 hL1 hF1 kL1 (Keeps.refl _ _) hR2 hG2 kR2 (Keeps.refl _ _) (by simp [syncJ])
        · have b3 : (kind == 3) = false := beq_eq_false_iff_ne.2 h3
          have same_pair : ∀ w3, Old W0 w3 → PostPlays H w p (some j) (.returned (.bool true)) w3 := fun w3 K =>
            pair_join (o := some j) hp hHlt hHp hFG hF hG k0 hL0 (fun k h => .inl h) (Keeps.refl _ _) (Keeps.refl _ _) hR0 (fun k h => .inl h) (Keeps.refl _ _) K (Nat.le_succ _)
          have SP := hid same_pair
          clear same_pair
          by_cases h45 : kind = 4 ∨ kind = 5
          · have hnu := numbers_any W0 F G p gl gm vA vB vP vA' vB' vP' q q' j kind n A B c d rec recs hp0 hL0 hR0 (by omega)
            go_enter Tryd.func36, Tryd.ntmps36
            go_upto_region 1 with fail
            rw [← hW0]
            clear hW0
            rcases h45 with rfl | rfl <;> (
              go_wp2_with fail
              refine hnu.mono ?_
              rintro e w1 ⟨rfl, k1⟩
              clear hnu
              go_wp2
              go_ret
              exact SP.out _ k1)
          · have b4 : (kind == 4) = false := beq_eq_false_iff_ne.2 fun h => h45 (.inl h)
            have b5 : (kind == 5) = false := beq_eq_false_iff_ne.2 fun h => h45 (.inr h)
            have hcl : ∀ W, Old W0 W → Calls Tryd.prog 25 #[.pointer (some ⟨gl, 0, none⟩), .int .i64 n] W (PostDisk W (crashJ j n)) := fun W hW => lcrash_any W F gl vA vB vP q j n (hL0.keep (hW.old _)) hn0 hn1 (by omega) (crashJ_len hL.good n)
            have hcr : ∀ W, Old W0 W → Calls Tryd.prog 26 #[.pointer (some ⟨gm, 0, none⟩), .int .i64 n] W (PostDisk W (crashJ j n)) := fun W hW => rcrash_any W G gm vA' vB' vP' q' j n (hR0.keep (hW.old _)) hn0 hn1 (by omega)
            generalize hcj : crashJ j n = dk at *
            clear hcj
            obtain ⟨xs, ys⟩ := dk
            by_cases h6 : kind = 6
            · subst h6
              go_enter Tryd.func36, Tryd.ntmps36
              go_upto_region 1 with fail
              rw [← hW0]
              clear hW0
              go_upto_region 19 with fail
              refine wp_region_tree (fun w' => w'.heap[p]? = some (.cells #[.pointer (some ⟨gl, 0, none⟩), .pointer (some ⟨gm, 0, none⟩)] 29 (0, 0)) ∧ w'.heap[w.heap.size]? = some (.cells #[.int .i64 6, .slice A rec.length c, .slice B recs.length d, .int .i64 n] 54 (0, 0))) 16
                (.take 0 (.take 1 (.take 2 (.take 3 (.take 4 (.take 5 (.take 7 (.take 8 (.take 9 (.take 10 (.take 11 (.take 12 (.one 6 (.one 13 (.one 14 (.take 15 .tail)))))))))))))))) (by kernel_rfl) (by kernel_rfl) ⟨hp0, hb0⟩ ?_
              iterate 12 (refine pt_take (v := ?_) (by rfl) (by first | rfl | kernel_rfl) (fun w' hS => ?_) ?_; rotate_left 1; (have s0 : w'.cell? ⟨p, 0, none⟩ = some (.pointer (some ⟨gl, 0, none⟩)) := cell_of_heap hS.1; have s1 : w'.cell? ⟨p, 1, none⟩ = some (.pointer (some ⟨gm, 0, none⟩)) := cell_of_heap hS.1; have t0 : w'.cell? ⟨w.heap.size, 0, none⟩ = some (.int .i64 6) := cell_of_heap hS.2; have t1 : w'.cell? ⟨w.heap.size, 1, none⟩ = some (.slice A rec.length c) := cell_of_heap hS.2; have t2 : w'.cell? ⟨w.heap.size, 2, none⟩ = some (.slice B recs.length d) := cell_of_heap hS.2; have t3 : w'.cell? ⟨w.heap.size, 3, none⟩ = some (.int .i64 n) := cell_of_heap hS.2; clear hS; go_simp <;> (try with_reducible rfl)); (simp only [Act.put, List.setIfInBounds_toArray, List.set_cons_zero, List.set_cons_succ]))
              refine pt_one (by rfl) (loudly_of (by first | rfl | kernel_rfl) (fun K hK => ?_))
              go_wp2_with (go_at_call 25; refine (hcl W0.drew kd).mono ?_)
              rintro e w6 ⟨vA6, vB6, rfl, hA6, hB6, _, k6⟩
              obtain ⟨A6, c6, rfl, _, _⟩ := hA6.slice
              obtain ⟨B6, d6, rfl, _, _⟩ := hB6.slice
              simp only at hA6 hB6
              have K6 : Old W0 w6 := kd.trans' k6
              refine hK _ _ ⟨(K6).heap hp0 trivial, (K6).heap hb0 trivial⟩ ?_
              clear hK K
              refine pt_one (by rfl) (loudly_of (by first | rfl | kernel_rfl) (fun K hK => ?_))
              go_wp2_with (go_at_call 26; refine (hcr w6 K6).mono ?_)
              rintro e w7 ⟨vA7, vB7, rfl, hA7, hB7, _, k7⟩
              obtain ⟨A7, c7, rfl, _, _⟩ := hA7.slice
              obtain ⟨B7, d7, rfl, _, _⟩ := hB7.slice
              simp only at hA7 hB7
              have K7 := K6.trans' k7
              refine hK _ _ ⟨(K7).heap hp0 trivial, (K7).heap hb0 trivial⟩ ?_
              clear hK K
              refine pt_one (by rfl) (loudly_of (by first | rfl | kernel_rfl) (fun K hK => ?_))
              have hdd := disks_any w7 (fun k => W0.drew.heap.size ≤ k) (fun k => w6.heap.size ≤ k) A6 B6 A7 B7 _ _ _ _ c6 d6 c7 d7 xs ys xs ys (hA6.bts.keep (k7.old _)) (hB6.bts.keep (k7.old _)) hA7.bts hB7.bts rfl rfl rfl rfl
              rw [decide_eq_true (show (xs, ys) = (xs, ys) from rfl)] at hdd
              go_wp2_with (go_at_call 24; refine hdd.mono ?_)
              first
              | (rintro e w8 ⟨rfl, k8⟩; have K8 := K7.trans' k8)
              | (rintro e w8 rfl k8; have K8 := K7.trans' k8)
              clear hdd
              refine hK _ _ ⟨(K8).heap hp0 trivial, (K8).heap hb0 trivial⟩ ?_
              clear hK K
              (refine pt_take (v := ?_) (by rfl) (by first | rfl | kernel_rfl) (fun w' hS => ?_) ?_; rotate_left 1; (have s0 : w'.cell? ⟨p, 0, none⟩ = some (.pointer (some ⟨gl, 0, none⟩)) := cell_of_heap hS.1; have s1 : w'.cell? ⟨p, 1, none⟩ = some (.pointer (some ⟨gm, 0, none⟩)) := cell_of_heap hS.1; have t0 : w'.cell? ⟨w.heap.size, 0, none⟩ = some (.int .i64 6) := cell_of_heap hS.2; have t1 : w'.cell? ⟨w.heap.size, 1, none⟩ = some (.slice A rec.length c) := cell_of_heap hS.2; have t2 : w'.cell? ⟨w.heap.size, 2, none⟩ = some (.slice B recs.length d) := cell_of_heap hS.2; have t3 : w'.cell? ⟨w.heap.size, 3, none⟩ = some (.int .i64 n) := cell_of_heap hS.2; clear hS; go_simp <;> (try with_reducible rfl)); (simp only [Act.put, List.setIfInBounds_toArray, List.set_cons_zero, List.set_cons_succ]))
              refine pt_tail (by rfl) ?_
              go_wp2
              refine NoPanic.normal ?_
              go_wp2
              go_ret
              exact SP.out _ K8
            · have b6 : (kind == 6) = false := beq_eq_false_iff_ne.2 h6
              by_cases h7 : kind = 7
              · subst h7
                go_enter Tryd.func36, Tryd.ntmps36
                go_upto_region 1 with fail
                rw [← hW0]
                clear hW0
                go_upto_region 21 with fail
                cases ho : openJ (xs, ys) with
                | none =>
                  refine wp_region_tree (fun w' => w'.heap[p]? = some (.cells #[.pointer (some ⟨gl, 0, none⟩), .pointer (some ⟨gm, 0, none⟩)] 29 (0, 0)) ∧ w'.heap[w.heap.size]? = some (.cells #[.int .i64 7, .slice A rec.length c, .slice B recs.length d, .int .i64 n] 54 (0, 0))) 15
                    (.take 0 (.take 1 (.take 2 (.take 3 (.take 4 (.take 5 (.one 6 (.one 7 (.take 8 (.take 9 (.take 10 (.take 11 (.take 12 (.take 13 (.take 14 .tail))))))))))))))) (by kernel_rfl) (by kernel_rfl) ⟨hp0, hb0⟩ ?_
                  iterate 6 (refine pt_take (v := ?_) (by rfl) (by first | rfl | kernel_rfl) (fun w' hS => ?_) ?_; rotate_left 1; (have s0 : w'.cell? ⟨p, 0, none⟩ = some (.pointer (some ⟨gl, 0, none⟩)) := cell_of_heap hS.1; have s1 : w'.cell? ⟨p, 1, none⟩ = some (.pointer (some ⟨gm, 0, none⟩)) := cell_of_heap hS.1; have t0 : w'.cell? ⟨w.heap.size, 0, none⟩ = some (.int .i64 7) := cell_of_heap hS.2; have t1 : w'.cell? ⟨w.heap.size, 1, none⟩ = some (.slice A rec.length c) := cell_of_heap hS.2; have t2 : w'.cell? ⟨w.heap.size, 2, none⟩ = some (.slice B recs.length d) := cell_of_heap hS.2; have t3 : w'.cell? ⟨w.heap.size, 3, none⟩ = some (.int .i64 n) := cell_of_heap hS.2; clear hS; go_simp <;> (try with_reducible rfl)); (simp only [Act.put, List.setIfInBounds_toArray, List.set_cons_zero, List.set_cons_succ]))
                  refine pt_one (by rfl) (loudly_of (by first | rfl | kernel_rfl) (fun K hK => ?_))
                  go_wp2_with (go_at_call 25; refine (hcl W0.drew kd).mono ?_)
                  rintro e w1 ⟨vA6, vB6, rfl, hA6, hB6, _, k1⟩
                  obtain ⟨A6, c6, rfl, hca6, _⟩ := hA6.slice
                  obtain ⟨B6, d6, rfl, hcb6, _⟩ := hB6.slice
                  simp only at hA6 hB6 hca6 hcb6
                  have K1 : Old W0 w1 := kd.trans' k1
                  have hop := lopen_any w1 _ A6 B6 _ _ c6 d6 xs ys hA6.bts (hB6.bts) rfl rfl hca6 hcb6 (hT0.keep (K1.old (fun _ => True)) trivial)
                  rw [ho] at hop
                  refine hK _ _ ⟨(K1).heap hp0 trivial, (K1).heap hb0 trivial⟩ ?_
                  clear hK K
                  refine pt_one (by rfl) (loudly_of (by first | rfl | kernel_rfl) (fun K hK => ?_))
                  go_wp2_with (go_at_call 32; refine hop.mono ?_)
                  rintro e w2 ⟨rfl, k2⟩
                  have K2 := K1.trans' k2
                  clear hop
                  refine hK _ _ ⟨(K2).heap hp0 trivial, (K2).heap hb0 trivial⟩ ?_
                  clear hK K
                  iterate 7 (refine pt_take (v := ?_) (by rfl) (by first | rfl | kernel_rfl) (fun w' hS => ?_) ?_; rotate_left 1; (have s0 : w'.cell? ⟨p, 0, none⟩ = some (.pointer (some ⟨gl, 0, none⟩)) := cell_of_heap hS.1; have s1 : w'.cell? ⟨p, 1, none⟩ = some (.pointer (some ⟨gm, 0, none⟩)) := cell_of_heap hS.1; have t0 : w'.cell? ⟨w.heap.size, 0, none⟩ = some (.int .i64 7) := cell_of_heap hS.2; have t1 : w'.cell? ⟨w.heap.size, 1, none⟩ = some (.slice A rec.length c) := cell_of_heap hS.2; have t2 : w'.cell? ⟨w.heap.size, 2, none⟩ = some (.slice B recs.length d) := cell_of_heap hS.2; have t3 : w'.cell? ⟨w.heap.size, 3, none⟩ = some (.int .i64 n) := cell_of_heap hS.2; clear hS; go_simp <;> (try with_reducible rfl)); (simp only [Act.put, List.setIfInBounds_toArray, List.set_cons_zero, List.set_cons_succ]))
                  refine pt_tail (by rfl) ?_
                  go_wp2
                  refine NoPanic.normal ?_
                  go_upto_region 22 with fail
                  have kd2 : Old w2 w2.drew := (Keeps.refl _ _).drew
                  refine wp_region_tree (fun w' => w'.heap[p]? = some (.cells #[.pointer (some ⟨gl, 0, none⟩), .pointer (some ⟨gm, 0, none⟩)] 29 (0, 0)) ∧ w'.heap[w.heap.size]? = some (.cells #[.int .i64 7, .slice A rec.length c, .slice B recs.length d, .int .i64 n] 54 (0, 0))) 15
                    (.take 0 (.take 1 (.take 2 (.take 3 (.take 4 (.take 5 (.one 6 (.one 7 (.take 8 (.take 9 (.take 10 (.take 11 (.take 12 (.take 13 (.take 14 .tail))))))))))))))) (by kernel_rfl) (by kernel_rfl) ⟨K2.heap hp0 trivial, K2.heap hb0 trivial⟩ ?_
                  iterate 6 (refine pt_take (v := ?_) (by rfl) (by first | rfl | kernel_rfl) (fun w' hS => ?_) ?_; rotate_left 1; (have s0 : w'.cell? ⟨p, 0, none⟩ = some (.pointer (some ⟨gl, 0, none⟩)) := cell_of_heap hS.1; have s1 : w'.cell? ⟨p, 1, none⟩ = some (.pointer (some ⟨gm, 0, none⟩)) := cell_of_heap hS.1; have t0 : w'.cell? ⟨w.heap.size, 0, none⟩ = some (.int .i64 7) := cell_of_heap hS.2; have t1 : w'.cell? ⟨w.heap.size, 1, none⟩ = some (.slice A rec.length c) := cell_of_heap hS.2; have t2 : w'.cell? ⟨w.heap.size, 2, none⟩ = some (.slice B recs.length d) := cell_of_heap hS.2; have t3 : w'.cell? ⟨w.heap.size, 3, none⟩ = some (.int .i64 n) := cell_of_heap hS.2; clear hS; go_simp <;> (try with_reducible rfl)); (simp only [Act.put, List.setIfInBounds_toArray, List.set_cons_zero, List.set_cons_succ]))
                  refine pt_one (by rfl) (loudly_of (by first | rfl | kernel_rfl) (fun K hK => ?_))
                  go_wp2_with (go_at_call 26; refine (hcr w2.drew (K2.trans' kd2)).mono ?_)
                  rintro e w5 ⟨vA7, vB7, rfl, hA7, hB7, _, k5⟩
                  replace k5 : Old w2 w5 := kd2.trans' k5
                  obtain ⟨A7, c7, rfl, hca7, _⟩ := hA7.slice
                  obtain ⟨B7, d7, rfl, hcb7, _⟩ := hB7.slice
                  simp only at hA7 hB7 hca7 hcb7
                  have K5 := K2.trans' k5
                  have hop := ropen_any w5 _ A7 B7 _ _ c7 d7 xs ys hA7.bts (hB7.bts) rfl rfl hca7 hcb7
                  rw [ho] at hop
                  refine hK _ _ ⟨(K5).heap hp0 trivial, (K5).heap hb0 trivial⟩ ?_
                  clear hK K
                  refine pt_one (by rfl) (loudly_of (by first | rfl | kernel_rfl) (fun K hK => ?_))
                  go_wp2_with (go_at_call 47; refine hop.mono ?_)
                  rintro e w6 ⟨rfl, k6⟩
                  have K6 := K5.trans' k6
                  clear hop
                  refine hK _ _ ⟨(K6).heap hp0 trivial, (K6).heap hb0 trivial⟩ ?_
                  clear hK K
                  iterate 7 (refine pt_take (v := ?_) (by rfl) (by first | rfl | kernel_rfl) (fun w' hS => ?_) ?_; rotate_left 1; (have s0 : w'.cell? ⟨p, 0, none⟩ = some (.pointer (some ⟨gl, 0, none⟩)) := cell_of_heap hS.1; have s1 : w'.cell? ⟨p, 1, none⟩ = some (.pointer (some ⟨gm, 0, none⟩)) := cell_of_heap hS.1; have t0 : w'.cell? ⟨w.heap.size, 0, none⟩ = some (.int .i64 7) := cell_of_heap hS.2; have t1 : w'.cell? ⟨w.heap.size, 1, none⟩ = some (.slice A rec.length c) := cell_of_heap hS.2; have t2 : w'.cell? ⟨w.heap.size, 2, none⟩ = some (.slice B recs.length d) := cell_of_heap hS.2; have t3 : w'.cell? ⟨w.heap.size, 3, none⟩ = some (.int .i64 n) := cell_of_heap hS.2; clear hS; go_simp <;> (try with_reducible rfl)); (simp only [Act.put, List.setIfInBounds_toArray, List.set_cons_zero, List.set_cons_succ]))
                  refine pt_tail (by rfl) ?_
                  have hp2 := K6.heap hp0 trivial
                  have e0 : w6.cell? ⟨p, 0, none⟩ = some (.pointer (some ⟨gl, 0, none⟩)) := cell_of_heap hp2
                  have e1 : w6.cell? ⟨p, 1, none⟩ = some (.pointer (some ⟨gm, 0, none⟩)) := cell_of_heap hp2
                  have ef : ∀ i, w6.frozen? ⟨p, i, none⟩ = false := fun i => frozen_of_heap hp2
                  obtain ⟨W3, hW3⟩ : ∃ W, W = (w6.setCell ⟨p, 0, none⟩ (.pointer none)).setCell ⟨p, 1, none⟩ (.pointer none) := ⟨_, rfl⟩
                  have hp3 : W3.heap[p]? = some (.cells #[.pointer none, .pointer none] 29 (0, 0)) := by
                    rw [hW3, heap_setCell (heap_setCell hp2 _)]
                    rfl
                  have k3 : Keeps (· ≠ p) w6 W3 := by rw [hW3]; exact ((Keeps.refl _ _).setCell (fun _ h => h rfl) _).setCell (fun _ h => h rfl) _
                  have hls := lists_any W3 S S none none 0 0 [] [] (Rcs.nil _ _ _) (Rcs.nil _ _ _)
                  rw [decide_eq_true (show ([] : List (List UInt8)) = [] from rfl)] at hls
                  go_wp2
                  refine NoPanic.normal ?_
                  go_upto_region 25 with fail
                  rw [← hW3]
                  clear hW3
                  go_wp2_with fail
                  refine hls.mono ?_
                  rintro e w7 ⟨rfl, nd, hw7⟩
                  have k7 : Old W3 w7 := by rw [← hw7]; exact (Keeps.refl _ _).drewN _
                  clear hw7 hls
                  have hp7 := k7.heap hp3 trivial
                  go_wp2
                  go_ret
                  exact ⟨rfl, (· = p), none, ⟨rfl, fun k hk => by rw [hk]; exact lt_of_heap hp7, hp7⟩, fun k hk => .inl (by rw [hk]; exact hHp), (((k0.trans' K6).old _).trans k3 fun k _ hk e => hk (by rw [e]; exact hHp)).trans' (k7.old _), Nat.zero_le _⟩
                | some jr =>
                  obtain ⟨j2, recs2⟩ := jr
                  have hcnt := open_count ho
                  have hws2 := (open_down ho).2
                  refine wp_region_tree (fun w' => w'.heap[p]? = some (.cells #[.pointer (some ⟨gl, 0, none⟩), .pointer (some ⟨gm, 0, none⟩)] 29 (0, 0)) ∧ w'.heap[w.heap.size]? = some (.cells #[.int .i64 7, .slice A rec.length c, .slice B recs.length d, .int .i64 n] 54 (0, 0))) 15
                    (.take 0 (.take 1 (.take 2 (.take 3 (.take 4 (.take 5 (.one 6 (.one 7 (.take 8 (.take 9 (.take 10 (.take 11 (.take 12 (.take 13 (.take 14 .tail))))))))))))))) (by kernel_rfl) (by kernel_rfl) ⟨hp0, hb0⟩ ?_
                  iterate 6 (refine pt_take (v := ?_) (by rfl) (by first | rfl | kernel_rfl) (fun w' hS => ?_) ?_; rotate_left 1; (have s0 : w'.cell? ⟨p, 0, none⟩ = some (.pointer (some ⟨gl, 0, none⟩)) := cell_of_heap hS.1; have s1 : w'.cell? ⟨p, 1, none⟩ = some (.pointer (some ⟨gm, 0, none⟩)) := cell_of_heap hS.1; have t0 : w'.cell? ⟨w.heap.size, 0, none⟩ = some (.int .i64 7) := cell_of_heap hS.2; have t1 : w'.cell? ⟨w.heap.size, 1, none⟩ = some (.slice A rec.length c) := cell_of_heap hS.2; have t2 : w'.cell? ⟨w.heap.size, 2, none⟩ = some (.slice B recs.length d) := cell_of_heap hS.2; have t3 : w'.cell? ⟨w.heap.size, 3, none⟩ = some (.int .i64 n) := cell_of_heap hS.2; clear hS; go_simp <;> (try with_reducible rfl)); (simp only [Act.put, List.setIfInBounds_toArray, List.set_cons_zero, List.set_cons_succ]))
                  refine pt_one (by rfl) (loudly_of (by first | rfl | kernel_rfl) (fun K hK => ?_))
                  go_wp2_with (go_at_call 25; refine (hcl W0.drew kd).mono ?_)
                  rintro e w1 ⟨vA6, vB6, rfl, hA6, hB6, _, k1⟩
                  obtain ⟨A6, c6, rfl, hca6, _⟩ := hA6.slice
                  obtain ⟨B6, d6, rfl, hcb6, _⟩ := hB6.slice
                  simp only at hA6 hB6 hca6 hcb6
                  have K1 : Old W0 w1 := kd.trans' k1
                  have hop := lopen_any w1 _ A6 B6 _ _ c6 d6 xs ys hA6.bts (hB6.bts) rfl rfl hca6 hcb6 (hT0.keep (K1.old (fun _ => True)) trivial)
                  rw [ho] at hop
                  refine hK _ _ ⟨(K1).heap hp0 trivial, (K1).heap hb0 trivial⟩ ?_
                  clear hK K
                  refine pt_one (by rfl) (loudly_of (by first | rfl | kernel_rfl) (fun K hK => ?_))
                  go_wp2_with (go_at_call 32; refine hop.mono ?_)
                  rintro e w2 ⟨F3, gl3, vA3, vB3, vP3, q3, L3, ql3, rfl, hL3, hF3, hql3, hoL3, k2⟩
                  have K2 := K1.trans' k2
                  obtain ⟨AL, cL, hLs, _, hRL⟩ := hoL3.rcs (by rw [← List.length_map (f := (·.1)), hql3]; omega)
                  rw [hql3] at hRL
                  have hqlen : ql3.length = recs2.length := by rw [← hql3]; simp
                  rw [hqlen] at hLs
                  subst hLs
                  clear hql3 hqlen hoL3
                  clear hop
                  refine hK _ _ ⟨(K2).heap hp0 trivial, (K2).heap hb0 trivial⟩ ?_
                  clear hK K
                  iterate 7 (refine pt_take (v := ?_) (by rfl) (by first | rfl | kernel_rfl) (fun w' hS => ?_) ?_; rotate_left 1; (have s0 : w'.cell? ⟨p, 0, none⟩ = some (.pointer (some ⟨gl, 0, none⟩)) := cell_of_heap hS.1; have s1 : w'.cell? ⟨p, 1, none⟩ = some (.pointer (some ⟨gm, 0, none⟩)) := cell_of_heap hS.1; have t0 : w'.cell? ⟨w.heap.size, 0, none⟩ = some (.int .i64 7) := cell_of_heap hS.2; have t1 : w'.cell? ⟨w.heap.size, 1, none⟩ = some (.slice A rec.length c) := cell_of_heap hS.2; have t2 : w'.cell? ⟨w.heap.size, 2, none⟩ = some (.slice B recs.length d) := cell_of_heap hS.2; have t3 : w'.cell? ⟨w.heap.size, 3, none⟩ = some (.int .i64 n) := cell_of_heap hS.2; clear hS; go_simp <;> (try with_reducible rfl)); (simp only [Act.put, List.setIfInBounds_toArray, List.set_cons_zero, List.set_cons_succ]))
                  refine pt_tail (by rfl) ?_
                  go_wp2
                  refine NoPanic.normal ?_
                  go_upto_region 22 with fail
                  have kd2 : Old w2 w2.drew := (Keeps.refl _ _).drew
                  refine wp_region_tree (fun w' => w'.heap[p]? = some (.cells #[.pointer (some ⟨gl, 0, none⟩), .pointer (some ⟨gm, 0, none⟩)] 29 (0, 0)) ∧ w'.heap[w.heap.size]? = some (.cells #[.int .i64 7, .slice A rec.length c, .slice B recs.length d, .int .i64 n] 54 (0, 0))) 15
                    (.take 0 (.take 1 (.take 2 (.take 3 (.take 4 (.take 5 (.one 6 (.one 7 (.take 8 (.take 9 (.take 10 (.take 11 (.take 12 (.take 13 (.take 14 .tail))))))))))))))) (by kernel_rfl) (by kernel_rfl) ⟨K2.heap hp0 trivial, K2.heap hb0 trivial⟩ ?_
                  iterate 6 (refine pt_take (v := ?_) (by rfl) (by first | rfl | kernel_rfl) (fun w' hS => ?_) ?_; rotate_left 1; (have s0 : w'.cell? ⟨p, 0, none⟩ = some (.pointer (some ⟨gl, 0, none⟩)) := cell_of_heap hS.1; have s1 : w'.cell? ⟨p, 1, none⟩ = some (.pointer (some ⟨gm, 0, none⟩)) := cell_of_heap hS.1; have t0 : w'.cell? ⟨w.heap.size, 0, none⟩ = some (.int .i64 7) := cell_of_heap hS.2; have t1 : w'.cell? ⟨w.heap.size, 1, none⟩ = some (.slice A rec.length c) := cell_of_heap hS.2; have t2 : w'.cell? ⟨w.heap.size, 2, none⟩ = some (.slice B recs.length d) := cell_of_heap hS.2; have t3 : w'.cell? ⟨w.heap.size, 3, none⟩ = some (.int .i64 n) := cell_of_heap hS.2; clear hS; go_simp <;> (try with_reducible rfl)); (simp only [Act.put, List.setIfInBounds_toArray, List.set_cons_zero, List.set_cons_succ]))
                  refine pt_one (by rfl) (loudly_of (by first | rfl | kernel_rfl) (fun K hK => ?_))
                  go_wp2_with (go_at_call 26; refine (hcr w2.drew (K2.trans' kd2)).mono ?_)
                  rintro e w5 ⟨vA7, vB7, rfl, hA7, hB7, _, k5⟩
                  replace k5 : Old w2 w5 := kd2.trans' k5
                  obtain ⟨A7, c7, rfl, hca7, _⟩ := hA7.slice
                  obtain ⟨B7, d7, rfl, hcb7, _⟩ := hB7.slice
                  simp only at hA7 hB7 hca7 hcb7
                  have K5 := K2.trans' k5
                  have hop := ropen_any w5 _ A7 B7 _ _ c7 d7 xs ys hA7.bts (hB7.bts) rfl rfl hca7 hcb7
                  rw [ho] at hop
                  refine hK _ _ ⟨(K5).heap hp0 trivial, (K5).heap hb0 trivial⟩ ?_
                  clear hK K
                  refine pt_one (by rfl) (loudly_of (by first | rfl | kernel_rfl) (fun K hK => ?_))
                  go_wp2_with (go_at_call 47; refine hop.mono ?_)
                  rintro e w6 ⟨G3, gm3, vA4, vB4, vP4, q4, M3, qm3, rfl, hR3, hG3, hqm3, hoM3, k6⟩
                  have K6 := K5.trans' k6
                  obtain ⟨AM, cM, hMs, _, hRM⟩ := hoM3.rcs (by rw [← List.length_map (f := (·.1)), hqm3]; omega)
                  rw [hqm3] at hRM
                  have hqlem : qm3.length = recs2.length := by rw [← hqm3]; simp
                  rw [hqlem] at hMs
                  subst hMs
                  clear hqm3 hqlem hoM3
                  clear hop
                  refine hK _ _ ⟨(K6).heap hp0 trivial, (K6).heap hb0 trivial⟩ ?_
                  clear hK K
                  iterate 7 (refine pt_take (v := ?_) (by rfl) (by first | rfl | kernel_rfl) (fun w' hS => ?_) ?_; rotate_left 1; (have s0 : w'.cell? ⟨p, 0, none⟩ = some (.pointer (some ⟨gl, 0, none⟩)) := cell_of_heap hS.1; have s1 : w'.cell? ⟨p, 1, none⟩ = some (.pointer (some ⟨gm, 0, none⟩)) := cell_of_heap hS.1; have t0 : w'.cell? ⟨w.heap.size, 0, none⟩ = some (.int .i64 7) := cell_of_heap hS.2; have t1 : w'.cell? ⟨w.heap.size, 1, none⟩ = some (.slice A rec.length c) := cell_of_heap hS.2; have t2 : w'.cell? ⟨w.heap.size, 2, none⟩ = some (.slice B recs.length d) := cell_of_heap hS.2; have t3 : w'.cell? ⟨w.heap.size, 3, none⟩ = some (.int .i64 n) := cell_of_heap hS.2; clear hS; go_simp <;> (try with_reducible rfl)); (simp only [Act.put, List.setIfInBounds_toArray, List.set_cons_zero, List.set_cons_succ]))
                  refine pt_tail (by rfl) ?_
                  have hp2 := K6.heap hp0 trivial
                  have e0 : w6.cell? ⟨p, 0, none⟩ = some (.pointer (some ⟨gl, 0, none⟩)) := cell_of_heap hp2
                  have e1 : w6.cell? ⟨p, 1, none⟩ = some (.pointer (some ⟨gm, 0, none⟩)) := cell_of_heap hp2
                  have ef : ∀ i, w6.frozen? ⟨p, i, none⟩ = false := fun i => frozen_of_heap hp2
                  obtain ⟨W3, hW3⟩ : ∃ W, W = (w6.setCell ⟨p, 0, none⟩ (.pointer (some ⟨gl3, 0, none⟩))).setCell ⟨p, 1, none⟩ (.pointer (some ⟨gm3, 0, none⟩)) := ⟨_, rfl⟩
                  have hp3 : W3.heap[p]? = some (.cells #[.pointer (some ⟨gl3, 0, none⟩), .pointer (some ⟨gm3, 0, none⟩)] 29 (0, 0)) := by
                    rw [hW3, heap_setCell (heap_setCell hp2 _)]
                    rfl
                  have k3 : Keeps (· ≠ p) w6 W3 := by rw [hW3]; exact ((Keeps.refl _ _).setCell (fun _ h => h rfl) _).setCell (fun _ h => h rfl) _
                  have zp : p < W0.heap.size := by omega
                  have zd : W0.drew.heap.size = W0.heap.size := rfl
                  have z1 := k1.size
                  have z2 := k2.size
                  have z5 := k5.size
                  have z6 := k6.size
                  have hls := lists_any W3 (fun k => w1.heap.size ≤ k) (fun k => w5.heap.size ≤ k) AL AM cL cM recs2 recs2 ((hRL.keep ((k5.trans' k6).old _)).keep (k3.mono fun k _ h => by have := h.1; show k ≠ p; omega) |>.mono fun k _ h => h.1) (hRM.keep (k3.mono fun k _ h => by have := h.1; show k ≠ p; omega) |>.mono fun k _ h => h.1)
                  rw [decide_eq_true (show recs2 = recs2 from rfl)] at hls
                  clear hRL hRM
                  go_wp2
                  refine NoPanic.normal ?_
                  go_upto_region 25 with fail
                  rw [← hW3]
                  clear hW3
                  go_wp2_with fail
                  refine hls.mono ?_
                  rintro e w7 ⟨rfl, nd, hw7⟩
                  have k7 : Old W3 w7 := by rw [← hw7]; exact (Keeps.refl _ _).drewN _
                  clear hw7 hls
                  have hp7 := k7.heap hp3 trivial
                  have k37 := k3.trans' (k7.old _)
                  have hL7 := (hL3.keep ((k5.trans' k6).old _)).keep (k37.mono fun k _ h => by have := hF3 k h; show k ≠ p; omega)
                  have hR7 := hR3.keep (k37.mono fun k _ h => by have := hG3 k h; show k ≠ p; omega)
                  go_wp2
                  go_ret
                  refine ⟨rfl, fun k => k = p ∨ F3 k ∨ G3 k, some j2, ⟨.inl rfl, fun k hk => ?_, F3, G3, gl3, gm3, vA3, vB3, vP3, q3, vA4, vB4, vP4, q4, hp7, hL7, hR7, fun k h1 h2 => ?_, fun k h => ⟨.inr (.inl h), by have := hF3 k h; omega⟩, fun k h => ⟨.inr (.inr h), by have := hG3 k h; omega⟩⟩, fun k hk => ?_, (((k0.trans' K6).old _).trans k37 fun k _ hk e => hk (by rw [e]; exact hHp)), by show j2.ws.length ≤ j.ws.length + 1; omega⟩
                  · rcases hk with rfl | hk | hk
                    · exact lt_of_heap hp7
                    · exact hL7.lt k hk
                    · exact hR7.lt k hk
                  · have := hL3.lt k h1; have := hG3 k h2; omega
                  · rcases hk with hk | hk | hk
                    · exact .inl (by rw [hk]; exact hHp)
                    · have := hF3 k hk; right; omega
                    · have := hG3 k hk; right; omega
              · have b7 : (kind == 7) = false := beq_eq_false_iff_ne.2 h7
                go_enter Tryd.func36, Tryd.ntmps36
                go_upto_region 1 with fail
                rw [← hW0]
                clear hW0
                go_wp2
                go_ret
                exact SP.out _ (Keeps.refl _ _)
end Go.Proofs.YtdpaaoeipconcaaDoor
