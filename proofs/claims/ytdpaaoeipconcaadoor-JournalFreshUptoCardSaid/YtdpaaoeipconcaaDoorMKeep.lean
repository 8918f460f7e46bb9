/- weftlaw12.Book: pat, far, roomy. Conditions: the bytes can be read; the numbers are small. weftlaw12.Book: what it holds in memory; keep. Conditions: the book lies; the list begins a block that nobody else has. weftlaw12.Book.keep. Conditions: the book lies; the list begins a block that nobody else has. weftlaw12.Book.keep of an empty list that is nil; of any list that begins a block. Conditions: the book lies. weftlaw12.Book.whole: every list holds its mark. Conditions: the book lies. weftlaw12.Book.keepAll: records that came back: each is kept, then the list of them. Conditions: the book lies; the records and their list are nobody else's. weftlaw12.Book seen from outside: what its steps leave alone. Conditions: the book lies, apart from what is reserved. -/
import Derived.Test.YtdpaaoeipconcaaDoorMUtil
import Derived.Test.YtdpaaoeipconcaaDoorJPlays
namespace Go.Proofs.YtdpaaoeipconcaaDoor
open Go.RowKit

/-- the byte of a mark at a place -/
def patB (m i : Nat) : UInt8 := UInt8.ofNat (m / 2 ^ (8 * (i % 3)))
def pats (m n : Nat) : List UInt8 := (List.range n).map (patB m)
theorem pats_length (m n : Nat) : (pats m n).length = n := by simp [pats]
theorem pats_succ (m n : Nat) : pats m (n + 1) = pats m n ++ [patB m n] := by simp [pats, List.range_succ]
theorem pats_get (m n : Nat) {i : Nat} (h : i < n) : (pats m n)[i]? = some (patB m i) := by simp [pats, h]
theorem pats_take (m : Nat) {a b : Nat} (h : b ≤ a) : (pats m a).take b = pats m b := by
  unfold pats
  rw [← List.map_take, List.take_range, Nat.min_eq_left h]

theorem ofNat_bv (x : Nat) : bv (UInt8.ofNat x) = .int .u8 ((x % 256 : Nat) : Int) := by
  show Value.int .u8 (((UInt8.ofNat x).toNat : Nat) : Int) = _
  rw [UInt8.toNat_ofNat']

set_option maxHeartbeats 1000000 in
theorem pat_any (w : World) (m i : Nat) (hm : m ≤ 4611686018427387904) (hi : i ≤ 4611686018427387904) : Calls Tryd.prog 70 #[.int .i64 (m : Int), .int .i64 (i : Int)] w fun e w' => e = .returned (bv (patB m i)) ∧ w = w' := by
  have hr : i % 3 < 3 := Nat.mod_lt _ (by omega)
  have h0 : (0 : Int) ≤ (i : Int) := by omega
  have h1 : (0 : Int) ≤ (m : Int) := by omega
  have e1 : (i : Int) % 3 = ((i % 3 : Nat) : Int) := by omega
  have e2 : (i : Int).tmod 3 = ((i % 3 : Nat) : Int) := by rw [Int.tmod_eq_emod_of_nonneg h0]; omega
  rcases (show i % 3 = 0 ∨ i % 3 = 1 ∨ i % 3 = 2 by omega) with h | h | h <;> rw [h] at e1 e2
  · have hv : bv (patB m i) = .int .u8 ((m : Int) % 256) := by
      unfold patB
      rw [h, ofNat_bv, show m / 2 ^ (8 * 0) = m by simp, Int.natCast_emod]
      rfl
    rw [hv]
    clear hv
    go_enter Tryd.func70, Tryd.ntmps70
    go_wp2
    go_ret
    exact ⟨rfl, rfl⟩
  · have hv : bv (patB m i) = .int .u8 ((m : Int) / 256 % 256) := by
      unfold patB
      rw [h, ofNat_bv, show (2 : Nat) ^ (8 * 1) = 256 by decide, Int.natCast_emod, Int.natCast_ediv]
      rfl
    rw [hv]
    clear hv
    go_enter Tryd.func70, Tryd.ntmps70
    go_wp2
    go_ret
    exact ⟨rfl, rfl⟩
  · have hv : bv (patB m i) = .int .u8 ((m : Int) / 65536 % 256) := by
      unfold patB
      rw [h, ofNat_bv, show (2 : Nat) ^ (8 * 2) = 65536 by decide, Int.natCast_emod, Int.natCast_ediv]
      rfl
    rw [hv]
    clear hv
    go_enter Tryd.func70, Tryd.ntmps70
    go_wp2
    go_ret
    exact ⟨rfl, rfl⟩

set_option maxHeartbeats 1000000 in
theorem far_any (w : World) (r : Int) (h0 : -9223372036854775808 ≤ r) (h1 : r ≤ 9223372036854775807) : Calls Tryd.prog 71 #[.int .i64 r] w fun e w' => e = .returned (.int .i64 (min r 70000)) ∧ w = w' := by
  by_cases h : r ≤ 70000
  · have hm : min r 70000 = r := by omega
    rw [hm]
    clear hm
    go_enter Tryd.func71, Tryd.ntmps71
    go_wp2
    go_ret
    exact ⟨rfl, rfl⟩
  · have hm : min r 70000 = 70000 := by omega
    have h' : 70000 < r := by omega
    rw [hm]
    clear hm h
    go_enter Tryd.func71, Tryd.ntmps71
    go_wp2
    go_ret
    exact ⟨rfl, rfl⟩

/-! ### bytes with spare room behind them -/

def spareB : List UInt8 := (List.range 64).map fun j => UInt8.ofNat (137 + j)
def roomyB (bs : List UInt8) : List UInt8 := bs ++ spareB
theorem roomyB_length (bs : List UInt8) : (roomyB bs).length = bs.length + 64 := by simp [roomyB, spareB]
theorem roomyB_take (bs : List UInt8) : (roomyB bs).take bs.length = bs := by simp [roomyB]

/-- Bytes in a new block of their own, all of it. -/
def PostRoom (w : World) (bs : List UInt8) (e : Ending) (w' : World) : Prop := e = .returned (.slice (some ⟨w.heap.size, 0, none⟩) (bs.length + 64) (bs.length + 64)) ∧ Row1 w' 5 w.heap.size (bs.length + 64) ((roomyB bs).map bv) ∧ Old w w'

theorem row_made {w : World} {N : Nat} : Row1 (w.alloc (.cells (madeCells #[.int .u8 0] N) 5)) 5 w.heap.size N [] := ⟨_, heap_alloc_new _ _, by simp [madeCells], by simp, by simp⟩

set_option maxHeartbeats 2000000 in
theorem roomy_any (w : World) (S : Nat → Prop) (A : Option Addr) (c : Nat) (bs : List UInt8) (ha : Bts S w A bs) (hl : bs.length ≤ 100000000000) : Calls Tryd.prog 46 #[.slice A bs.length c] w (PostRoom w bs) := by
  obtain ⟨i5, hi, hz0, hz1, hz2⟩ := info_parts info5
  obtain ⟨N, hN⟩ : ∃ N, N = bs.length + 64 := ⟨_, rfl⟩
  have hmk := run_make (P := Tryd.prog) w 22 5 i5 (.int .u8 0) Tryd.underlying22 hi hz0 .i64 .i64 (N : Int) (N : Int) (by omega) (by omega) (by rw [hz2]; omega) (by omega)
  simp only [hz1, Nat.mul_one, Int.toNat_natCast, show (Value.int .u8 0).cells = #[.int .u8 0] from rfl] at hmk
  have b1 : IntKind.i64.wrap ((bs.length : Int) + 64) = (N : Int) := by rw [IntKind.wrap_i64]; omega
  have hrl := roomyB_length bs
  unfold PostRoom
  rw [← hN] at hrl ⊢
  have HN := hid hN
  have HRL := hid hrl
  clear hN hi hz0 hz1 hz2 hrl
  have hnl : bs.length < N := by have := HN.out; omega
  have hnm : N ≤ 100000000064 := by have := HN.out; omega
  go_enter Tryd.func46, Tryd.ntmps46
  obtain ⟨W0, hW0⟩ : ∃ W, W = w.alloc (.cells (madeCells #[.int .u8 0] N) 5) := ⟨_, rfl⟩
  have k0 : Old w W0 := by rw [hW0]; exact (Keeps.refl _ _).alloc _
  have hr0 : Row1 W0 5 w.heap.size N [] := by rw [hW0]; exact row_made
  have HS := hid hr0
  have HK := hid k0
  go_upto_region 3 with fail
  rw [← hW0]
  clear hW0 hmk k0 hr0
  go_wp2
  go_loopw [5] (fun i wr => ∃ k : Nat, i = .int .i64 k ∧ k ≤ N ∧ Hid (Row1 wr 5 w.heap.size N (((roomyB bs).take k).map bv)) ∧ Hid (Old w wr)) (fun i _ => N - (intOf i).toNat)
  case atStart => exact ⟨0, rfl, Nat.zero_le _, HS, HK⟩
  case round =>
    clear HS HK
    obtain ⟨k, rfl, hk, hrow, hold⟩ := hrel
    have i0 : (0 : Int) ≤ (k : Int) := by omega
    by_cases hlt : k < N
    · have hlen : (((roomyB bs).take k).map bv).length = k := by rw [List.length_map, List.length_take, HRL.out]; omega
      obtain ⟨u, hu⟩ := hrow.out.some_ hlt
      have hf := hrow.out.frozen
      have hpush := fun v => hrow.out.push (by rw [hlen]; exact hlt) v
      rw [hlen] at hpush
      have hkr : k < (roomyB bs).length := by rw [HRL.out]; exact hlt
      have hnx : ((roomyB bs).take k).map bv ++ [bv (roomyB bs)[k]] = ((roomyB bs).take (k + 1)).map bv := by rw [List.take_succ_eq_append_getElem hkr, List.map_append]; rfl
      have i1 : (k : Int) < (N : Int) := by omega
      have hk2 : Keeps (· ≠ w.heap.size) wr wr := Keeps.refl _ _
      by_cases hb : k < bs.length
      · have i2 : (k : Int) < (bs.length : Int) := by omega
        obtain ⟨b, o, rfl, _, h0⟩ := (ha.keep (hold.out.old _)).at_ hb
        have hgk : (roomyB bs)[k] = bs[k] := by
          have h1 : (roomyB bs)[k]? = some bs[k] := by unfold roomyB; rw [List.getElem?_append_left hb]; exact List.getElem?_eq_getElem hb
          rw [List.getElem?_eq_getElem hkr] at h1
          exact Option.some.inj h1
        have hst := hpush (bv (roomyB bs)[k])
        rw [hnx, hgk] at hst
        have HR := hid hst
        have HK := hid (hold.out.trans (hk2.setCell (p := ⟨w.heap.size, k, none⟩) (fun _ h => h rfl) (bv bs[k])) fun k' hk' _ => by show k' ≠ _; omega)
        clear hst hnx hpush hlen hgk hk2
        generalize bs[k] = x at *
        go_wp2
        exact ⟨⟨k + 1, by go_num, by omega, HR, HK⟩, by simp [intOf]; omega⟩
      · have i2 : ¬ (k : Int) < (bs.length : Int) := by omega
        have hgk : bv (roomyB bs)[k] = .int .u8 (IntKind.u8.wrap (137 + (k : Int) - (bs.length : Int))) := by
          have hl : k - bs.length < 64 := by have := HN.out; omega
          have e : (roomyB bs)[k] = UInt8.ofNat (137 + (k - bs.length)) := by
            have h1 : (roomyB bs)[k]? = some (UInt8.ofNat (137 + (k - bs.length))) := by unfold roomyB; rw [List.getElem?_append_right (by omega)]; simp [spareB, hl]
            rw [List.getElem?_eq_getElem hkr] at h1
            exact Option.some.inj h1
          rw [e, ofNat_bv, IntKind.wrap_u8]
          congr 1
          omega
        have b2 : IntKind.i64.wrap (137 + (k : Int)) = 137 + (k : Int) := by rw [IntKind.wrap_i64]; omega
        have b3 : IntKind.i64.wrap (137 + (k : Int) - (bs.length : Int)) = 137 + (k : Int) - (bs.length : Int) := by rw [IntKind.wrap_i64]; omega
        have hst := hpush (bv (roomyB bs)[k])
        rw [hnx, hgk] at hst
        have HR := hid hst
        have HK := hid (hold.out.trans (hk2.setCell (p := ⟨w.heap.size, k, none⟩) (fun _ h => h rfl) (.int .u8 (IntKind.u8.wrap (137 + (k : Int) - (bs.length : Int))))) fun k' hk' _ => by show k' ≠ _; omega)
        clear hst hnx hpush hlen hgk hk2
        generalize hx : IntKind.u8.wrap (137 + (k : Int) - (bs.length : Int)) = x at *
        go_wp2
        exact ⟨⟨k + 1, by go_num, by omega, HR, HK⟩, by simp [intOf]; omega⟩
    · obtain rfl : k = N := by omega
      have h := hrow.out
      rw [List.take_of_length_le (by rw [HRL.out]; exact Nat.le_refl _)] at h
      have HR := hid h
      clear h
      go_wp2
      go_ret
      exact ⟨rfl, HR.out, hold.out⟩
end Go.Proofs.YtdpaaoeipconcaaDoor

namespace Go.Proofs.YtdpaaoeipconcaaDoor
open Go.RowKit

/-- A list that holds its mark. -/
def PatV (S : Nat → Prop) (w : World) (v : Value) (m : Nat) : Prop := ∃ A n c, v = .slice A n c ∧ n ≤ c ∧ Bts S w A (pats m n)
/-- A list of lists, all of them one byte. -/
def OutV (S : Nat → Prop) (w : World) (v : Value) (x : UInt8) : Prop := ∃ A n c, v = .slice A n c ∧ n ≤ c ∧ Rcs S w A (List.replicate n [x])

theorem PatV.keep {S : Nat → Prop} {w w' : World} {v : Value} {m : Nat} (h : PatV S w v m) (hk : Keeps S w w') : PatV S w' v m := by
  obtain ⟨A, n, c, e, h1, h2⟩ := h
  exact ⟨A, n, c, e, h1, h2.keep hk⟩
theorem PatV.mono {S T : Nat → Prop} {w : World} {v : Value} {m : Nat} (h : PatV S w v m) (hT : ∀ k, S k → T k) : PatV T w v m := by
  obtain ⟨A, n, c, e, h1, h2⟩ := h
  exact ⟨A, n, c, e, h1, h2.mono' hT⟩
theorem OutV.keep {S : Nat → Prop} {w w' : World} {v : Value} {x : UInt8} (h : OutV S w v x) (hk : Keeps S w w') : OutV S w' v x := by
  obtain ⟨A, n, c, e, h1, h2⟩ := h
  exact ⟨A, n, c, e, h1, h2.keep hk⟩
theorem OutV.mono {S T : Nat → Prop} {w : World} {v : Value} {x : UInt8} (h : OutV S w v x) (hT : ∀ k, S k → T k) : OutV T w v x := by
  obtain ⟨A, n, c, e, h1, h2⟩ := h
  exact ⟨A, n, c, e, h1, h2.mono fun k _ hk => hT k hk⟩

/-- A book at block p: K: the blocks of what it keeps; M: its own. -/
structure BookM (K M : Nat → Prop) (w : World) (p : Nat) (vL vM vO : Value) (es : List (Value × Nat)) (os : List (Value × UInt8)) (size : Nat) : Prop where
  head : w.heap[p]? = some (.cells #[vL, vM, .int .i64 (size : Int), vO] 83 (0, 0))
  l : w.ownsRow 0 22 1 vL es.length (es.map (·.1))
  lf : ∀ k, vL.ownBlock = some k → M k
  m : w.ownsRow 0 3 1 vM es.length (es.map fun e => .int .i64 (e.2 : Int))
  mf : ∀ k, vM.ownBlock = some k → M k
  o : w.ownsRow 0 35 1 vO os.length (os.map (·.1))
  of : ∀ k, vO.ownBlock = some k → M k
  ents : ∀ e ∈ es, PatV K w e.1 e.2
  outs : ∀ e ∈ os, OutV K w e.1 e.2
  fp : M p
  apart : ∀ k, K k → ¬ M k
  lt : ∀ k, K k ∨ M k → k < w.heap.size
  ml : ∀ e ∈ es, e.2 ≤ 4611686018427387904

section
variable {K M : Nat → Prop} {w w' w4 : World} {p : Nat} {vL vM vO : Value} {es : List (Value × Nat)} {os : List (Value × UInt8)} {size : Nat}
theorem BookM.keep (h : BookM K M w p vL vM vO es os size) (hk : Keeps (fun k => K k ∨ M k) w w') : BookM K M w' p vL vM vO es os size :=
  ⟨hk.heap h.head (.inr h.fp), own_keeps h.l hk (fun k hk => .inr (h.lf k hk)), h.lf, own_keeps h.m hk (fun k hk => .inr (h.mf k hk)), h.mf, own_keeps h.o hk (fun k hk => .inr (h.of k hk)), h.of,
    fun e he => (h.ents e he).keep (hk.mono fun _ _ hs => .inl hs), fun e he => (h.outs e he).keep (hk.mono fun _ _ hs => .inl hs), h.fp, h.apart, fun k hk' => Nat.lt_of_lt_of_le (h.lt k hk') hk.size, h.ml⟩
theorem BookM.parts (h : BookM K M w p vL vM vO es os size) : vL.ownBlock ≠ some p ∧ vM.ownBlock ≠ some p ∧ vO.ownBlock ≠ some p ∧ (∀ k, vL.ownBlock = some k → vM.ownBlock ≠ some k ∧ vO.ownBlock ≠ some k) ∧ (∀ k, vM.ownBlock = some k → vO.ownBlock ≠ some k) :=
  ⟨own_ne_heap h.l h.head (by decide), own_ne_heap h.m h.head (by decide), own_ne_heap h.o h.head (by decide), fun _ hk => ⟨own_ne h.l h.m (by decide) hk, own_ne h.l h.o (by decide) hk⟩, fun _ hk => own_ne h.m h.o (by decide) hk⟩
/-- Another number. -/
theorem BookM.setSize (h : BookM K M w p vL vM vO es os size) (s : Nat) : BookM K M (w.setCell ⟨p, 2, none⟩ (.int .i64 (s : Int))) p vL vM vO es os s := by
  obtain ⟨a1, a2, a3, _⟩ := h.parts
  have KS : Keeps (· ≠ p) w (w.setCell ⟨p, 2, none⟩ (.int .i64 (s : Int))) := (Keeps.refl _ _).setCell (fun _ h => h rfl) _
  refine ⟨by rw [heap_setCell h.head]; rfl, own_keeps h.l KS (fun k hk e => a1 (by rw [hk, e])), h.lf, own_keeps h.m KS (fun k hk e => a2 (by rw [hk, e])), h.mf, own_keeps h.o KS (fun k hk e => a3 (by rw [hk, e])), h.of,
    fun e he => (h.ents e he).keep (KS.mono fun k _ hs e => h.apart k hs (by rw [e]; exact h.fp)), fun e he => (h.outs e he).keep (KS.mono fun k _ hs e => h.apart k hs (by rw [e]; exact h.fp)), h.fp, h.apart, fun k hk => Nat.lt_of_lt_of_le (h.lt k hk) KS.size, h.ml⟩
/-- Lists and marks more. -/
theorem BookM.pushL {v2 : Value} {ns : List Value} (h : BookM K M w p vL vM vO es os size) (KL : Keeps (fun k => vL.ownBlock ≠ some k) w w4) (hown : w4.ownsRow 0 22 1 v2 (es.length + ns.length) (es.map (·.1) ++ ns)) (hat : v2.ownBlock = vL.ownBlock ∨ v2.ownBlock = some w.heap.size) :
    ∃ w5, w5 = w4.setCell ⟨p, 0, none⟩ v2 ∧ w5.heap[p]? = some (.cells #[v2, vM, .int .i64 (size : Int), vO] 83 (0, 0)) ∧ w5.ownsRow 0 22 1 v2 (es.length + ns.length) (es.map (·.1) ++ ns) ∧ w5.ownsRow 0 3 1 vM es.length (es.map fun e => .int .i64 (e.2 : Int)) ∧ w5.ownsRow 0 35 1 vO os.length (os.map (·.1)) ∧
      Keeps (fun k => ¬ M k) w w5 ∧ (∀ k, v2.ownBlock = some k → M k ∨ w.heap.size ≤ k) ∧ v2.ownBlock ≠ some p := by
  obtain ⟨a1, a2, a3, a4, a5⟩ := h.parts
  have hh := KL.heap h.head a1
  have KS : Keeps (· ≠ p) w4 (w4.setCell ⟨p, 0, none⟩ v2) := (Keeps.refl _ _).setCell (fun _ h => h rfl) _
  have KB : Keeps (fun k => k ≠ p ∧ vL.ownBlock ≠ some k) w (w4.setCell ⟨p, 0, none⟩ v2) := (KL.mono fun _ _ h => h.2).trans KS fun _ _ h => h.1
  have hv2 : v2.ownBlock ≠ some p := own_ne_heap hown hh (by decide)
  exact ⟨_, rfl, by rw [heap_setCell hh]; rfl, own_keeps hown KS (fun k hk e => hv2 (by rw [hk, e])), own_keeps h.m KB (fun k hk => ⟨fun e => a2 (by rw [hk, e]), fun e => (a4 k e).1 hk⟩), own_keeps h.o KB (fun k hk => ⟨fun e => a3 (by rw [hk, e]), fun e => (a4 k e).2 hk⟩),
    KB.mono fun k _ hn => ⟨fun e => hn (by rw [e]; exact h.fp), fun e => hn (h.lf k e)⟩, fun k hk => by
      rcases hat with e | e
      · rw [e] at hk; exact .inl (h.lf k hk)
      · rw [e] at hk; injection hk with hk; right; omega, hv2⟩
end

/-- the first f places of the block hold the mark -/
def PatB (w : World) (m b c f : Nat) : Prop := Row1 w 5 b c ((pats m f).map bv)
section
variable {S : Nat → Prop} {w w' : World} {m b c f : Nat}
theorem PatB.le (h : PatB w m b c f) : f ≤ c := by have := Row1.le h; rwa [List.length_map, pats_length] at this
theorem PatB.less (h : PatB w m b c f) {f' : Nat} (hf : f' ≤ f) : PatB w m b c f' := by
  have := Row1.take h f'
  rwa [← List.map_take, pats_take m hf] at this
theorem PatB.bts (h : PatB w m b c f) {n : Nat} (hn : n ≤ f) (hl : n ≤ 281474976710656) : Bts (fun k => k = b) w (some ⟨b, 0, none⟩) (pats m n) := by
  refine ⟨by rw [pats_length]; exact hl, fun _ => ⟨b, 0, rfl, rfl, fun j hj => ?_⟩⟩
  have hj' : j < n := by rwa [pats_length] at hj
  rw [Nat.zero_add, Row1.cell h (by rw [List.length_map, pats_length]; omega), List.getElem?_map, pats_get m f (by omega)]
  have := pats_get m n hj'
  rw [List.getElem?_eq_getElem hj] at this
  rw [Option.some.inj this]
  rfl
theorem PatB.step (h : PatB w m b c f) (hf : f < c) : PatB (w.setCell ⟨b, f, none⟩ (bv (patB m f))) m b c (f + 1) := by
  have := Row1.push h (by rw [List.length_map, pats_length]; exact hf) (bv (patB m f))
  rw [List.length_map, pats_length] at this
  unfold PatB
  rw [pats_succ, List.map_append]
  exact this

/-- the next r of a mark's bytes from n on -/
def nextP (m n r : Nat) : List Value := (List.range r).map fun i => bv (patB m (n + i))
theorem nextP_length (m n r : Nat) : (nextP m n r).length = r := by simp [nextP]

theorem pat_splice {n r : Nat} (hn : n ≤ f) : ((pats m f).map bv).take n ++ nextP m n r ++ ((pats m f).map bv).drop (n + r) = (pats m (max f (n + r))).map bv := by
  apply List.ext_getElem?
  intro i
  have hl : (((pats m f).map bv).take n).length = n := by rw [List.length_take, List.length_map, pats_length]; omega
  have hl2 : (((pats m f).map bv).take n ++ nextP m n r).length = n + r := by rw [List.length_append, hl, nextP_length]
  by_cases h1 : i < n
  · rw [List.getElem?_append_left (by omega), List.getElem?_append_left (by omega), List.getElem?_take, if_pos h1, List.getElem?_map, List.getElem?_map, pats_get m f (by omega), pats_get m _ (by omega)]
  · by_cases h2 : i < n + r
    · rw [List.getElem?_append_left (by omega), List.getElem?_append_right (by omega), hl, List.getElem?_map, pats_get m _ (by omega)]
      unfold nextP
      rw [List.getElem?_map, List.getElem?_range (by omega)]
      simp only [Option.map_some]
      rw [show n + (i - n) = i by omega]
    · rw [List.getElem?_append_right (by omega), hl2, List.getElem?_drop, show n + r + (i - (n + r)) = i by omega, List.getElem?_map, List.getElem?_map]
      by_cases h3 : i < f
      · rw [pats_get m f h3, pats_get m _ (by omega)]
      · rw [List.getElem?_eq_none (by rw [pats_length]; omega), List.getElem?_eq_none (by rw [pats_length]; omega)]

/-- An append of a mark's next bytes onto a block's first n. -/
theorem app_pat {n r : Nat} {v : Value} (h : App1 w 5 b c n ((pats m f).map bv) (nextP m n r) v w') (hr : PatB w m b c f) (hn : n ≤ f) (hc : c ≤ maxLen) :
    ∃ b' c' f', v = .slice (some ⟨b', 0, none⟩) (n + r) c' ∧ n + r ≤ c' ∧ c' ≤ maxLen ∧ f ≤ f' ∧ PatB w' m b c f' ∧ ((b' = b ∧ c' = c ∧ n + r ≤ f') ∨ (b' = w.heap.size ∧ PatB w' m b' c' (n + r) ∧ c < n + r)) ∧ Keeps (· ≠ b) w w' ∧ w.heap.size ≤ w'.heap.size := by
  unfold App1 at h
  rw [nextP_length] at h
  rcases h with ⟨h1, h2, h3, h4, h5⟩ | ⟨h1, c', h2, h3, h4, h5, h6, h7⟩
  · rw [pat_splice hn] at h3
    exact ⟨b, c, max f (n + r), h2, h1, hc, by omega, h3, .inl ⟨rfl, rfl, by omega⟩, h4, by omega⟩
  · have e : ((pats m f).map bv).take n ++ nextP m n r = (pats m (n + r)).map bv := by
      have := pat_splice (m := m) (f := n) (n := n) (r := r) (Nat.le_refl _)
      rw [List.take_of_length_le (by rw [List.length_map, pats_length]; exact Nat.le_refl _), List.drop_of_length_le (by rw [List.length_map, pats_length]; omega), List.append_nil, Nat.max_eq_right (by omega)] at this
      rw [← List.map_take, pats_take m hn]
      exact this
    rw [e] at h5
    exact ⟨w.heap.size, c', f, h4, h2, h3, Nat.le_refl _, hr.keep h6 trivial, .inr ⟨rfl, h5, h1⟩, h6.mono fun _ _ _ => trivial, by omega⟩
end
end Go.Proofs.YtdpaaoeipconcaaDoor

namespace Go.Proofs.YtdpaaoeipconcaaDoor
open Go.RowKit

def PostKeep (K M B : Nat → Prop) (w : World) (p : Nat) (vO : Value) (os : List (Value × UInt8)) (N size : Nat) (e : Ending) (w' : World) : Prop :=
  e = .returned (.tuple #[]) ∧ ∃ K' M' vL vM es, BookM K' M' w' p vL vM vO es os size ∧ es.length ≤ N ∧ (∀ k, K' k → K k ∨ B k ∨ w.heap.size ≤ k) ∧ (∀ k, M' k → M k ∨ w.heap.size ≤ k) ∧ Keeps (fun k => ¬ M k ∧ ¬ B k) w w'

theorem info3 : (Tryd.prog.info? 3).map (fun i => (i.zero, i.size, i.bytes)) = some (some (.int .i64 0), 1, 8) := by kernel_rfl

theorem news_two {w : World} {g t : Nat} {a b : Value} (h : w.heap[g]? = some (.cells #[a, b] t (0, 0))) : ∀ j u, [a, b][j]? = some u → w.cell? ((⟨g, 0, none⟩ : Addr).add j) = some u := by
  intro j u hj
  rw [add_none0, Nat.zero_add, cell_of_heap h]
  simpa using hj

set_option maxRecDepth 10000 in
set_option maxHeartbeats 8000000 in
theorem keep_blk (w : World) (K M : Nat → Prop) (p : Nat) (vL vM vO : Value) (es : List (Value × Nat)) (os : List (Value × UInt8)) (size : Nat) (h : BookM K M w p vL vM vO es os size) (hes : es.length ≤ 4000000000000) (hsz : size ≤ 2305843009213693952)
    (b n c : Nat) (hr : Row1 w 5 b c []) (hn : n ≤ c) (hnl : n ≤ 1000000000000) (hc : c ≤ maxLen) (hK : ¬ K b) (hM : ¬ M b) :
    Calls Tryd.prog 49 #[.pointer (some ⟨p, 0, none⟩), .slice (some ⟨b, 0, none⟩) n c] w (PostKeep K M (fun k => k = b) w p vO os (es.length + 4) (size + n + 400)) := by
  obtain ⟨AL, cL, hvL, _, _⟩ := own_slice h.l
  subst hvL
  obtain ⟨AM, cM, hvM, _, _⟩ := own_slice h.m
  subst hvM
  have c0 : w.cell? ⟨p, 0, none⟩ = some (.slice AL es.length cL) := cell_of_heap h.head
  obtain ⟨q, hq⟩ : ∃ q, q = es.length / 4 := ⟨_, rfl⟩
  have q1 : (es.length : Int) / 4 = (q : Int) := by omega
  have q2 : (es.length : Int).tdiv 4 = (q : Int) := by rw [Int.tdiv_eq_ediv_of_nonneg (by omega)]; exact q1
  obtain ⟨m, hm⟩ : ∃ m, m = 1 + q := ⟨_, rfl⟩
  have q3 : IntKind.i64.wrap (1 + (q : Int)) = (m : Int) := by rw [IntKind.wrap_i64]; omega
  have hml : m ≤ 4000000000000 := by omega
  unfold maxLen at hc
  have hbp : b ≠ p := fun e => hM (by rw [e]; exact h.fp)
  have b1 : IntKind.i64.wrap ((size : Int) + (n : Int)) = (size : Int) + (n : Int) := by rw [IntKind.wrap_i64]; omega
  obtain ⟨s2, hs2⟩ : ∃ s2, s2 = size + n + 400 := ⟨_, rfl⟩
  have b2 : IntKind.i64.wrap ((size : Int) + (n : Int) + 400) = (s2 : Int) := by rw [IntKind.wrap_i64]; omega
  rw [← hs2]
  clear hs2
  have HW := hid (And.intro b1 b2)
  clear b1 b2
  have HS := hid (show PatB w m b c 0 from hr)
  have HK := hid (Keeps.refl (· ≠ b) w)
  clear hq hm hr
  go_enter Tryd.func49, Tryd.ntmps49
  go_wp2
  clear q1 q2 q3
  go_loopw [6] (fun i wr => ∃ k : Nat, i = .int .i64 k ∧ k ≤ n ∧ Hid (PatB wr m b c k) ∧ Hid (Keeps (· ≠ b) w wr)) (fun i _ => n - (intOf i).toNat)
  case atStart => exact ⟨0, rfl, Nat.zero_le _, HS, HK⟩
  case round =>
    clear HS HK
    obtain ⟨k, rfl, hk, hpat, hkk⟩ := hrel
    have i0 : (0 : Int) ≤ (k : Int) := by omega
    have hzk := hkk.out.size
    by_cases hlt : k < n
    · have i1 : (k : Int) < (n : Int) := by omega
      obtain ⟨u, hu⟩ := Row1.some_ hpat.out (i := k) (by omega)
      have hf := Row1.frozen hpat.out
      have HR := hid (hpat.out.step (by omega))
      have HK := hid (hkk.out.setCell (p := ⟨b, k, none⟩) (fun _ h => h rfl) (bv (patB m k)))
      have hp := pat_any wr m k (by omega) (by omega)
      go_wp2_with fail
      refine hp.mono ?_
      rintro e w1 ⟨rfl, rfl⟩
      clear hp
      go_wp2
      exact ⟨⟨k + 1, by go_num, by omega, HR, HK⟩, by simp [intOf]; omega⟩
    · obtain rfl : k = n := by omega
      have i1 : ¬ ((k : Nat) : Int) < (k : Int) := by omega
      have hB0 := h.keep (w' := wr) (hkk.out.mono fun k' _ hs e => by
        rcases hs with hs | hs
        · exact hK (by rw [← e]; exact hs)
        · exact hM (by rw [← e]; exact hs))
      have c2 : wr.cell? ⟨p, 2, none⟩ = some (.int .i64 (size : Int)) := cell_of_heap hB0.head
      have cf : ∀ i, wr.frozen? ⟨p, i, none⟩ = false := fun i => frozen_of_heap hB0.head
      obtain ⟨b1, b2⟩ := HW.out
      obtain ⟨W1, hW1⟩ : ∃ W, W = wr.setCell ⟨p, 2, none⟩ (.int .i64 (s2 : Int)) := ⟨_, rfl⟩
      have hB1 := hB0.setSize s2
      have k1 : Keeps (· ≠ p) wr W1 := by rw [hW1]; exact (Keeps.refl _ _).setCell (fun _ h => h rfl) _
      rw [← hW1] at hB1
      have hpat1 := Row1.keep hpat.out k1 hbp
      have KM1 : Keeps (fun k' => ¬ M k' ∧ ¬ k' = b) w W1 := (hkk.out.mono fun k' _ hs => hs.2).trans k1 fun k' _ hs e => hs.1 (by rw [e]; exact h.fp)
      have hz1 := k1.size
      by_cases hbig : s2 > 4000000
      · have i2 : (s2 : Int) > 4000000 := by omega
        have HB := hid hB1
        have HKM := hid KM1
        clear hB1 KM1 hB0 hpat1
        go_upto_region 7 with fail
        rw [← hW1]
        clear hW1
        have e2 : W1.cell? ⟨p, 2, none⟩ = some (.int .i64 (s2 : Int)) := cell_of_heap HB.out.head
        go_wp2
        refine bodyPost_ret (results_none rfl _ _ _) rfl ?_
        exact ⟨rfl, K, M, _, _, es, HB.out, by omega, fun k' hk' => .inl hk', fun k' hk' => .inl hk', HKM.out⟩
      · have i2 : ¬ (s2 : Int) > 4000000 := by omega
        go_upto_region 7 with fail
        rw [← hW1]
        clear hW1 b1 b2 c2 cf
        have e2 : W1.cell? ⟨p, 2, none⟩ = some (.int .i64 (s2 : Int)) := cell_of_heap hB1.head
        have hB1' := hB1
        have HB1 := hid hB1
        have HKM1 := hid KM1
        clear hB1 hB1' KM1 hB0
        go_upto_region 8 with fail
        -- g1
        have hp := pat_any W1 m k (by omega) (by omega)
        go_wp2_with fail
        refine hp.mono ?_
        rintro e w1' ⟨rfl, rfl⟩
        clear hp
        obtain ⟨W2, hW2⟩ : ∃ W, W = W1.alloc (.cells #[bv (patB m k)] 5) := ⟨_, rfl⟩
        have k2 : Old W1 W2 := by rw [hW2]; exact (Keeps.refl _ _).alloc _
        have hb2 : W2.heap[W1.heap.size]? = some (.cells #[bv (patB m k)] 5 (0, 0)) := by rw [hW2]; exact heap_alloc_new _ _
        have hz2 : W2.heap.size = W1.heap.size + 1 := by rw [hW2]; simp
        have hpat2 : PatB W2 m b c k := Row1.keep hpat1 k2 trivial
        have hxl : k ≤ ((pats m k).map bv).length := by rw [List.length_map, pats_length]; exact Nat.le_refl _
        have hbw : b < W1.heap.size := Row1.lt hpat1
        go_upto_region 9 with (at_builtin; rw [← hW2]; refine wpList_app1 _ (by rfl) _ _ 22 5 (by rfl) Tryd.underlying22 info5 (by rfl) (by rfl) hpat2 hxl ⟨W1.heap.size, 0, none⟩ 1 1 [bv (patB m k)] (by rfl) (by rfl) (World.news_of_block hb2) (one_one rfl) (by omega) (by omega) (by unfold maxLen; omega) ?_; intro v3 w3 hap3)
        obtain ⟨b1, c1, f3, hv3, hn3, hc3, hf3, hpat3, hor3, k3, hz3⟩ := app_pat (r := 1) hap3 hpat2 (Nat.le_refl _) (by unfold maxLen; omega)
        subst hv3
        clear hW2 hb2 hap3
        -- g2
        have hp := pat_any w3 m k (by omega) (by omega)
        have hp2 := pat_any w3 m (k + 1) (by omega) (by omega)
        rw [show ((k + 1 : Nat) : Int) = (k : Int) + 1 by omega] at hp2
        go_wp2_with fail
        refine hp.mono ?_
        rintro e w1' ⟨rfl, rfl⟩
        clear hp
        go_wp2_with fail
        refine hp2.mono ?_
        rintro e w1' ⟨rfl, rfl⟩
        clear hp2
        obtain ⟨W4, hW4⟩ : ∃ W, W = w3.alloc (.cells #[bv (patB m k), bv (patB m (k + 1))] 5) := ⟨_, rfl⟩
        have k4 : Old w3 W4 := by rw [hW4]; exact (Keeps.refl _ _).alloc _
        have hb4 : W4.heap[w3.heap.size]? = some (.cells #[bv (patB m k), bv (patB m (k + 1))] 5 (0, 0)) := by rw [hW4]; exact heap_alloc_new _ _
        have hz4 : W4.heap.size = w3.heap.size + 1 := by rw [hW4]; simp
        have hpat4 : PatB W4 m b c f3 := Row1.keep hpat3 k4 trivial
        have hxl4 : k ≤ ((pats m f3).map bv).length := by rw [List.length_map, pats_length]; exact hf3
        go_upto_region 10 with (at_builtin; rw [← hW4]; refine wpList_app1 _ (by rfl) _ _ 22 5 (by rfl) Tryd.underlying22 info5 (by rfl) (by rfl) hpat4 hxl4 ⟨w3.heap.size, 0, none⟩ 2 2 [bv (patB m k), bv (patB m (k + 1))] (by rfl) (by rfl) (news_two hb4) (by intro u hu; simp at hu; rcases hu with rfl | rfl <;> rfl) (by omega) (by omega) (by unfold maxLen; omega) ?_; intro v5 w5 hap5)
        obtain ⟨b2, c2, f5, hv5, hn5, hc5, hf5, hpat5, hor5, k5, hz5⟩ := app_pat (r := 2) hap5 hpat4 hf3 (by unfold maxLen; omega)
        subst hv5
        clear hW4 hb4 hap5
        -- g3
        obtain ⟨r, hrr⟩ : ∃ r, r = c - k := ⟨_, rfl⟩
        obtain ⟨FR, hFR⟩ : ∃ FR, FR = min r 70000 := ⟨_, rfl⟩
        have b3 : IntKind.i64.wrap ((c : Int) - (k : Int)) = (r : Int) := by rw [IntKind.wrap_i64]; omega
        have hfa : ∀ W, Calls Tryd.prog 71 #[.int .i64 (r : Int)] W fun e w' => e = .returned (.int .i64 (FR : Int)) ∧ W = w' := fun W => by
          have h := far_any W (r : Int) (by omega) (by omega)
          rw [show min (r : Int) 70000 = (FR : Int) by omega] at h
          exact h
        have HFA := hid hfa
        have hFc : k + FR ≤ c := by omega
        have hF7 : FR ≤ 70000 := by omega
        have HS := hid (And.intro hpat5 (Keeps.refl (· ≠ b) w5))
        have H5 := hid (And.intro hor3 (And.intro hor5 (And.intro k3 (And.intro k4 (And.intro k5 k2)))))
        clear hrr hFR hfa hor3 hor5 k3 k4 k5 hpat5 hpat4 hpat3 hpat2 hpat1 hxl hxl4 k2
        go_wp2
        go_loopw [9, 10] (fun g3 i wr => ∃ (j f : Nat), i = .int .i64 j ∧ j ≤ FR ∧ g3 = .slice (some ⟨b, 0, none⟩) (k + j) c ∧ k + j ≤ f ∧ f5 ≤ f ∧ Hid (PatB wr m b c f ∧ Keeps (· ≠ b) w5 wr)) (fun _ i _ => FR - (intOf i).toNat)
        case atStart => exact ⟨0, f5, rfl, Nat.zero_le _, rfl, by omega, Nat.le_refl _, HS⟩
        case round =>
          clear HS
          obtain ⟨j, f, rfl, hj, rfl, hjf, hff, hin⟩ := hrel
          have i0 : (0 : Int) ≤ (j : Int) := by omega
          go_wp2_with fail
          with_reducible refine (HFA.out _).mono ?_
          rintro e w1' ⟨rfl, rfl⟩
          by_cases hlt : j < FR
          · have i1 : (j : Int) < (FR : Int) := by omega
            have hp := pat_any wr m (k + j) (by omega) (by omega)
            rw [show ((k + j : Nat) : Int) = (k : Int) + (j : Int) by omega] at hp
            have b4 : IntKind.i64.wrap ((k : Int) + (j : Int)) = (k : Int) + (j : Int) := by rw [IntKind.wrap_i64]; omega
            go_wp2_with fail
            refine hp.mono ?_
            rintro e w1' ⟨rfl, rfl⟩
            clear hp
            obtain ⟨hpr, hkr⟩ := hin.out
            obtain ⟨W6, hW6⟩ : ∃ W, W = wr.alloc (.cells #[bv (patB m (k + j))] 5) := ⟨_, rfl⟩
            have k6 : Old wr W6 := by rw [hW6]; exact (Keeps.refl _ _).alloc _
            have hb6 : W6.heap[wr.heap.size]? = some (.cells #[bv (patB m (k + j))] 5 (0, 0)) := by rw [hW6]; exact heap_alloc_new _ _
            have hpat6 : PatB W6 m b c f := Row1.keep hpr k6 trivial
            have hxl6 : k + j ≤ ((pats m f).map bv).length := by rw [List.length_map, pats_length]; exact hjf
            have hzk6 := hkr.size
            go_wp2_with (at_builtin; rw [← hW6]; refine wpList_app1 _ (by rfl) _ _ 22 5 (by rfl) Tryd.underlying22 info5 (by rfl) (by rfl) hpat6 hxl6 ⟨wr.heap.size, 0, none⟩ 1 1 [bv (patB m (k + j))] (by rfl) (by rfl) (World.news_of_block hb6) (one_one rfl) (by omega) (by omega) (by unfold maxLen; omega) ?_; intro v7 w7 hap7)
            obtain ⟨b7, c7, f7, hv7, hn7, hc7, hf7, hpat7, hor7, k7, hz7⟩ := app_pat (r := 1) hap7 hpat6 hjf (by unfold maxLen; omega)
            have h7 : b7 = b ∧ c7 = c ∧ k + j + 1 ≤ f7 := by
              rcases hor7 with h | ⟨_, _, h⟩
              · exact h
              · omega
            obtain ⟨e7, e7', hnf7⟩ := h7
            rw [e7, e7'] at hv7
            subst hv7
            have HR := hid (And.intro hpat7 ((hkr.trans' (k6.old _)).trans' k7))
            clear hap7 hpat7 hpat6 k6 k7 hb6 hpr hkr hor7
            refine ⟨⟨j + 1, f7, by go_num, by omega, by rw [Nat.add_assoc], by omega, by omega, HR⟩, by simp [intOf]; omega⟩
          · obtain rfl : j = FR := by omega
            have i1 : ¬ ((j : Nat) : Int) < (j : Int) := by omega
            obtain ⟨hpr, hkr⟩ := hin.out
            obtain ⟨hor3, hor5, k3, k4, k5, k2⟩ := H5.out
            have KW : Keeps (· ≠ b) W1 wr := ((((k2.old _).trans' k3).trans' (k4.old _)).trans' k5).trans' hkr
            have hzr := hkr.size
            have hzW := KW.size
            have hz0 := HKM1.out.size
            have hMl : ∀ x, M x → x < w.heap.size := fun x hx => h.lt x (.inr hx)
            obtain ⟨K', hK'⟩ : ∃ K' : Nat → Prop, K' = fun x => K x ∨ x = b ∨ x = b1 ∨ x = b2 := ⟨_, rfl⟩
            have hKK : ∀ x, K x → K' x := fun x hx => by rw [hK']; exact .inl hx
            have hKb : K' b := by rw [hK']; exact .inr (.inl rfl)
            have hKb1 : K' b1 := by rw [hK']; exact .inr (.inr (.inl rfl))
            have hKb2 : K' b2 := by rw [hK']; exact .inr (.inr (.inr rfl))
            have hb1w : b1 = b ∨ w.heap.size ≤ b1 := by
              rcases hor3 with ⟨e, _⟩ | ⟨e, _⟩
              · exact .inl e
              · right; omega
            have hb2w : b2 = b ∨ w.heap.size ≤ b2 := by
              rcases hor5 with ⟨e, _⟩ | ⟨e, _⟩
              · exact .inl e
              · right; omega
            have hK'w : ∀ x, K' x → K x ∨ x = b ∨ w.heap.size ≤ x := fun x hx => by
              rw [hK'] at hx
              rcases hx with hx | hx | hx | hx
              · exact .inl hx
              · exact .inr (.inl hx)
              · rw [hx]; exact .inr hb1w
              · rw [hx]; exact .inr hb2w
            have hK'M : ∀ x, K' x → ¬ M x := fun x hx hm => by
              rcases hK'w x hx with h' | h' | h'
              · exact h.apart x h' hm
              · exact hM (by rw [← h']; exact hm)
              · have := hMl x hm; omega
            have hl1 : PatV K' wr (.slice (some ⟨b, 0, none⟩) k c) m := ⟨_, k, c, rfl, hn, (hpr.bts (by omega) (by omega)).mono' fun x hx => by rw [hx]; exact hKb⟩
            have hl4 : PatV K' wr (.slice (some ⟨b, 0, none⟩) (k + j) c) m := ⟨_, k + j, c, rfl, hFc, (hpr.bts (by omega) (by omega)).mono' fun x hx => by rw [hx]; exact hKb⟩
            have hl2 : PatV K' wr (.slice (some ⟨b1, 0, none⟩) (k + 1) c1) m := by
              refine ⟨_, k + 1, c1, rfl, hn3, ?_⟩
              rcases hor3 with ⟨e, e', hh⟩ | ⟨e, hh, _⟩
              · rw [e]; exact (hpr.bts (by omega) (by omega)).mono' fun x hx => by rw [hx]; exact hKb
              · have hne : b1 ≠ b := by omega
                exact (PatB.bts (Row1.keep hh (((k4.old _).trans' k5).trans' hkr) hne) (Nat.le_refl _) (by omega)).mono' fun x hx => by rw [hx]; exact hKb1
            have hl3 : PatV K' wr (.slice (some ⟨b2, 0, none⟩) (k + 2) c2) m := by
              refine ⟨_, k + 2, c2, rfl, hn5, ?_⟩
              rcases hor5 with ⟨e, e', hh⟩ | ⟨e, hh, _⟩
              · rw [e]; exact (hpr.bts (by omega) (by omega)).mono' fun x hx => by rw [hx]; exact hKb
              · have hne : b2 ≠ b := by omega
                exact (PatB.bts (Row1.keep hh hkr hne) (Nat.le_refl _) (by omega)).mono' fun x hx => by rw [hx]; exact hKb2
            have hBr := HB1.out.keep (w' := wr) (KW.mono fun k' _ hs e => by
              rcases hs with hs | hs
              · exact hK (by rw [← e]; exact hs)
              · exact hM (by rw [← e]; exact hs))
            have KMr : Keeps (fun k' => ¬ M k' ∧ ¬ k' = b) w wr := HKM1.out.trans' (KW.mono fun k' _ hs => hs.2)
            have hK'l : ∀ x, K' x → x < wr.heap.size := fun x hx => by
              have : x < W1.heap.size ∨ x = b1 ∨ x = b2 := by
                rw [hK'] at hx
                rcases hx with hx | hx | hx
                · left; exact HB1.out.lt x (.inl hx)
                · left; rw [hx]; exact hbw
                · exact .inr hx
              rcases this with h' | h' | h'
              · omega
              · rw [h']
                rcases hor3 with ⟨e, _⟩ | ⟨e, hh, _⟩
                · rw [e]; omega
                · have := Row1.lt hh; have := k4.size; have := k5.size; omega
              · rw [h']
                rcases hor5 with ⟨e, _⟩ | ⟨e, hh, _⟩
                · rw [e]; omega
                · have := Row1.lt hh; omega
            clear hK' hpr hkr hor3 hor5 k3 k4 k5 k2 hin H5
            obtain ⟨n1, hn1⟩ : ∃ n1, n1 = [Value.slice (some ⟨b, 0, none⟩) k c, .slice (some ⟨b1, 0, none⟩) (k + 1) c1, .slice (some ⟨b2, 0, none⟩) (k + 2) c2, .slice (some ⟨b, 0, none⟩) (k + j) c] := ⟨_, rfl⟩
            obtain ⟨W6, hW6⟩ : ∃ W, W = wr.alloc (.cells #[.slice (some ⟨b, 0, none⟩) k c, .slice (some ⟨b1, 0, none⟩) (k + 1) c1, .slice (some ⟨b2, 0, none⟩) (k + 2) c2, .slice (some ⟨b, 0, none⟩) (k + j) c] 22) := ⟨_, rfl⟩
            have k6 : Old wr W6 := by rw [hW6]; exact (Keeps.refl _ _).alloc _
            have hb6 : W6.heap[wr.heap.size]? = some (.cells #[.slice (some ⟨b, 0, none⟩) k c, .slice (some ⟨b1, 0, none⟩) (k + 1) c1, .slice (some ⟨b2, 0, none⟩) (k + 2) c2, .slice (some ⟨b, 0, none⟩) (k + j) c] 22 (0, 0)) := by rw [hW6]; exact heap_alloc_new _ _
            have hB6 := hBr.keep (k6.old _)
            have hrow6 := hB6.l
            have d0 : wr.cell? ⟨p, 0, none⟩ = some (.slice AL es.length cL) := cell_of_heap hBr.head
            have hz6 : W6.heap.size = wr.heap.size + 1 := by rw [hW6]; simp
            go_upto_region 15 with fail
            go_upto_region 16 with (at_builtin; rw [← hW6]; refine wpList_append_ex _ (by rfl) _ _ 35 22 (by rfl) Tryd.underlying35 info22 (by rfl) (by omega) (by rfl) hrow6 (some ⟨wr.heap.size, 0, none⟩) 4 4 [Value.slice (some ⟨b, 0, none⟩) k c, .slice (some ⟨b1, 0, none⟩) (k + 1) c1, .slice (some ⟨b2, 0, none⟩) (k + 2) c2, .slice (some ⟨b, 0, none⟩) (k + j) c] (by rfl) (by rfl) (fun _ => ⟨_, rfl, World.news_of_block hb6⟩) (by intro u hu; simp at hu; rcases hu with rfl | rfl | rfl | rfl <;> rfl) (by omega) (by unfold maxLen; omega) ?_; intro v7 w7 hown7 hgrow7 hat7; have K67 : Keeps (fun k => (Value.slice AL es.length cL).ownBlock ≠ some k) W6 w7 := (Keeps.refl _ W6).grown hgrow7 (fun k _ h hn => hn h); have hh7 := K67.heap hB6.head hB6.parts.1; have u0 : w7.cell? ⟨p, 0, none⟩ = some (.slice AL es.length cL) := cell_of_heap hh7; have uf : ∀ i, w7.frozen? ⟨p, i, none⟩ = false := fun i => frozen_of_heap hh7; obtain ⟨w8, e8, hd8, hl8, hm8, ho8, k8, hv8, hvp8⟩ := hB6.pushL (ns := n1) K67 (by rw [hn1]; exact hown7) hat7; obtain ⟨A7, c7, hv7, _, _⟩ := own_slice hown7; subst hv7)
            rw [← e8]
            clear e8 hown7 hgrow7 hat7 K67 hh7 u0 uf hW6 hb6 hrow6
            have hn1l : n1.length = 4 := by rw [hn1]; rfl
            have d1 : w8.cell? ⟨p, 1, none⟩ = some (.slice AM es.length cM) := cell_of_heap hd8
            obtain ⟨W9, hW9⟩ : ∃ W, W = w8.alloc (.cells #[.int .i64 (m : Int), .int .i64 (m : Int), .int .i64 (m : Int), .int .i64 (m : Int)] 3) := ⟨_, rfl⟩
            have k9 : Old w8 W9 := by rw [hW9]; exact (Keeps.refl _ _).alloc _
            have hb9 : W9.heap[w8.heap.size]? = some (.cells #[.int .i64 (m : Int), .int .i64 (m : Int), .int .i64 (m : Int), .int .i64 (m : Int)] 3 (0, 0)) := by rw [hW9]; exact heap_alloc_new _ _
            have hm9 := own_keeps hm8 k9 (fun _ _ => trivial)
            have hl9 := own_keeps hl8 k9 (fun _ _ => trivial)
            have ho9 := own_keeps ho8 k9 (fun _ _ => trivial)
            have hd9 := k9.heap hd8 trivial
            have hz8 := k8.size
            have hz9 := k9.size
            go_wp2_with (at_builtin; rw [← hW9]; refine wpList_append_ex _ (by rfl) _ _ 81 3 (by rfl) Tryd.underlying81 info3 (by rfl) (by omega) (by rfl) hm9 (some ⟨w8.heap.size, 0, none⟩) 4 4 [.int .i64 (m : Int), .int .i64 (m : Int), .int .i64 (m : Int), .int .i64 (m : Int)] (by rfl) (by rfl) (fun _ => ⟨_, rfl, World.news_of_block hb9⟩) (by intro u hu; simp at hu; rw [hu]; rfl) (by omega) (by unfold maxLen; omega) ?_; intro v10 w10 hown10 hgrow10 hat10; have K10 : Keeps (fun k => (Value.slice AM es.length cM).ownBlock ≠ some k) W9 w10 := (Keeps.refl _ W9).grown hgrow10 (fun k _ h hn => hn h); have hmp : (Value.slice AM es.length cM).ownBlock ≠ some p := hB6.parts.2.1; have hh10 := K10.heap hd9 hmp; have y1 : w10.cell? ⟨p, 1, none⟩ = some (.slice AM es.length cM) := cell_of_heap hh10; have yf : ∀ i, w10.frozen? ⟨p, i, none⟩ = false := fun i => frozen_of_heap hh10; obtain ⟨A10, c10, hv10, _, _⟩ := own_slice hown10; subst hv10)
            clear hW9 hb9 d1
            have hz10 := K10.size
            obtain ⟨W11, hW11⟩ : ∃ W, W = w10.setCell ⟨p, 1, none⟩ (.slice A10 (es.length + 4) c10) := ⟨_, rfl⟩
            have k11 : Keeps (· ≠ p) w10 W11 := by rw [hW11]; exact (Keeps.refl _ _).setCell (fun _ h => h rfl) _
            have hd11 : W11.heap[p]? = some (.cells #[.slice A7 (es.length + 4) c7, .slice A10 (es.length + 4) c10, .int .i64 (s2 : Int), vO] 83 (0, 0)) := by rw [hW11, heap_setCell hh10]; rfl
            rw [hn1l] at hl8 hl9
            have hvp10 : (Value.slice A10 (es.length + 4) c10).ownBlock ≠ some p := own_ne_heap hown10 hh10 (by decide)
            have hl11 := own_keeps (own_keeps hl9 K10 (fun x hx => fun e => own_ne hl9 hm9 (by decide) hx e)) k11 (fun x hx e => hvp8 (by rw [hx, e]))
            have hm11 := own_keeps hown10 k11 (fun x hx e => hvp10 (by rw [hx, e]))
            have hvo : vO.ownBlock ≠ some p := hB6.parts.2.2.1
            have ho11 := own_keeps (own_keeps ho9 K10 (fun x hx => fun e => own_ne ho9 hm9 (by decide) hx e)) k11 (fun x hx e => hvo (by rw [hx, e]))
            have kM : Keeps (fun x => ¬ M x) wr W11 := ((((k6.old _).trans' k8).trans' (k9.old _)).trans' (K10.mono fun x _ hx e => hx (hB6.mf x e))).trans' (k11.mono fun x _ hx e => hx (by rw [e]; exact h.fp))
            have kK : Keeps K' wr W11 := kM.mono fun x _ hx => hK'M x hx
            have hM10 : ∀ x, (Value.slice A10 (es.length + 4) c10).ownBlock = some x → M x ∨ W6.heap.size ≤ x := fun x hx => by
              rcases hat10 with e | e
              · rw [e] at hx; exact .inl (hB6.mf x hx)
              · rw [e] at hx; injection hx with hx; right; omega
            have hsl : (fun e : Value × Nat => e.1) = (·.1) := rfl
            have hB11 : BookM K' (fun x => M x ∨ (Value.slice A7 (es.length + 4) c7).ownBlock = some x ∨ (Value.slice A10 (es.length + 4) c10).ownBlock = some x) W11 p (.slice A7 (es.length + 4) c7) (.slice A10 (es.length + 4) c10) vO
                (es ++ [(Value.slice (some ⟨b, 0, none⟩) k c, m), (.slice (some ⟨b1, 0, none⟩) (k + 1) c1, m), (.slice (some ⟨b2, 0, none⟩) (k + 2) c2, m), (.slice (some ⟨b, 0, none⟩) (k + j) c, m)]) os s2 := by
              refine ⟨hd11, ?_, fun x hx => .inr (.inl hx), ?_, fun x hx => .inr (.inr hx), ho11, fun x hx => .inl (hBr.of x hx), fun e he => ?_, fun e he => ((hBr.outs e he).mono hKK).keep kK, .inl h.fp, fun x hx hm => ?_, fun x hx => ?_, fun e he => ?_⟩
              · rw [List.length_append, List.map_append]
                rw [hn1] at hl11
                exact hl11
              · rw [List.length_append, List.map_append]
                exact hm11
              · rcases List.mem_append.1 he with he | he
                · exact ((hBr.ents e he).mono hKK).keep kK
                · simp at he
                  rcases he with rfl | rfl | rfl | rfl
                  · exact hl1.keep kK
                  · exact hl2.keep kK
                  · exact hl3.keep kK
                  · exact hl4.keep kK
              · have h1 := hK'l x hx
                rcases hm with hm | hm | hm
                · exact hK'M x hx hm
                · rcases hv8 x hm with h' | h'
                  · exact hK'M x hx h'
                  · omega
                · rcases hM10 x hm with h' | h'
                  · exact hK'M x hx h'
                  · omega
              · have hzk := kM.size
                rcases hx with hx | hx | hx | hx
                · have := hK'l x hx; omega
                · have := hMl x hx; omega
                · exact own_lt hl11 hx
                · exact own_lt hm11 hx
              · rcases List.mem_append.1 he with he | he
                · exact hBr.ml e he
                · simp at he
                  rcases he with rfl | rfl | rfl | rfl <;> exact Nat.le_trans hml (by decide)
            have HB11 := hid hB11
            have HKK := hid (KMr.trans' (kM.mono fun x _ hx => hx.1))
            clear hB11 hl11 hm11 ho11 hd11 hl9 hm9 ho9 hd9 hl8 hm8 ho8 hd8 hown10 hgrow10 hh10 hl1 hl2 hl3 hl4 K10 k11 kM kK KMr hBr hB6 k6 k8 k9 KW
            first | go_end0 | refine bodyPost_ret (results_none rfl _ _ _) rfl ?_
            rw [← hW11]
            exact ⟨rfl, K', _, _, _, _, HB11.out, by simp, fun x hx => by
              rcases hK'w x hx with h' | h' | h'
              · exact .inl h'
              · exact .inr (.inl h')
              · exact .inr (.inr h'), fun x hx => by
              rcases hx with hx | hx | hx
              · exact .inl hx
              · rcases hv8 x hx with h' | h'
                · exact .inl h'
                · right; omega
              · rcases hM10 x hx with h' | h'
                · exact .inl h'
                · right; omega, HKK.out⟩
end Go.Proofs.YtdpaaoeipconcaaDoor

namespace Go.Proofs.YtdpaaoeipconcaaDoor
open Go.RowKit

set_option maxRecDepth 10000 in
set_option maxHeartbeats 8000000 in
theorem keep_nil (w : World) (K M : Nat → Prop) (p : Nat) (vL vM vO : Value) (es : List (Value × Nat)) (os : List (Value × UInt8)) (size : Nat) (h : BookM K M w p vL vM vO es os size) (hes : es.length ≤ 4000000000000) (hsz : size ≤ 2305843009213693952) :
    Calls Tryd.prog 49 #[.pointer (some ⟨p, 0, none⟩), .slice none 0 0] w (PostKeep K M (fun _ => False) w p vO os (es.length + 4) (size + 400)) := by
  obtain ⟨AL, cL, hvL, _, _⟩ := own_slice h.l
  subst hvL
  obtain ⟨AM, cM, hvM, _, _⟩ := own_slice h.m
  subst hvM
  have c0 : w.cell? ⟨p, 0, none⟩ = some (.slice AL es.length cL) := cell_of_heap h.head
  obtain ⟨q, hq⟩ : ∃ q, q = es.length / 4 := ⟨_, rfl⟩
  have q1 : (es.length : Int) / 4 = (q : Int) := by omega
  have q2 : (es.length : Int).tdiv 4 = (q : Int) := by rw [Int.tdiv_eq_ediv_of_nonneg (by omega)]; exact q1
  obtain ⟨m, hm⟩ : ∃ m, m = 1 + q := ⟨_, rfl⟩
  have q3 : IntKind.i64.wrap (1 + (q : Int)) = (m : Int) := by rw [IntKind.wrap_i64]; omega
  have hml : m ≤ 4000000000000 := by omega
  obtain ⟨s2, hs2⟩ : ∃ s2, s2 = size + 400 := ⟨_, rfl⟩
  have b2 : IntKind.i64.wrap ((size : Int) + 400) = (s2 : Int) := by rw [IntKind.wrap_i64]; omega
  rw [← hs2]
  clear hs2 hq hm
  have c2 : w.cell? ⟨p, 2, none⟩ = some (.int .i64 (size : Int)) := cell_of_heap h.head
  have cf : ∀ i, w.frozen? ⟨p, i, none⟩ = false := fun i => frozen_of_heap h.head
  obtain ⟨W1, hW1⟩ : ∃ W, W = w.setCell ⟨p, 2, none⟩ (.int .i64 (s2 : Int)) := ⟨_, rfl⟩
  have hB1 := h.setSize s2
  have k1 : Keeps (· ≠ p) w W1 := by rw [hW1]; exact (Keeps.refl _ _).setCell (fun _ h => h rfl) _
  rw [← hW1] at hB1
  have KM1 : Keeps (fun k' => ¬ M k' ∧ ¬ False) w W1 := k1.mono fun k' _ hs e => hs.1 (by rw [e]; exact h.fp)
  have hz1 := k1.size
  go_enter Tryd.func49, Tryd.ntmps49
  go_wp2
  clear q1 q2 q3
  go_loopw [6] (fun i wr => i = .int .i64 0 ∧ w = wr) (fun i _ => (intOf i).toNat)
  case atStart => exact ⟨rfl, rfl⟩
  case round =>
    obtain ⟨rfl, rfl⟩ := hrel
    by_cases hbig : s2 > 4000000
    · have i2 : (s2 : Int) > 4000000 := by omega
      have HB := hid hB1
      have HKM := hid KM1
      clear hB1 KM1
      go_upto_region 7 with fail
      rw [← hW1]
      clear hW1 c2 cf
      have e2 : W1.cell? ⟨p, 2, none⟩ = some (.int .i64 (s2 : Int)) := cell_of_heap HB.out.head
      go_wp2
      refine bodyPost_ret (results_none rfl _ _ _) rfl ?_
      exact ⟨rfl, K, M, _, _, es, HB.out, by omega, fun k' hk' => .inl hk', fun k' hk' => .inl hk', HKM.out⟩
    · have i2 : ¬ (s2 : Int) > 4000000 := by omega
      go_upto_region 7 with fail
      rw [← hW1]
      clear hW1 b2 c2 cf
      have e2 : W1.cell? ⟨p, 2, none⟩ = some (.int .i64 (s2 : Int)) := cell_of_heap hB1.head
      have HB1 := hid hB1
      have HKM1 := hid KM1
      clear hB1 KM1
      go_upto_region 8 with fail
      have hp := pat_any W1 m 0 (by omega) (by omega)
      rw [show ((0 : Nat) : Int) = 0 from rfl] at hp
      go_wp2_with fail
      refine hp.mono ?_
      rintro e w1' ⟨rfl, rfl⟩
      clear hp
      obtain ⟨W2, hW2⟩ : ∃ W, W = W1.alloc (.cells #[bv (patB m 0)] 5) := ⟨_, rfl⟩
      have k2 : Old W1 W2 := by rw [hW2]; exact (Keeps.refl _ _).alloc _
      have hb2 : W2.heap[W1.heap.size]? = some (.cells #[bv (patB m 0)] 5 (0, 0)) := by rw [hW2]; exact heap_alloc_new _ _
      have HZ2 := hid (show W2.heap.size = W1.heap.size + 1 by rw [hW2]; simp)
      go_upto_region 9 with (at_builtin; rw [← hW2]; refine wpList_app1_nil _ (by rfl) _ _ 22 5 (by rfl) Tryd.underlying22 info5 (by rfl) (by rfl) ⟨W1.heap.size, 0, none⟩ 1 1 [bv (patB m 0)] (by rfl) (by rfl) (World.news_of_block hb2) (by omega) (by omega) (by unfold maxLen; omega) ?_; intro c1 w3 hn3 hc3 hpat3 k3 hz3; replace hz3 := hid hz3)
      clear hW2 hb2
      have hp := pat_any w3 m 0 (by omega) (by omega)
      rw [show ((0 : Nat) : Int) = 0 from rfl] at hp
      have hp2 := pat_any w3 m 1 (by omega) (by omega)
      rw [show ((1 : Nat) : Int) = 1 from rfl] at hp2
      go_wp2_with fail
      refine hp.mono ?_
      rintro e w1' ⟨rfl, rfl⟩
      clear hp
      go_wp2_with fail
      refine hp2.mono ?_
      rintro e w1' ⟨rfl, rfl⟩
      clear hp2
      obtain ⟨W4, hW4⟩ : ∃ W, W = w3.alloc (.cells #[bv (patB m 0), bv (patB m 1)] 5) := ⟨_, rfl⟩
      have k4 : Old w3 W4 := by rw [hW4]; exact (Keeps.refl _ _).alloc _
      have hb4 : W4.heap[w3.heap.size]? = some (.cells #[bv (patB m 0), bv (patB m 1)] 5 (0, 0)) := by rw [hW4]; exact heap_alloc_new _ _
      have HZ4 := hid (show W4.heap.size = w3.heap.size + 1 by rw [hW4]; simp)
      go_upto_region 10 with (at_builtin; rw [← hW4]; refine wpList_app1_nil _ (by rfl) _ _ 22 5 (by rfl) Tryd.underlying22 info5 (by rfl) (by rfl) ⟨w3.heap.size, 0, none⟩ 2 2 [bv (patB m 0), bv (patB m 1)] (by rfl) (by rfl) (news_two hb4) (by omega) (by omega) (by unfold maxLen; omega) ?_; intro c2 w5 hn5 hc5 hpat5 k5 hz5; replace hz5 := hid hz5)
      clear hW4 hb4
      have hp3 : PatB w3 m W2.heap.size c1 1 := hpat3
      have hp5 : PatB w5 m W4.heap.size c2 2 := hpat5
      clear hpat3 hpat5
      obtain ⟨b1, hb1⟩ : ∃ b1, b1 = W1.heap.size + 1 := ⟨_, rfl⟩
      obtain ⟨b2, hb2⟩ : ∃ b2, b2 = w3.heap.size + 1 := ⟨_, rfl⟩
      rw [HZ2.out, ← hb1] at hp3
      rw [HZ4.out, ← hb2] at hp5
      have k23 : Old W1 w5 := ((k2.trans' k3).trans' k4).trans' k5
      have hl1w : PatV (fun x => x = b1) w5 (.slice (some ⟨b1, 0, none⟩) 1 c1) m := ⟨_, 1, c1, rfl, hn3, PatB.bts (Row1.keep hp3 (k4.trans' k5) trivial) (Nat.le_refl _) (by omega)⟩
      have hl2w : PatV (fun x => x = b2) w5 (.slice (some ⟨b2, 0, none⟩) 2 c2) m := ⟨_, 2, c2, rfl, hn5, PatB.bts hp5 (Nat.le_refl _) (by omega)⟩
      have HLL := hid (And.intro hl1w (And.intro hl2w k23))
      clear hp3 hp5 hl1w hl2w k23 k2 k3 k4 k5
      have hfa : ∀ W, Calls Tryd.prog 71 #[.int .i64 0] W fun e w' => e = .returned (.int .i64 0) ∧ W = w' := fun W => by
        have h := far_any W 0 (by omega) (by omega)
        rw [show min (0 : Int) 70000 = 0 by omega] at h
        exact h
      go_upto_region 11 with fail
      rw [← hb1, ← hb2]
      have HBB := hid (And.intro hb1 hb2)
      clear hb1 hb2
      go_wp2
      go_loopw [9, 10] (fun g3 i wr => g3 = .slice none 0 0 ∧ i = .int .i64 0 ∧ w5 = wr) (fun _ i _ => (intOf i).toNat)
      case atStart => exact ⟨rfl, rfl, rfl⟩
      case round =>
        obtain ⟨rfl, rfl, rfl⟩ := hrel
        go_wp2_with fail
        with_reducible refine (hfa _).mono ?_
        rintro e w1' ⟨rfl, rfl⟩
        clear hfa
        obtain ⟨hl2', hl3', KW⟩ := HLL.out
        obtain ⟨hb1, hb2⟩ := HBB.out
        have hzW := KW.size
        have hz0 := HKM1.out.size
        have z3 := HZ2.out
        have z4 := hz3.out
        have z5 := HZ4.out
        have z6 := hz5.out
        have hMl : ∀ x, M x → x < w.heap.size := fun x hx => h.lt x (.inr hx)
        obtain ⟨K', hK'⟩ : ∃ K' : Nat → Prop, K' = fun x => K x ∨ x = b1 ∨ x = b2 := ⟨_, rfl⟩
        have hKK : ∀ x, K x → K' x := fun x hx => by rw [hK']; exact .inl hx
        have hK'w : ∀ x, K' x → K x ∨ w.heap.size ≤ x := fun x hx => by
          rw [hK'] at hx
          rcases hx with hx | hx | hx
          · exact .inl hx
          · right; omega
          · right; omega
        have hK'M : ∀ x, K' x → ¬ M x := fun x hx hm => by
          rcases hK'w x hx with h' | h'
          · exact h.apart x h' hm
          · have := hMl x hm; omega
        have hl1 : PatV K' w5 (.slice none 0 0) m := ⟨none, 0, 0, rfl, Nat.le_refl _, Bts.nil _ _ _⟩
        have hl4 := hl1
        have hl2 : PatV K' w5 (.slice (some ⟨b1, 0, none⟩) 1 c1) m := hl2'.mono fun x hx => by rw [hK']; exact .inr (.inl hx)
        have hl3 : PatV K' w5 (.slice (some ⟨b2, 0, none⟩) 2 c2) m := hl3'.mono fun x hx => by rw [hK']; exact .inr (.inr hx)
        have hBr := HB1.out.keep (w' := w5) (KW.old _)
        have KMr : Keeps (fun k' => ¬ M k' ∧ ¬ False) w w5 := HKM1.out.trans' (KW.old _)
        have hK'l : ∀ x, K' x → x < w5.heap.size := fun x hx => by
          rw [hK'] at hx
          rcases hx with hx | hx | hx
          · have := HB1.out.lt x (.inl hx); omega
          · omega
          · omega
        clear hK' HLL hl2' hl3' z3 z4 z5 z6 hz3 hz5 hb1 hb2
        obtain ⟨n1, hn1⟩ : ∃ n1, n1 = [Value.slice none 0 0, .slice (some ⟨b1, 0, none⟩) 1 c1, .slice (some ⟨b2, 0, none⟩) 2 c2, .slice none 0 0] := ⟨_, rfl⟩
        obtain ⟨W6, hW6⟩ : ∃ W, W = w5.alloc (.cells #[.slice none 0 0, .slice (some ⟨b1, 0, none⟩) 1 c1, .slice (some ⟨b2, 0, none⟩) 2 c2, .slice none 0 0] 22) := ⟨_, rfl⟩
        have k6 : Old w5 W6 := by rw [hW6]; exact (Keeps.refl _ _).alloc _
        have hb6 : W6.heap[w5.heap.size]? = some (.cells #[.slice none 0 0, .slice (some ⟨b1, 0, none⟩) 1 c1, .slice (some ⟨b2, 0, none⟩) 2 c2, .slice none 0 0] 22 (0, 0)) := by rw [hW6]; exact heap_alloc_new _ _
        have hB6 := hBr.keep (k6.old _)
        have hrow6 := hB6.l
        have d0 : w5.cell? ⟨p, 0, none⟩ = some (.slice AL es.length cL) := cell_of_heap hBr.head
        have hz6 : W6.heap.size = w5.heap.size + 1 := by rw [hW6]; simp
        go_upto_region 15 with fail
        go_upto_region 16 with (at_builtin; rw [← hW6]; refine wpList_append_ex _ (by rfl) _ _ 35 22 (by rfl) Tryd.underlying35 info22 (by rfl) (by omega) (by rfl) hrow6 (some ⟨w5.heap.size, 0, none⟩) 4 4 [Value.slice none 0 0, .slice (some ⟨b1, 0, none⟩) 1 c1, .slice (some ⟨b2, 0, none⟩) 2 c2, .slice none 0 0] (by rfl) (by rfl) (fun _ => ⟨_, rfl, World.news_of_block hb6⟩) (by intro u hu; simp at hu; rcases hu with rfl | rfl | rfl | rfl <;> rfl) (by omega) (by unfold maxLen; omega) ?_; intro v7 w7 hown7 hgrow7 hat7; have K67 : Keeps (fun k => (Value.slice AL es.length cL).ownBlock ≠ some k) W6 w7 := (Keeps.refl _ W6).grown hgrow7 (fun k _ h hn => hn h); have hh7 := K67.heap hB6.head hB6.parts.1; have u0 : w7.cell? ⟨p, 0, none⟩ = some (.slice AL es.length cL) := cell_of_heap hh7; have uf : ∀ i, w7.frozen? ⟨p, i, none⟩ = false := fun i => frozen_of_heap hh7; obtain ⟨w8, e8, hd8, hl8, hm8, ho8, k8, hv8, hvp8⟩ := hB6.pushL (ns := n1) K67 (by rw [hn1]; exact hown7) hat7; obtain ⟨A7, c7, hv7, _, _⟩ := own_slice hown7; subst hv7)
        rw [← e8]
        clear e8 hown7 hgrow7 hat7 K67 hh7 u0 uf hW6 hb6 hrow6
        have hn1l : n1.length = 4 := by rw [hn1]; rfl
        have d1 : w8.cell? ⟨p, 1, none⟩ = some (.slice AM es.length cM) := cell_of_heap hd8
        obtain ⟨W9, hW9⟩ : ∃ W, W = w8.alloc (.cells #[.int .i64 (m : Int), .int .i64 (m : Int), .int .i64 (m : Int), .int .i64 (m : Int)] 3) := ⟨_, rfl⟩
        have k9 : Old w8 W9 := by rw [hW9]; exact (Keeps.refl _ _).alloc _
        have hb9 : W9.heap[w8.heap.size]? = some (.cells #[.int .i64 (m : Int), .int .i64 (m : Int), .int .i64 (m : Int), .int .i64 (m : Int)] 3 (0, 0)) := by rw [hW9]; exact heap_alloc_new _ _
        have hm9 := own_keeps hm8 k9 (fun _ _ => trivial)
        have hl9 := own_keeps hl8 k9 (fun _ _ => trivial)
        have ho9 := own_keeps ho8 k9 (fun _ _ => trivial)
        have hd9 := k9.heap hd8 trivial
        have hz8 := k8.size
        have hz9 := k9.size
        go_wp2_with (at_builtin; rw [← hW9]; refine wpList_append_ex _ (by rfl) _ _ 81 3 (by rfl) Tryd.underlying81 info3 (by rfl) (by omega) (by rfl) hm9 (some ⟨w8.heap.size, 0, none⟩) 4 4 [.int .i64 (m : Int), .int .i64 (m : Int), .int .i64 (m : Int), .int .i64 (m : Int)] (by rfl) (by rfl) (fun _ => ⟨_, rfl, World.news_of_block hb9⟩) (by intro u hu; simp at hu; rw [hu]; rfl) (by omega) (by unfold maxLen; omega) ?_; intro v10 w10 hown10 hgrow10 hat10; have K10 : Keeps (fun k => (Value.slice AM es.length cM).ownBlock ≠ some k) W9 w10 := (Keeps.refl _ W9).grown hgrow10 (fun k _ h hn => hn h); have hmp : (Value.slice AM es.length cM).ownBlock ≠ some p := hB6.parts.2.1; have hh10 := K10.heap hd9 hmp; have y1 : w10.cell? ⟨p, 1, none⟩ = some (.slice AM es.length cM) := cell_of_heap hh10; have yf : ∀ i, w10.frozen? ⟨p, i, none⟩ = false := fun i => frozen_of_heap hh10; obtain ⟨A10, c10, hv10, _, _⟩ := own_slice hown10; subst hv10)
        clear hW9 hb9 d1
        have hz10 := K10.size
        obtain ⟨W11, hW11⟩ : ∃ W, W = w10.setCell ⟨p, 1, none⟩ (.slice A10 (es.length + 4) c10) := ⟨_, rfl⟩
        have k11 : Keeps (· ≠ p) w10 W11 := by rw [hW11]; exact (Keeps.refl _ _).setCell (fun _ h => h rfl) _
        have hd11 : W11.heap[p]? = some (.cells #[.slice A7 (es.length + 4) c7, .slice A10 (es.length + 4) c10, .int .i64 (s2 : Int), vO] 83 (0, 0)) := by rw [hW11, heap_setCell hh10]; rfl
        rw [hn1l] at hl8 hl9
        have hvp10 : (Value.slice A10 (es.length + 4) c10).ownBlock ≠ some p := own_ne_heap hown10 hh10 (by decide)
        have hl11 := own_keeps (own_keeps hl9 K10 (fun x hx => fun e => own_ne hl9 hm9 (by decide) hx e)) k11 (fun x hx e => hvp8 (by rw [hx, e]))
        have hm11 := own_keeps hown10 k11 (fun x hx e => hvp10 (by rw [hx, e]))
        have hvo : vO.ownBlock ≠ some p := hB6.parts.2.2.1
        have ho11 := own_keeps (own_keeps ho9 K10 (fun x hx => fun e => own_ne ho9 hm9 (by decide) hx e)) k11 (fun x hx e => hvo (by rw [hx, e]))
        have kM : Keeps (fun x => ¬ M x) w5 W11 := ((((k6.old _).trans' k8).trans' (k9.old _)).trans' (K10.mono fun x _ hx e => hx (hB6.mf x e))).trans' (k11.mono fun x _ hx e => hx (by rw [e]; exact h.fp))
        have kK : Keeps K' w5 W11 := kM.mono fun x _ hx => hK'M x hx
        have hM10 : ∀ x, (Value.slice A10 (es.length + 4) c10).ownBlock = some x → M x ∨ W6.heap.size ≤ x := fun x hx => by
          rcases hat10 with e | e
          · rw [e] at hx; exact .inl (hB6.mf x hx)
          · rw [e] at hx; injection hx with hx; right; omega
        have hsl : (fun e : Value × Nat => e.1) = (·.1) := rfl
        have hB11 : BookM K' (fun x => M x ∨ (Value.slice A7 (es.length + 4) c7).ownBlock = some x ∨ (Value.slice A10 (es.length + 4) c10).ownBlock = some x) W11 p (.slice A7 (es.length + 4) c7) (.slice A10 (es.length + 4) c10) vO
            (es ++ [(Value.slice none 0 0, m), (.slice (some ⟨b1, 0, none⟩) 1 c1, m), (.slice (some ⟨b2, 0, none⟩) 2 c2, m), (.slice none 0 0, m)]) os s2 := by
          refine ⟨hd11, ?_, fun x hx => .inr (.inl hx), ?_, fun x hx => .inr (.inr hx), ho11, fun x hx => .inl (hBr.of x hx), fun e he => ?_, fun e he => ((hBr.outs e he).mono hKK).keep kK, .inl h.fp, fun x hx hm => ?_, fun x hx => ?_, fun e he => ?_⟩
          · rw [List.length_append, List.map_append]
            rw [hn1] at hl11
            exact hl11
          · rw [List.length_append, List.map_append]
            exact hm11
          · rcases List.mem_append.1 he with he | he
            · exact ((hBr.ents e he).mono hKK).keep kK
            · simp at he
              rcases he with rfl | rfl | rfl | rfl
              · exact hl1.keep kK
              · exact hl2.keep kK
              · exact hl3.keep kK
              · exact hl4.keep kK
          · have h1 := hK'l x hx
            rcases hm with hm | hm | hm
            · exact hK'M x hx hm
            · rcases hv8 x hm with h' | h'
              · exact hK'M x hx h'
              · omega
            · rcases hM10 x hm with h' | h'
              · exact hK'M x hx h'
              · omega
          · have hzk := kM.size
            rcases hx with hx | hx | hx | hx
            · have := hK'l x hx; omega
            · have := hMl x hx; omega
            · exact own_lt hl11 hx
            · exact own_lt hm11 hx
          · rcases List.mem_append.1 he with he | he
            · exact hBr.ml e he
            · simp at he
              rcases he with rfl | rfl | rfl | rfl <;> exact Nat.le_trans hml (by decide)
        have HB11 := hid hB11
        have HKK := hid (KMr.trans' (kM.mono fun x _ hx => hx.1))
        clear hB11 hl11 hm11 ho11 hd11 hl9 hm9 ho9 hd9 hl8 hm8 ho8 hd8 hown10 hgrow10 hh10 hl1 hl2 hl3 hl4 K10 k11 kM kK KMr hBr hB6 k6 k8 k9
        first | go_end0 | refine bodyPost_ret (results_none rfl _ _ _) rfl ?_
        rw [← hW11]
        exact ⟨rfl, K', _, _, _, _, HB11.out, by simp, fun x hx => by
          rcases hK'w x hx with h' | h'
          · exact .inl h'
          · exact .inr (.inr h'), fun x hx => by
          rcases hx with hx | hx | hx
          · exact .inl hx
          · rcases hv8 x hx with h' | h'
            · exact .inl h'
            · right; omega
          · rcases hM10 x hx with h' | h'
            · exact .inl h'
            · right; omega, HKK.out⟩

/-- What may be kept: nothing, or the front of a block that is neither kept nor the book's. -/
def KeepIn (K M : Nat → Prop) (w : World) (lv : Value) (n : Nat) : Prop := (lv = .slice none 0 0 ∧ n = 0) ∨ ∃ b c, lv = .slice (some ⟨b, 0, none⟩) n c ∧ Row1 w 5 b c [] ∧ n ≤ c ∧ c ≤ maxLen ∧ ¬ K b ∧ ¬ M b

theorem KeepIn.ofOwn {K M F : Nat → Prop} {w : World} {v : Value} {bs : List UInt8} (h : OwnB F w v bs) (hF : ∀ k, k < w.heap.size → F k → ¬ K k ∧ ¬ M k) : KeepIn K M w v bs.length := by
  rcases h.row.2 with ⟨hv, h0⟩ | ⟨g, cap, cur, hv, hb0, hg, hnc, hcm, hcs, ht⟩
  · exact .inl ⟨hv, h0⟩
  · have hf := hF g (lt_of_heap hg) (h.foot g (by rw [hv]; rfl))
    exact .inr ⟨g, cap, hv, ⟨cur, hg, by omega, by simp, by simp⟩, hnc, hcm, hf.1, hf.2⟩

theorem keep_any (w : World) (K M : Nat → Prop) (p : Nat) (vL vM vO : Value) (es : List (Value × Nat)) (os : List (Value × UInt8)) (size : Nat) (h : BookM K M w p vL vM vO es os size) (hes : es.length ≤ 4000000000000) (hsz : size ≤ 2305843009213693952)
    (lv : Value) (n : Nat) (hlv : KeepIn K M w lv n) (hnl : n ≤ 1000000000000) :
    Calls Tryd.prog 49 #[.pointer (some ⟨p, 0, none⟩), lv] w (PostKeep K M (fun k => lv.ownBlock = some k) w p vO os (es.length + 4) (size + n + 400)) := by
  rcases hlv with ⟨rfl, rfl⟩ | ⟨b, c, rfl, hr, hn, hc, hK, hM⟩
  · refine (keep_nil w K M p vL vM vO es os size h hes hsz).mono ?_
    rintro e w' ⟨rfl, K', M', vL', vM', es', h1, h2, h3, h4, h5⟩
    exact ⟨rfl, K', M', vL', vM', es', h1, h2, fun k hk => by
      rcases h3 k hk with h' | h' | h'
      · exact .inl h'
      · exact h'.elim
      · exact .inr (.inr h'), h4, h5.mono fun k _ hk => ⟨hk.1, fun hf => hf⟩⟩
  · refine (keep_blk w K M p vL vM vO es os size h hes hsz b n c hr hn hnl hc hK hM).mono ?_
    rintro e w' ⟨rfl, K', M', vL', vM', es', h1, h2, h3, h4, h5⟩
    exact ⟨rfl, K', M', vL', vM', es', h1, h2, fun k hk => by
      rcases h3 k hk with h' | h' | h'
      · exact .inl h'
      · exact .inr (.inl (by rw [h']; rfl))
      · exact .inr (.inr h'), h4, h5.mono fun k _ hk => ⟨hk.1, fun hf => hk.2 (by rw [hf]; rfl)⟩⟩
end Go.Proofs.YtdpaaoeipconcaaDoor


namespace Go.Proofs.YtdpaaoeipconcaaDoor
open Go.RowKit

/-- the byte of the i-th list of lists -/
def outB (i : Nat) : UInt8 := UInt8.ofNat (1 + i / 2 % 250)
/-- The lists of lists come in pairs, each with its byte. -/
def OutsOK (os : List (Value × UInt8)) : Prop := os.length % 2 = 0 ∧ ∀ i (h : i < os.length), os[i].2 = outB i

theorem outB_val (i : Nat) : bv (outB i) = .int .u8 ((1 + i / 2 % 250 : Nat) : Int) := by
  unfold outB
  rw [ofNat_bv, Nat.mod_eq_of_lt (by omega)]

theorem own_cells {w : World} {b e s n : Nat} {v : Value} {xs : List Value} (h : w.ownsRow b e s v n xs) (hn : 0 < n) : ∃ g c, v = .slice (some ⟨g, 0, none⟩) n c ∧ n ≤ c ∧ c ≤ maxLen ∧ ∀ i, i < n * s → w.cell? ⟨g, i, none⟩ = xs[i]? := by
  obtain ⟨hl, h | ⟨g, cap, cur, hv, hb, hg, hnc, hcm, hcs, ht⟩⟩ := h
  · omega
  · refine ⟨g, cap, hv, hnc, hcm, fun i hi => ?_⟩
    rw [cell_of_heap hg, ← ht, List.getElem?_take, if_pos hi]
    simp

set_option maxRecDepth 10000 in
set_option maxHeartbeats 8000000 in
theorem whole_any (w : World) (K M : Nat → Prop) (p : Nat) (vL vM vO : Value) (es : List (Value × Nat)) (os : List (Value × UInt8)) (size : Nat) (h : BookM K M w p vL vM vO es os size) (hos : OutsOK os) (hes : es.length ≤ 4000000000000) (hol : os.length ≤ 4000000000000) :
    Calls Tryd.prog 52 #[.pointer (some ⟨p, 0, none⟩)] w fun e w' => e = .returned (.bool true) ∧ Old w w' := by
  obtain ⟨AL, cL, hvL, _, _⟩ := own_slice h.l
  subst hvL
  obtain ⟨AM, cM, hvM, _, _⟩ := own_slice h.m
  subst hvM
  obtain ⟨AO, cO, hvO, _, _⟩ := own_slice h.o
  subst hvO
  have HB := hid h
  have HOS := hid hos.2
  have HML := hid h.ml
  have HC : Hid (∀ W, Old w W → W.cell? ⟨p, 0, none⟩ = some (.slice AL es.length cL) ∧ W.cell? ⟨p, 1, none⟩ = some (.slice AM es.length cM) ∧ W.cell? ⟨p, 3, none⟩ = some (.slice AO os.length cO)) := hid fun W hW => by
    have hh := hW.heap h.head trivial
    exact ⟨cell_of_heap hh, cell_of_heap hh, cell_of_heap hh⟩
  have HK := hid (Keeps.refl (fun _ => True) w)
  clear h hos
  go_enter Tryd.func52, Tryd.ntmps52
  go_wp2
  go_loopw [3, 4] (fun i _ wr => ∃ k : Nat, i = .int .i64 k ∧ k ≤ os.length ∧ Hid (Old w wr)) (fun i _ _ => os.length - (intOf i).toNat)
  case atStart => exact ⟨0, rfl, Nat.zero_le _, HK⟩
  case round =>
    clear HK
    obtain ⟨k, rfl, hk, hold⟩ := hrel
    obtain ⟨c0, c1, c3⟩ := HC.out wr hold.out
    have i0 : (0 : Int) ≤ (k : Int) := by omega
    by_cases hlt : k < os.length
    · have i1 : (k : Int) < (os.length : Int) := by omega
      obtain ⟨gO, cO', hvO, _, _, hrow⟩ := own_cells HB.out.o (by omega)
      injection hvO with hAO hnn hcc
      clear hnn
      subst hAO hcc
      have hx : os[k].2 = outB k := HOS.out k hlt
      obtain ⟨A, n, c, hv, hnc, hR⟩ := HB.out.outs os[k] (List.getElem_mem hlt)
      have hcell : w.cell? ⟨gO, k, none⟩ = some (.slice A n c) := by rw [hrow k (by omega), List.getElem?_map, List.getElem?_eq_getElem hlt, ← hv]; rfl
      rw [hx] at hR
      have hrl : n ≤ 281474976710656 := by have := hR.1; rwa [List.length_replicate] at this
      have d0 := (hold.out.cell (p := ⟨gO, k, none⟩) (lt_of_cell hcell) trivial).trans hcell
      have HCL := hid hcell
      have HR := hid hR
      obtain ⟨q, hq⟩ : ∃ q, q = k / 2 := ⟨_, rfl⟩
      have e1 : (k : Int) / 2 = (q : Int) := by omega
      have e1' : (k : Int).tdiv 2 = (q : Int) := by rw [Int.tdiv_eq_ediv_of_nonneg (by omega)]; exact e1
      obtain ⟨r, hr⟩ : ∃ r, r = q % 250 := ⟨_, rfl⟩
      have e2 : (q : Int) % 250 = (r : Int) := by omega
      have e2' : (q : Int).tmod 250 = (r : Int) := by rw [Int.tmod_eq_emod_of_nonneg (by omega)]; exact e2
      obtain ⟨T, hT⟩ : ∃ T, T = 1 + r := ⟨_, rfl⟩
      have e3 : IntKind.i64.wrap (1 + (r : Int)) = (T : Int) := by rw [IntKind.wrap_i64]; omega
      have e4 : IntKind.u8.wrap (T : Int) = (T : Int) := by rw [IntKind.wrap_u8]; omega
      have hbt : bv (outB k) = .int .u8 (T : Int) := by rw [outB_val, hT, hr, hq]
      have hT2 : T < 256 := by omega
      have hq0 : q ≤ 4000000000000 := by omega
      have HBT := hid hbt
      clear hq hr hT hbt hx hv hR hrow hcell
      generalize outB k = x at *
      have HK := hid hold.out
      go_wp2
      go_loopw [4] (fun j wr2 => ∃ l : Nat, j = .int .i64 l ∧ l ≤ n ∧ Hid (Old w wr2)) (fun j _ => n - (intOf j).toNat)
      case atStart => exact ⟨0, rfl, Nat.zero_le _, HK⟩
      case round =>
        clear HK hold c0 c1 c3 d0
        obtain ⟨l, rfl, hl, hold2⟩ := hrel
        obtain ⟨c0, c1, c3⟩ := HC.out _ hold2.out
        have d0 := (hold2.out.cell (p := ⟨gO, k, none⟩) (lt_of_cell HCL.out) trivial).trans HCL.out
        have i2 : (0 : Int) ≤ (l : Int) := by omega
        by_cases hlt2 : l < n
        · have i3 : (l : Int) < (n : Int) := by omega
          obtain ⟨bA, oA, A', c', rfl, hSb, r0, r1, r2⟩ := (HR.out.keep (hold2.out.old _)).at_ (i := l) (by rw [List.length_replicate]; exact hlt2)
          rw [List.getElem_replicate] at r0 r1 r2
          rw [show [x].length = 1 from rfl] at r0 r1
          obtain ⟨W2, hW2⟩ : ∃ W, W = wr.alloc (.cells #[.int .u8 (T : Int)] 5) := ⟨_, rfl⟩
          have k2 : Old wr W2 := by rw [hW2]; exact (Keeps.refl _ _).alloc _
          have hb2 : W2.heap[wr.heap.size]? = some (.cells #[.int .u8 (T : Int)] 5 (0, 0)) := by rw [hW2]; exact heap_alloc_new _ _
          have hbt2 : Bts (fun k => k = wr.heap.size) W2 (some ⟨wr.heap.size, 0, none⟩) [x] := Bts.of_block (t := 5) (by rw [hb2, ← HBT.out]; rfl) (by simp)
          have hsm := same_any W2 K _ A' _ c' 1 [x] [x] (r2.keep (k2.old _)) hbt2
          rw [decide_eq_true rfl, show [x].length = 1 from rfl] at hsm
          clear hbt2 hb2 r2
          go_wp2_with fail
          rw [← hW2]
          refine hsm.mono ?_
          rintro e w3 ⟨rfl, n3, hw3⟩
          clear hsm
          have HK := hid ((hold2.out.trans' k2).trans' (by rw [← hw3]; exact (Keeps.refl _ _).drewN _ : Old W2 w3))
          clear hW2 hw3 k2
          go_wp2
          exact ⟨⟨l + 1, by go_num, by omega, HK⟩, by simp [intOf]; omega⟩
        · obtain rfl : l = n := by omega
          have i3 : ¬ ((l : Nat) : Int) < (l : Int) := by omega
          have HK := hold2
          go_wp2
          exact ⟨⟨k + 1, by go_num, by omega, HK⟩, by simp [intOf]; omega⟩
    · have i1 : ¬ (k : Int) < (os.length : Int) := by omega
      have HK := hold
      go_wp2
      clear hold c0 c1 c3 i0 i1 hlt hk
      go_loopw [5, 6, 7] (fun i _ _ wr => ∃ k : Nat, i = .int .i64 k ∧ k ≤ es.length ∧ Hid (Old w wr)) (fun i _ _ _ => es.length - (intOf i).toNat)
      case atStart => exact ⟨0, rfl, Nat.zero_le _, HK⟩
      case round =>
        clear HK
        obtain ⟨k, rfl, hk, hold⟩ := hrel
        obtain ⟨c0, c1, c3⟩ := HC.out _ hold.out
        have i0 : (0 : Int) ≤ (k : Int) := by omega
        by_cases hlt : k < es.length
        · have i1 : (k : Int) < (es.length : Int) := by omega
          obtain ⟨gL, cL', hvL, _, _, hrowL⟩ := own_cells HB.out.l (by omega)
          injection hvL with hAL hnn hcc
          clear hnn
          subst hAL hcc
          obtain ⟨gM, cM', hvM, _, _, hrowM⟩ := own_cells HB.out.m (by omega)
          injection hvM with hAM hnn hcc
          clear hnn
          subst hAM hcc
          obtain ⟨A, n, c, hv, hnc, hR⟩ := HB.out.ents es[k] (List.getElem_mem hlt)
          have hcellL : w.cell? ⟨gL, k, none⟩ = some (.slice A n c) := by rw [hrowL k (by omega), List.getElem?_map, List.getElem?_eq_getElem hlt, ← hv]; rfl
          have hcellM : w.cell? ⟨gM, k, none⟩ = some (.int .i64 (es[k].2 : Int)) := by rw [hrowM k (by omega), List.getElem?_map, List.getElem?_eq_getElem hlt]; rfl
          have hm2 := HML.out es[k] (List.getElem_mem hlt)
          have hrl : n ≤ 281474976710656 := by have := hR.1; rwa [pats_length] at this
          have d0 := (hold.out.cell (p := ⟨gL, k, none⟩) (lt_of_cell hcellL) trivial).trans hcellL
          have HCM := hid hcellM
          have HR := hid hR
          clear hcellM hcellL hR hv hrowL hrowM
          generalize es[k].2 = m at *
          have HK := hid hold.out
          go_wp2
          go_loopw [7] (fun j wr2 => ∃ l : Nat, j = .int .i64 l ∧ l ≤ n ∧ Hid (Old w wr2)) (fun j _ => n - (intOf j).toNat)
          case atStart => exact ⟨0, rfl, Nat.zero_le _, HK⟩
          case round =>
            clear HK hold c0 c1 c3 d0
            obtain ⟨l, rfl, hl, hold2⟩ := hrel
            obtain ⟨c0, c1, c3⟩ := HC.out _ hold2.out
            have i2 : (0 : Int) ≤ (l : Int) := by omega
            by_cases hlt2 : l < n
            · have i3 : (l : Int) < (n : Int) := by omega
              obtain ⟨bA, oA, rfl, hSb, r0⟩ := (HR.out.keep (hold2.out.old _)).at_ (j := l) (by rw [pats_length]; exact hlt2)
              have hg : (pats m n)[l]'(by rw [pats_length]; exact hlt2) = patB m l := by
                have := pats_get m n hlt2
                rw [List.getElem?_eq_getElem (by rw [pats_length]; exact hlt2)] at this
                exact Option.some.inj this
              rw [hg] at r0
              clear hg
              have d1 := (hold2.out.cell (p := ⟨gM, k, none⟩) (lt_of_cell HCM.out) trivial).trans HCM.out
              have hq : ∀ n, Calls Tryd.prog 70 #[.int .i64 (m : Int), .int .i64 (l : Int)] (wr.drewN n) fun e w' => e = .returned (bv (patB m l)) ∧ ∃ k, w' = wr.drewN k := fun n => (pat_any (wr.drewN n) m l hm2 (by omega)).mono fun e w' ⟨h, hk⟩ => ⟨h, n, hk.symm⟩
              have HQ := hid hq
              clear hq
              generalize patB m l = x at *
              go_upto_region 16 with fail
              go_quiet (first | (go_at_call 70; with_reducible exact HQ.out _))
              have HK := hid (hold2.out.trans' ((Keeps.refl _ _).drewN nq))
              go_wp2
              exact ⟨⟨l + 1, by go_num, by omega, HK⟩, by simp [intOf]; omega⟩
            · obtain rfl : l = n := by omega
              have i3 : ¬ ((l : Nat) : Int) < (l : Int) := by omega
              have HK := hold2
              go_wp2
              exact ⟨⟨k + 1, by go_num, by omega, HK⟩, by simp [intOf]; omega⟩
        · have i1 : ¬ (k : Int) < (es.length : Int) := by omega
          have HK := hold
          go_wp2
          go_ret
          exact ⟨rfl, HK.out⟩
end Go.Proofs.YtdpaaoeipconcaaDoor

namespace Go.Proofs.YtdpaaoeipconcaaDoor
open Go.RowKit

theorem info35B : (Tryd.prog.info? 35).map (fun i => (i.zero, i.size, i.bytes)) = some (some (.slice none 0 0), 1, 24) := by kernel_rfl

/-- how much the sizes of records add to a book's -/
def keepSum (q : List (List UInt8 × Value)) : Nat := (q.map fun x => x.1.length + 400).sum
theorem keepSum_take (q : List (List UInt8 × Value)) {k : Nat} (h : k < q.length) : keepSum (q.take (k + 1)) = keepSum (q.take k) + (q[k].1.length + 400) := by
  unfold keepSum
  rw [List.take_succ_eq_append_getElem h, List.map_append, List.sum_append]
  simp
theorem keepSum_le (q : List (List UInt8 × Value)) (k : Nat) : keepSum (q.take k) ≤ keepSum q := by
  have : keepSum (q.take k) + keepSum (q.drop k) = keepSum q := by
    unfold keepSum
    rw [← List.sum_append, ← List.map_append, List.take_append_drop]
  omega

def PostKeepAll (K M B : Nat → Prop) (w : World) (p : Nat) (e : Ending) (w' : World) (N S : Nat) : Prop :=
  e = .returned (.tuple #[]) ∧ ∃ K' M' vL vM vO es os size, BookM K' M' w' p vL vM vO es os size ∧ OutsOK os ∧ es.length ≤ N ∧ os.length ≤ N ∧ size ≤ S ∧ (∀ k, K' k → K k ∨ B k ∨ w.heap.size ≤ k) ∧ (∀ k, M' k → M k ∨ w.heap.size ≤ k) ∧ Keeps (fun k => ¬ M k ∧ ¬ B k) w w'

/-- The list's block: its first k places hold one value. -/
def LSt (w : World) (A : Option Addr) (n c : Nat) (one : Value) (k : Nat) : Prop := (A = none ∧ n = 0 ∧ c = 0) ∨ ∃ gl, A = some ⟨gl, 0, none⟩ ∧ Row1 w 22 gl c (List.replicate k one)
theorem LSt.keep {w w' : World} {A : Option Addr} {n c : Nat} {one : Value} {k : Nat} {S : Nat → Prop} (h : LSt w A n c one k) (hk : Keeps S w w') (hS : ∀ x, A = some ⟨x, 0, none⟩ → S x) : LSt w' A n c one k := by
  rcases h with h | ⟨gl, e, h⟩
  · exact .inl h
  · exact .inr ⟨gl, e, h.keep hk (hS gl e)⟩

theorem LSt.out {S : Nat → Prop} {w : World} {A : Option Addr} {n c gb k m : Nat} {x : UInt8} (h : LSt w A n c (.slice (some ⟨gb, 0, none⟩) 1 1) k) (hb : w.heap[gb]? = some (.cells #[bv x] 5 (0, 0))) (hS : ∀ y, A = some ⟨y, 0, none⟩ → S y) (hSb : S gb) (hm : m ≤ k) (hc : m ≤ c) (hl : m ≤ 281474976710656) : OutV S w (.slice A m c) x := by
  refine ⟨A, m, c, rfl, hc, ?_⟩
  rcases h with ⟨_, _, h0⟩ | ⟨gl, hgl, hr⟩
  · obtain rfl : m = 0 := by omega
    exact Rcs.nil _ _ _
  · refine ⟨by rw [List.length_replicate]; exact hl, fun _ => ⟨gl, 0, hgl, hS gl hgl, fun i hi => ⟨some ⟨gb, 0, none⟩, 1, ?_, ?_, ?_⟩⟩⟩
    · rw [List.length_replicate] at hi
      rw [Nat.zero_add, hr.cell (by rw [List.length_replicate]; omega), List.getElem?_replicate, if_pos (by omega), List.getElem_replicate]
      rfl
    · rw [List.getElem_replicate]
      exact Nat.le_refl _
    · rw [List.getElem_replicate]
      exact (Bts.of_block (t := 5) (by rw [hb]; rfl) (by simp) : Bts (fun k => k = gb) w (some ⟨gb, 0, none⟩) [x]).mono' fun y hy => by rw [hy]; exact hSb
theorem OutsOK.push2 {os : List (Value × UInt8)} (h : OutsOK os) (a b : Value) : OutsOK (os ++ [(a, outB os.length), (b, outB os.length)]) := by
  obtain ⟨h0, h1⟩ := h
  refine ⟨by rw [List.length_append]; show (os.length + 2) % 2 = 0; omega, fun i hi => ?_⟩
  have hi' : i < os.length + 2 := by rw [List.length_append] at hi; exact hi
  by_cases h2 : i < os.length
  · rw [List.getElem_append_left h2]
    exact h1 i h2
  · rw [List.getElem_append_right (by omega)]
    have : i - os.length = 0 ∨ i - os.length = 1 := by omega
    have e : outB i = outB os.length := by unfold outB; rw [show i / 2 = os.length / 2 by omega]
    rw [e]
    rcases this with h3 | h3 <;> simp [h3]

/-- ahead of a round of the first loop -/
def InKA (w : World) (K M F : Nat → Prop) (p : Nat) (vO : Value) (os : List (Value × UInt8)) (N size : Nat) (L : Value) (q : List (List UInt8 × Value)) (k : Nat) (wr : World) : Prop :=
  ∃ K' M' vL vM es, BookM K' M' wr p vL vM vO es os (size + keepSum (q.take k)) ∧ es.length ≤ N + 4 * k ∧ wr.ownsRow 0 22 1 L q.length (q.map (·.2)) ∧ (∀ i (h : i < q.length), k ≤ i → OwnB F wr q[i].2 q[i].1 ∧ ∀ x, q[i].2.ownBlock = some x → ¬ K' x ∧ ¬ M' x) ∧
    (∀ x, L.ownBlock = some x → ¬ K' x ∧ ¬ M' x) ∧ (∀ x, K' x → K x ∨ F x ∨ w.heap.size ≤ x) ∧ (∀ x, M' x → M x ∨ w.heap.size ≤ x) ∧ Keeps (fun x => ¬ M x ∧ ¬ F x) w wr

set_option maxRecDepth 10000 in
set_option maxHeartbeats 8000000 in
theorem keepAll_any (w : World) (K M F : Nat → Prop) (p : Nat) (vL vM vO : Value) (es : List (Value × Nat)) (os : List (Value × UInt8)) (size : Nat) (h : BookM K M w p vL vM vO es os size) (hos : OutsOK os) (L : Value) (q : List (List UInt8 × Value)) (hL : OwnR F w L q)
    (hF : ∀ k, k < w.heap.size → F k → ¬ K k ∧ ¬ M k) (_ : ∀ k, F k → k < w.heap.size) (hql : q.length ≤ 1000000) (hqs : ∀ x ∈ q, x.1.length ≤ 1000000000) (hes : es.length ≤ 3000000000000) (hol : os.length ≤ 3000000000000) (hsz : size ≤ 2205843009213693952) (hsum : keepSum q ≤ 1000000000000000) :
    Calls Tryd.prog 50 #[.pointer (some ⟨p, 0, none⟩), L] w fun e w' => PostKeepAll K M F w p e w' (max (es.length + 4 * q.length) (os.length + 2)) (size + keepSum q + 24 * q.length + 3000) := by
  obtain ⟨AL, c, hLv, hnc, hcm⟩ := own_slice hL.row
  subst hLv
  have hrs := keepSum_le q
  have HS := hid (show InKA w K M F p vO os es.length size (.slice AL q.length c) q 0 w from ⟨K, M, vL, vM, es, by simpa [keepSum] using h, by omega, hL.row, fun i hi _ => ⟨hL.own _ (List.getElem_mem hi), fun x hx => hF x (own_lt (hL.own _ (List.getElem_mem hi)).row hx) ((hL.own _ (List.getElem_mem hi)).foot x hx)⟩, fun x hx => hF x (own_lt hL.row hx) (hL.foot x hx), fun x hx => .inl hx, fun x hx => .inl hx, Keeps.refl _ _⟩)
  have HD := hid (List.pairwise_iff_getElem.1 hL.dis)
  have HLF := hid (fun (x : Nat) hx => hL.foot x hx)
  have HLO := hid (And.intro hL.own hqs)
  have HOS := hid hos
  have HSU := hid (fun k hk => keepSum_take q (k := k) hk)
  have HRS := hid hrs
  clear hrs hos hqs
  go_enter Tryd.func50, Tryd.ntmps50
  go_wp2
  go_loopw [4] (fun i wr => ∃ k : Nat, i = .int .i64 k ∧ k ≤ q.length ∧ Hid (InKA w K M F p vO os es.length size (.slice AL q.length c) q k wr)) (fun i _ => q.length - (intOf i).toNat)
  case atStart => exact ⟨0, rfl, Nat.zero_le _, HS⟩
  case round =>
    clear HS
    obtain ⟨k, rfl, hk, hin⟩ := hrel
    obtain ⟨K', M', vL', vM', es', hB, hel, hrow, hrest, hLa, hK', hM', hkp⟩ := hin.out
    have i0 : (0 : Int) ≤ (k : Int) := by omega
    have hs1 := HRS.out k
    have hzk := hkp.size
    by_cases hlt : k < q.length
    · have i1 : (k : Int) < (q.length : Int) := by omega
      obtain ⟨gl, cc, hv, _, _, hcells⟩ := own_cells hrow (by omega)
      injection hv with hA hnn hcc
      clear hnn
      subst hA hcc
      have hcell : wr.cell? ⟨gl, k, none⟩ = some q[k].2 := by rw [hcells k (by omega), List.getElem?_map, List.getElem?_eq_getElem hlt]; rfl
      obtain ⟨hown, hout⟩ := hrest k hlt (Nat.le_refl _)
      have hkin : KeepIn K' M' wr q[k].2 q[k].1.length := KeepIn.ofOwn hown.own_ fun x _ hx => hout x hx
      have hqk := HLO.out.2 q[k] (List.getElem_mem hlt)
      have hke := keep_any wr K' M' p vL' vM' vO es' os _ hB (by omega) (by omega) q[k].2 q[k].1.length hkin (by omega)
      have hsk := HSU.out k hlt
      rw [show size + keepSum (q.take k) + q[k].1.length + 400 = size + keepSum (q.take (k + 1)) by omega] at hke
      obtain ⟨Ak, ck, hvk, _, _⟩ := hown.slice
      rw [hvk] at hcell hke
      clear hcells hs1 hsk
      go_wp2_with fail
      refine hke.mono ?_
      rintro e w1 ⟨rfl, K1, M1, vL1, vM1, es1, hB1, hel1, hK1, hM1, hk1⟩
      rw [← hvk] at hK1 hk1
      have hz1 := hk1.size
      have hfk : ∀ x, q[k].2.ownBlock = some x → F x := fun x hx => hown.foot x hx
      have hLne : ∀ x, (Value.slice (some ⟨gl, 0, none⟩) q.length c).ownBlock = some x → q[k].2.ownBlock ≠ some x := fun x hx e => own_ne hrow hown.row (by decide) hx e
      have HR := hid (show InKA w K M F p vO os es.length size (.slice (some ⟨gl, 0, none⟩) q.length c) q (k + 1) w1 from by
        refine ⟨K1, M1, vL1, vM1, es1, hB1, by omega, own_keeps hrow hk1 (fun x hx => ⟨(hLa x hx).2, hLne x hx⟩), fun i hi hki => ?_, fun x hx => ?_, fun x hx => ?_, fun x hx => ?_, hkp.trans hk1 fun x hxw hx => ⟨fun hm => ?_, fun hb => hx.2 (hfk x hb)⟩⟩
        · obtain ⟨ho, hn⟩ := hrest i hi (by omega)
          have hne : ∀ x, q[i].2.ownBlock = some x → q[k].2.ownBlock ≠ some x := fun x hx e => HD.out k i hlt hi (by omega) x e hx
          refine ⟨⟨own_keeps ho.row hk1 (fun x hx => ⟨(hn x hx).2, hne x hx⟩), ho.foot, ho.len⟩, fun x hx => ⟨fun hk2 => ?_, fun hm2 => ?_⟩⟩
          · rcases hK1 x hk2 with h' | h' | h'
            · exact (hn x hx).1 h'
            · exact hne x hx h'
            · have := own_lt ho.row hx; omega
          · rcases hM1 x hm2 with h' | h'
            · exact (hn x hx).2 h'
            · have := own_lt ho.row hx; omega
        · refine ⟨fun hk2 => ?_, fun hm2 => ?_⟩
          · rcases hK1 x hk2 with h' | h' | h'
            · exact (hLa x hx).1 h'
            · exact hLne x hx h'
            · have := own_lt hrow hx; omega
          · rcases hM1 x hm2 with h' | h'
            · exact (hLa x hx).2 h'
            · have := own_lt hrow hx; omega
        · rcases hK1 x hx with h' | h' | h'
          · exact hK' x h'
          · exact .inr (.inl (hfk x h'))
          · right; right; omega
        · rcases hM1 x hx with h' | h'
          · exact hM' x h'
          · right; omega
        · rcases hM' x hm with h' | h'
          · exact hx.1 h'
          · omega)
      clear hB1 hK1 hM1 hk1 hrest hLa hB hrow hkin hown
      go_wp2
      exact ⟨⟨k + 1, by go_num, by omega, HR⟩, by simp [intOf]; omega⟩
    · obtain rfl : k = q.length := by omega
      have i1 : ¬ ((q.length : Nat) : Int) < (q.length : Int) := by omega
      rw [List.take_length] at hB
      obtain ⟨n, hn⟩ : ∃ n, n = q.length := ⟨_, rfl⟩
      obtain ⟨AO, cO, hvO, _, _⟩ := own_slice hB.o
      subst hvO
      have c3 : wr.cell? ⟨p, 3, none⟩ = some (.slice AO os.length cO) := cell_of_heap hB.head
      obtain ⟨qo, hq⟩ : ∃ qo, qo = os.length / 2 := ⟨_, rfl⟩
      have e1 : (os.length : Int) / 2 = (qo : Int) := by omega
      have e1' : (os.length : Int).tdiv 2 = (qo : Int) := by rw [Int.tdiv_eq_ediv_of_nonneg (by omega)]; exact e1
      obtain ⟨r, hr⟩ : ∃ r, r = qo % 250 := ⟨_, rfl⟩
      have e2 : (qo : Int) % 250 = (r : Int) := by omega
      have e2' : (qo : Int).tmod 250 = (r : Int) := by rw [Int.tmod_eq_emod_of_nonneg (by omega)]; exact e2
      obtain ⟨T, hT⟩ : ∃ T, T = 1 + r := ⟨_, rfl⟩
      have e3 : IntKind.i64.wrap (1 + (r : Int)) = (T : Int) := by rw [IntKind.wrap_i64]; omega
      have e4 : IntKind.u8.wrap (T : Int) = (T : Int) := by rw [IntKind.wrap_u8]; omega
      have hbt : bv (outB os.length) = .int .u8 (T : Int) := by rw [outB_val, hT, hr, hq]
      have HBT := hid hbt
      have hq0 : qo ≤ 3000000000000 := by omega
      clear hq hr hT hbt
      obtain ⟨W1, hW1⟩ : ∃ W, W = wr.alloc (.cells #[.int .u8 (T : Int)] 5) := ⟨_, rfl⟩
      have k1 : Old wr W1 := by rw [hW1]; exact (Keeps.refl _ _).alloc _
      have hb1 : W1.heap[wr.heap.size]? = some (.cells #[.int .u8 (T : Int)] 5 (0, 0)) := by rw [hW1]; exact heap_alloc_new _ _
      have hz1 : W1.heap.size = wr.heap.size + 1 := by rw [hW1]; simp
      obtain ⟨g1, hg1⟩ : ∃ g1, g1 = wr.heap.size := ⟨_, rfl⟩
      have hS1 : LSt W1 AL q.length c (.slice (some ⟨g1, 0, none⟩) 1 1) 0 := by
        rcases hrow.2 with ⟨hv, h0⟩ | ⟨g, cap, cur, hv, hb0, hg, hnc', hcm', hcs, ht⟩
        · injection hv with a1 a2 a3
          exact .inl ⟨a1, a2, a3⟩
        · injection hv with a1 a2 a3
          refine .inr ⟨g, a1, cur, k1.heap hg trivial, by omega, by simp, by simp⟩
      have hAL : ∀ x, AL = some ⟨x, 0, none⟩ → (Value.slice AL q.length c).ownBlock = some x := fun x hx => by rw [hx]; rfl
      have hLk : ∀ x, AL = some ⟨x, 0, none⟩ → ¬ K' x ∧ ¬ M' x ∧ x < wr.heap.size ∧ F x := fun x hx => ⟨(hLa x (hAL x hx)).1, (hLa x (hAL x hx)).2, own_lt hrow (hAL x hx), HLF.out x (hAL x hx)⟩
      have HS := hid (And.intro hS1 (Keeps.refl (fun x => AL ≠ some ⟨x, 0, none⟩) W1))
      have HLK := hid hLk
      have HBK := hid (And.intro hB (And.intro hkp (And.intro hK' hM')))
      have HB1 := hid (And.intro k1 hb1)
      have HN := hid hn
      clear hin hrest hLa hrow hS1 hAL hLk hkp hK' hM' HD HLF HLO HSU hB k1 hb1 hn
      go_upto_region 5 with fail
      rw [← hW1]
      have HW1 := hid hz1
      clear hW1 hz1 c3 e1 e1' e2 e2' e3 e4
      rw [← hg1]
      have HG1 := hid hg1
      clear hg1
      generalize wr = wb at *
      go_wp2
      go_loopw [6] (fun i wr2 => ∃ k : Nat, i = .int .i64 k ∧ k ≤ q.length ∧ Hid (LSt wr2 AL q.length c (.slice (some ⟨g1, 0, none⟩) 1 1) k ∧ Keeps (fun x => AL ≠ some ⟨x, 0, none⟩) W1 wr2)) (fun i _ => q.length - (intOf i).toNat)
      case atStart => exact ⟨0, rfl, Nat.zero_le _, HS⟩
      case round =>
        clear HS
        obtain ⟨k, rfl, hk2, hin⟩ := hrel
        obtain ⟨hst, hkk⟩ := hin.out
        clear hin
        have i2 : (0 : Int) ≤ (k : Int) := by omega
        by_cases hlt2 : k < q.length
        · have i3 : (k : Int) < (q.length : Int) := by omega
          obtain ⟨gl, hgl, hrw⟩ : ∃ gl, AL = some ⟨gl, 0, none⟩ ∧ Row1 wr 22 gl c (List.replicate k (.slice (some ⟨g1, 0, none⟩) 1 1)) := by
            rcases hst with ⟨_, h0, _⟩ | h
            · omega
            · exact h
          clear hst
          subst hgl
          obtain ⟨u, hu⟩ := hrw.some_ (i := k) (by omega)
          have hf := hrw.frozen
          have hps := hrw.push (by rw [List.length_replicate]; omega) (.slice (some ⟨g1, 0, none⟩) 1 1)
          rw [List.length_replicate, ← List.replicate_succ'] at hps
          have HR := hid (And.intro (show LSt (wr.setCell ⟨gl, k, none⟩ (.slice (some ⟨g1, 0, none⟩) 1 1)) (some ⟨gl, 0, none⟩) q.length c (.slice (some ⟨g1, 0, none⟩) 1 1) (k + 1) from .inr ⟨gl, rfl, hps⟩) (hkk.setCell (p := ⟨gl, k, none⟩) (fun _ h => h rfl) (.slice (some ⟨g1, 0, none⟩) 1 1)))
          clear hps hrw hkk
          go_wp2
          exact ⟨⟨k + 1, by go_num, by omega, HR⟩, by simp [intOf]; omega⟩
        · obtain rfl : k = q.length := by omega
          have i3 : ¬ ((q.length : Nat) : Int) < (q.length : Int) := by omega
          obtain ⟨hB, hkp, hK', hM'⟩ := HBK.out
          obtain ⟨k1, hb1⟩ := HB1.out
          have kL : Keeps (fun x => AL ≠ some ⟨x, 0, none⟩) wb wr := (k1.old _).trans' hkk
          have hB2 := hB.keep (w' := wr) (kL.mono fun x _ hx e => by
            have := HLK.out x e
            rcases hx with hx | hx
            · exact this.1 hx
            · exact this.2.1 hx)
          have c2 : wr.cell? ⟨p, 2, none⟩ = some (.int .i64 ((size + keepSum q : Nat) : Int)) := cell_of_heap hB2.head
          obtain ⟨s0, hs0⟩ : ∃ s0, s0 = size + keepSum q := ⟨_, rfl⟩
          rw [← hs0] at c2
          obtain ⟨s3, hs3⟩ : ∃ s3, s3 = s0 + 24 * q.length + 3000 := ⟨_, rfl⟩
          have b1 : IntKind.i64.wrap (24 * (q.length : Int)) = 24 * (q.length : Int) := by rw [IntKind.wrap_i64]; omega
          have b2 : IntKind.i64.wrap ((s0 : Int) + 24 * (q.length : Int)) = (s0 : Int) + 24 * (q.length : Int) := by rw [IntKind.wrap_i64]; omega
          have b3 : IntKind.i64.wrap ((s0 : Int) + 24 * (q.length : Int) + 3000) = (s3 : Int) := by rw [IntKind.wrap_i64]; omega
          have cf : ∀ i, wr.frozen? ⟨p, i, none⟩ = false := fun i => frozen_of_heap hB2.head
          obtain ⟨W3, hW3⟩ : ∃ W, W = wr.setCell ⟨p, 2, none⟩ (.int .i64 (s3 : Int)) := ⟨_, rfl⟩
          have hB3 := hB2.setSize s3
          have k3 : Keeps (· ≠ p) wr W3 := by rw [hW3]; exact (Keeps.refl _ _).setCell (fun _ h => h rfl) _
          rw [← hW3] at hB3
          have hMp : M p := h.fp
          have KM3 : Keeps (fun x => ¬ M x ∧ ¬ F x) w W3 := (hkp.trans kL fun x _ hx e => hx.2 (HLK.out x e).2.2.2).trans k3 fun x _ hx e => hx.1 (by rw [e]; exact hMp)
          have hst3 : LSt W3 AL q.length c (.slice (some ⟨g1, 0, none⟩) 1 1) q.length := hst.keep k3 fun x e e2 => by
            have := (HLK.out x e).2.1
            exact this (by rw [e2]; exact hB.fp)
          have hz3 := k3.size
          have HS3 := hid (And.intro hs0 hs3)
          clear hs0 hs3 hst hB2 hB
          by_cases hbig : s3 > 4000000
          · have j2 : (s3 : Int) > 4000000 := by omega
            have HB := hid hB3
            have HKM := hid KM3
            clear hB3 KM3 hst3 k3
            go_upto_region 10 with fail
            rw [← hW3]
            clear hW3
            have e2 : W3.cell? ⟨p, 2, none⟩ = some (.int .i64 (s3 : Int)) := cell_of_heap HB.out.head
            go_wp2
            refine bodyPost_ret (results_none rfl _ _ _) rfl ?_
            exact ⟨rfl, K', M', _, _, _, es', os, s3, HB.out, HOS.out, by omega, by omega, by have := HS3.out; omega, hK', hM', HKM.out⟩
          · have j2 : ¬ (s3 : Int) > 4000000 := by omega
            go_upto_region 10 with fail
            rw [← hW3]
            clear hW3 b1 b2 b3 cf c2
            have e2 : W3.cell? ⟨p, 2, none⟩ = some (.int .i64 (s3 : Int)) := cell_of_heap hB3.head
            obtain ⟨r, hrr⟩ : ∃ r, r = c - q.length := ⟨_, rfl⟩
            unfold maxLen at hcm
            obtain ⟨FR, hFR⟩ : ∃ FR, FR = min r 70000 := ⟨_, rfl⟩
            have b3 : IntKind.i64.wrap ((c : Int) - (q.length : Int)) = (r : Int) := by rw [IntKind.wrap_i64]; omega
            have hfa : ∀ W, Calls Tryd.prog 71 #[.int .i64 (r : Int)] W fun e w' => e = .returned (.int .i64 (FR : Int)) ∧ W = w' := fun W => by
              have h := far_any W (r : Int) (by omega) (by omega)
              rw [show min (r : Int) 70000 = (FR : Int) by omega] at h
              exact h
            have HFA := hid hfa
            have hFc : q.length + FR ≤ c := by omega
            have hF7 : FR ≤ 70000 := by omega
            have HS := hid (And.intro hst3 (Keeps.refl (fun x => AL ≠ some ⟨x, 0, none⟩) W3))
            have H5 := hid (And.intro hB3 (And.intro KM3 (And.intro k3 (And.intro kL (And.intro hb1 (And.intro hkk k1))))))
            have HX := hid (And.intro hK' hM')
            clear hrr hFR hfa hst3 hB3 KM3 k3 kL hb1 hkk k1 hK' hM' hkp
            go_upto_region 13 with fail
            go_loopw [7, 8] (fun g i wr3 => ∃ j : Nat, i = .int .i64 j ∧ j ≤ FR ∧ g = .slice AL (q.length + j) c ∧ Hid (LSt wr3 AL q.length c (.slice (some ⟨g1, 0, none⟩) 1 1) (q.length + j) ∧ Keeps (fun x => AL ≠ some ⟨x, 0, none⟩) W3 wr3)) (fun _ i _ => FR - (intOf i).toNat)
            case atStart => exact ⟨0, rfl, Nat.zero_le _, rfl, HS⟩
            case round =>
              clear HS
              obtain ⟨j, rfl, hj, rfl, hin⟩ := hrel
              have i4 : (0 : Int) ≤ (j : Int) := by omega
              go_wp2_with fail
              with_reducible refine (HFA.out _).mono ?_
              rintro e w1' ⟨rfl, rfl⟩
              obtain ⟨hst, hkk⟩ := hin.out
              clear hin
              by_cases hlt3 : j < FR
              · have i5 : (j : Int) < (FR : Int) := by omega
                obtain ⟨gl, hgl, hrw⟩ : ∃ gl, AL = some ⟨gl, 0, none⟩ ∧ Row1 wr 22 gl c (List.replicate (q.length + j) (.slice (some ⟨g1, 0, none⟩) 1 1)) := by
                  rcases hst with ⟨_, h0, h1⟩ | h
                  · omega
                  · exact h
                clear hst
                subst hgl
                obtain ⟨W6, hW6⟩ : ∃ W, W = wr.alloc (.cells #[(.slice (some ⟨g1, 0, none⟩) 1 1)] 22) := ⟨_, rfl⟩
                have k6 : Old wr W6 := by rw [hW6]; exact (Keeps.refl _ _).alloc _
                have hb6 : W6.heap[wr.heap.size]? = some (.cells #[(.slice (some ⟨g1, 0, none⟩) 1 1)] 22 (0, 0)) := by rw [hW6]; exact heap_alloc_new _ _
                have hr6 := hrw.keep k6 trivial
                have hxl6 : q.length + j ≤ (List.replicate (q.length + j) (Value.slice (some ⟨g1, 0, none⟩) 1 1)).length := by simp
                clear hrw
                go_wp2_with (at_builtin; rw [← hW6]; refine wpList_app1 _ (by rfl) _ _ 35 22 (by rfl) Tryd.underlying35 info22 (by rfl) (by rfl) hr6 hxl6 ⟨wr.heap.size, 0, none⟩ 1 1 [(.slice (some ⟨g1, 0, none⟩) 1 1)] (by rfl) (by rfl) (World.news_of_block hb6) (one_one rfl) (by omega) (by omega) (by unfold maxLen; omega) ?_; intro v7 w7 hap7)
                rcases hap7 with ⟨_, hv7, hR7, k7, _⟩ | ⟨h7, _⟩
                · rw [List.length_singleton] at hv7
                  subst hv7
                  rw [List.length_singleton, List.take_of_length_le (by simp), List.drop_eq_nil_of_le (by simp), List.append_nil, ← List.replicate_succ'] at hR7
                  have HR := hid (And.intro (show LSt w7 (some ⟨gl, 0, none⟩) q.length c (.slice (some ⟨g1, 0, none⟩) 1 1) (q.length + (j + 1)) from .inr ⟨gl, rfl, hR7⟩) ((hkk.trans' (k6.old _)).trans' (k7.mono fun x _ hx e => hx (by rw [e]) : Keeps (fun x => some (⟨gl, 0, none⟩ : Addr) ≠ some ⟨x, 0, none⟩) W6 w7)))
                  clear hR7 k7 hkk k6 hb6 hW6 hr6
                  exact ⟨⟨j + 1, by go_num, by omega, by rw [Nat.add_assoc], HR⟩, by simp [intOf]; omega⟩
                · rw [List.length_singleton] at h7
                  omega
              · obtain rfl : j = FR := by omega
                have i5 : ¬ ((j : Nat) : Int) < (j : Int) := by omega
                obtain ⟨hB3, KM3, k3, kL, hb1, hkk1, k1⟩ := H5.out
                obtain ⟨hK', hM'⟩ := HX.out
                have hzr := hkk.size
                have hz3 := k3.size
                have hzL := kL.size
                have hzk1 := hkk1.size
                have hzW := HW1.out
                have hgw := HG1.out
                have hBb := HBK.out.1
                have hBr := hB3.keep (w' := wr) (hkk.mono fun x _ hx e => by
                  have := HLK.out x e
                  rcases hx with hx | hx
                  · exact this.1 hx
                  · exact this.2.1 hx)
                have hgA : ∀ x, AL = some ⟨x, 0, none⟩ → x ≠ g1 := fun x hx => by have := (HLK.out x hx).2.2.1; omega
                have hgM : ∀ x, K' x ∨ M' x → x ≠ g1 := fun x hx => by have := hBb.lt x hx; omega
                have hb1r : wr.heap[g1]? = some (.cells #[bv (outB os.length)] 5 (0, 0)) := by
                  rw [HBT.out, hgw]
                  rw [← hgw]
                  rw [← hgw] at hb1
                  exact hkk.heap (k3.heap (hkk1.heap hb1 fun e => hgA _ e rfl) fun e => hgM p (.inr hBb.fp) e.symm) fun e => hgA _ e rfl
                obtain ⟨K2, hK2⟩ : ∃ K2 : Nat → Prop, K2 = fun x => K' x ∨ AL = some ⟨x, 0, none⟩ ∨ x = g1 := ⟨_, rfl⟩
                have hKK : ∀ x, K' x → K2 x := fun x hx => by rw [hK2]; exact .inl hx
                have hKA : ∀ x, AL = some ⟨x, 0, none⟩ → K2 x := fun x hx => by rw [hK2]; exact .inr (.inl hx)
                have hKg : K2 g1 := by rw [hK2]; exact .inr (.inr rfl)
                have hK2M : ∀ x, K2 x → ¬ M' x ∧ x < wr.heap.size ∧ (K x ∨ F x ∨ w.heap.size ≤ x) := fun x hx => by
                  rw [hK2] at hx
                  rcases hx with hx | hx | hx
                  · exact ⟨hBb.apart x hx, by have := hBb.lt x (.inl hx); omega, hK' x hx⟩
                  · have := HLK.out x hx
                    have h3 := this.2.2.1
                    exact ⟨this.2.1, by omega, .inr (.inl this.2.2.2)⟩
                  · refine ⟨fun hm => hgM x (.inr hm) hx, by omega, by right; right; have := HBK.out.2.1.size; omega⟩
                have ho1 : OutV K2 wr (.slice AL q.length c) (outB os.length) := hst.out hb1r hKA hKg (by omega) (by omega) (by omega)
                have ho2 : OutV K2 wr (.slice AL (q.length + j) c) (outB os.length) := hst.out hb1r hKA hKg (by omega) (by omega) (by omega)
                have hzw := HBK.out.2.1.size
                have KMr : Keeps (fun x => ¬ M x ∧ ¬ F x) w wr := KM3.trans hkk fun x _ hx e => hx.2 (HLK.out x e).2.2.2
                clear hK2 hb1 hkk1 k1 kL k3 KM3 hB3 hst hkk hb1r H5
                obtain ⟨W6, hW6⟩ : ∃ W, W = wr.alloc (.cells #[.slice AL q.length c, .slice AL (q.length + j) c] 35) := ⟨_, rfl⟩
                have k6 : Old wr W6 := by rw [hW6]; exact (Keeps.refl _ _).alloc _
                have hb6 : W6.heap[wr.heap.size]? = some (.cells #[.slice AL q.length c, .slice AL (q.length + j) c] 35 (0, 0)) := by rw [hW6]; exact heap_alloc_new _ _
                have hB6 := hBr.keep (k6.old _)
                have hrow6 := hB6.o
                have d3 : wr.cell? ⟨p, 3, none⟩ = some (.slice AO os.length cO) := cell_of_heap hBr.head
                have hz6 : W6.heap.size = wr.heap.size + 1 := by rw [hW6]; simp
                go_upto_region 16 with fail
                go_wp2_with (at_builtin; rw [← hW6]; refine wpList_append_ex _ (by rfl) _ _ 57 35 (by rfl) Tryd.underlying57 info35B (by rfl) (by omega) (by rfl) hrow6 (some ⟨wr.heap.size, 0, none⟩) 2 2 [Value.slice AL q.length c, .slice AL (q.length + j) c] (by rfl) (by rfl) (fun _ => ⟨_, rfl, World.news_of_block hb6⟩) (by intro u hu; simp at hu; rcases hu with rfl | rfl <;> rfl) (by omega) (by unfold maxLen; omega) ?_; intro v7 w7 hown7 hgrow7 hat7; have K67 : Keeps (fun k => (Value.slice AO os.length cO).ownBlock ≠ some k) W6 w7 := (Keeps.refl _ W6).grown hgrow7 (fun k _ h hn => hn h); have hh7 := K67.heap hB6.head hB6.parts.2.2.1; have u0 : w7.cell? ⟨p, 3, none⟩ = some (.slice AO os.length cO) := cell_of_heap hh7; have uf : ∀ i, w7.frozen? ⟨p, i, none⟩ = false := fun i => frozen_of_heap hh7; obtain ⟨A7, c7, hv7, _, _⟩ := own_slice hown7; subst hv7)
                obtain ⟨W8, hW8⟩ : ∃ W, W = w7.setCell ⟨p, 3, none⟩ (.slice A7 (os.length + 2) c7) := ⟨_, rfl⟩
                have k8 : Keeps (· ≠ p) w7 W8 := by rw [hW8]; exact (Keeps.refl _ _).setCell (fun _ h => h rfl) _
                have hd8 : W8.heap[p]? = some (.cells #[vL', vM', .int .i64 (s3 : Int), .slice A7 (os.length + 2) c7] 83 (0, 0)) := by rw [hW8, heap_setCell hh7]; rfl
                try rw [← hW8]
                have hvp7 : (Value.slice A7 (os.length + 2) c7).ownBlock ≠ some p := own_ne_heap hown7 hh7 (by decide)
                obtain ⟨a1, a2, a3, a4, a5⟩ := hB6.parts
                have hl8 := own_keeps (own_keeps hB6.l K67 (fun x hx e => (a4 x hx).2 e)) k8 (fun x hx e => a1 (by rw [hx, e]))
                have hm8 := own_keeps (own_keeps hB6.m K67 (fun x hx e => a5 x hx e)) k8 (fun x hx e => a2 (by rw [hx, e]))
                have ho8 := own_keeps hown7 k8 (fun x hx e => hvp7 (by rw [hx, e]))
                have kM : Keeps (fun x => ¬ M' x) wr W8 := ((k6.old _).trans' (K67.mono fun x _ hx e => hx (hB6.of x e))).trans' (k8.mono fun x _ hx e => hx (by rw [e]; exact hB6.fp))
                have kK : Keeps K2 wr W8 := kM.mono fun x _ hx => (hK2M x hx).1
                have hM7 : ∀ x, (Value.slice A7 (os.length + 2) c7).ownBlock = some x → M' x ∨ W6.heap.size ≤ x := fun x hx => by
                  rcases hat7 with e | e
                  · rw [e] at hx; exact .inl (hB6.of x hx)
                  · rw [e] at hx; injection hx with hx; right; omega
                have hz7 := kM.size
                have hB8 : BookM K2 (fun x => M' x ∨ (Value.slice A7 (os.length + 2) c7).ownBlock = some x) W8 p vL' vM' (.slice A7 (os.length + 2) c7) es' (os ++ [(Value.slice AL q.length c, outB os.length), (.slice AL (q.length + j) c, outB os.length)]) s3 := by
                  refine ⟨hd8, hl8, fun x hx => .inl (hB6.lf x hx), hm8, fun x hx => .inl (hB6.mf x hx), ?_, fun x hx => .inr hx, fun e he => ((hBr.ents e he).mono hKK).keep kK, fun e he => ?_, .inl hB6.fp, fun x hx hm => ?_, fun x hx => ?_, hBr.ml⟩
                  · rw [List.length_append, List.map_append]
                    exact ho8
                  · rcases List.mem_append.1 he with he | he
                    · exact ((hBr.outs e he).mono hKK).keep kK
                    · simp at he
                      rcases he with rfl | rfl
                      · exact ho1.keep kK
                      · exact ho2.keep kK
                  · have h1 := hK2M x hx
                    rcases hm with hm | hm
                    · exact h1.1 hm
                    · rcases hM7 x hm with h' | h'
                      · exact h1.1 h'
                      · omega
                  · rcases hx with hx | hx | hx
                    · have := hK2M x hx; omega
                    · have := hBr.lt x (.inr hx); omega
                    · exact own_lt ho8 hx
                have HB8 := hid hB8
                have HKM := hid (KMr.trans kM fun x hxw hx hm => by
                  rcases hM' x hm with h' | h'
                  · exact hx.1 h'
                  · omega)
                have HM7 := hid hM7
                clear hB8 KMr kM kK hl8 hm8 ho8 hd8 hown7 hgrow7 hat7 K67 hh7 hM7 k8
                first | go_end0 | refine bodyPost_ret (results_none rfl _ _ _) rfl ?_
                try rw [← hW8]
                refine ⟨rfl, K2, _, _, _, _, es', _, s3, HB8.out, HOS.out.push2 _ _, by omega, by rw [List.length_append]; show os.length + 2 ≤ _; omega, by have := HS3.out; omega, fun x hx => (hK2M x hx).2.2, fun x hx => ?_, HKM.out⟩
                rcases hx with hx | hx
                · exact hM' x hx
                · rcases HM7.out x hx with h' | h'
                  · exact hM' x h'
                  · right; omega
end Go.Proofs.YtdpaaoeipconcaaDoor

namespace Go.Proofs.YtdpaaoeipconcaaDoor
open Go.RowKit

/-- A book at pb; R: blocks that are not the book's. N: how many lists it has at most, Z: its size at most. -/
def Bk (R : Nat → Prop) (pb N Z : Nat) (w : World) : Prop :=
  (∀ k, R k → k < w.heap.size) ∧ ∃ K M vL vM vO es os size, BookM K M w pb vL vM vO es os size ∧ OutsOK os ∧ es.length ≤ N ∧ os.length ≤ N ∧ size ≤ Z ∧ ∀ k, R k → ¬ K k ∧ ¬ M k

section
variable {R R' : Nat → Prop} {pb N Z N' Z' : Nat} {w w' : World}
theorem Bk.less (h : Bk R pb N Z w) (hR : ∀ k, R' k → R k) : Bk R' pb N Z w := by
  obtain ⟨h0, K, M, vL, vM, vO, es, os, size, h1, h2, h3, h4, h5, h6⟩ := h
  exact ⟨fun k hk => h0 k (hR k hk), K, M, vL, vM, vO, es, os, size, h1, h2, h3, h4, h5, fun k hk => h6 k (hR k hk)⟩
theorem Bk.more (h : Bk R pb N Z w) (hN : N ≤ N') (hZ : Z ≤ Z') : Bk R pb N' Z' w := by
  obtain ⟨h0, K, M, vL, vM, vO, es, os, size, h1, h2, h3, h4, h5, h6⟩ := h
  exact ⟨h0, K, M, vL, vM, vO, es, os, size, h1, h2, by omega, by omega, by omega, h6⟩
/-- Writes elsewhere, new blocks. -/
theorem Bk.keep (h : Bk R pb N Z w) (hk : Keeps (fun k => ¬ R k) w w') : Bk (fun k => R k ∨ (w.heap.size ≤ k ∧ k < w'.heap.size)) pb N Z w' := by
  obtain ⟨h0, K, M, vL, vM, vO, es, os, size, h1, h2, h3, h4, h5, h6⟩ := h
  have hz := hk.size
  refine ⟨fun k hk' => ?_, K, M, vL, vM, vO, es, os, size, h1.keep (hk.mono fun k _ hs hr => ?_), h2, h3, h4, h5, fun k hk' => ?_⟩
  · rcases hk' with h' | h'
    · have := h0 k h'; omega
    · exact h'.2
  · rcases hs with hs | hs
    · exact (h6 k hr).1 hs
    · exact (h6 k hr).2 hs
  · rcases hk' with h' | h'
    · exact h6 k h'
    · exact ⟨fun hs => by have := h1.lt k (.inl hs); omega, fun hs => by have := h1.lt k (.inr hs); omega⟩

/-- What may be kept. -/
def KeepR (R : Nat → Prop) (w : World) (lv : Value) (n : Nat) : Prop := (lv = .slice none 0 0 ∧ n = 0) ∨ ∃ b c, lv = .slice (some ⟨b, 0, none⟩) n c ∧ Row1 w 5 b c [] ∧ n ≤ c ∧ c ≤ maxLen ∧ R b
theorem KeepR.ofOwn {F : Nat → Prop} {v : Value} {bs : List UInt8} (h : OwnB F w v bs) (hF : ∀ k, F k → R k) : KeepR R w v bs.length := by
  rcases h.row.2 with ⟨hv, h0⟩ | ⟨g, cap, cur, hv, hb0, hg, hnc, hcm, hcs, ht⟩
  · exact .inl ⟨hv, h0⟩
  · exact .inr ⟨g, cap, hv, ⟨cur, hg, by omega, by simp, by simp⟩, hnc, hcm, hF g (h.foot g (by rw [hv]; rfl))⟩

theorem keep_bk (h : Bk R pb N Z w) (hN : N ≤ 4000000000000) (hZ : Z ≤ 2305843009213693952) {lv : Value} {n : Nat} (hlv : KeepR R w lv n) (hn : n ≤ 1000000000000) :
    Calls Tryd.prog 49 #[.pointer (some ⟨pb, 0, none⟩), lv] w fun e w' => e = .returned (.tuple #[]) ∧ Bk (fun k => R k ∧ lv.ownBlock ≠ some k) pb (N + 4) (Z + n + 400) w' ∧ Keeps (fun k => R k ∧ lv.ownBlock ≠ some k) w w' := by
  obtain ⟨h0, K, M, vL, vM, vO, es, os, size, h1, h2, h3, h4, h5, h6⟩ := h
  refine (keep_any w K M pb vL vM vO es os size h1 (by omega) (by omega) lv n ?_ hn).mono ?_
  · rcases hlv with h | ⟨b, c, a1, a2, a3, a4, a5⟩
    · exact .inl h
    · exact .inr ⟨b, c, a1, a2, a3, a4, (h6 b a5).1, (h6 b a5).2⟩
  · rintro e w' ⟨rfl, K', M', vL', vM', es', g1, g2, g3, g4, g5⟩
    have hz := g5.size
    refine ⟨rfl, ⟨fun k hk => by have := h0 k hk.1; omega, K', M', vL', vM', vO, es', os, _, g1, h2, by omega, by omega, by omega, fun k hk => ⟨fun hs => ?_, fun hs => ?_⟩⟩, g5.mono fun k _ hk => ⟨(h6 k hk.1).2, hk.2⟩⟩
    · rcases g3 k hs with h' | h' | h'
      · exact (h6 k hk.1).1 h'
      · exact hk.2 h'
      · have := h0 k hk.1; omega
    · rcases g4 k hs with h' | h'
      · exact (h6 k hk.1).2 h'
      · have := h0 k hk.1; omega

theorem keepAll_bk (h : Bk R pb N Z w) (hN : N ≤ 3000000000000) (hZ : Z ≤ 2205843009213693952) {F : Nat → Prop} {L : Value} {q : List (List UInt8 × Value)} (hL : OwnR F w L q) (hF : ∀ k, F k → R k) (hql : q.length ≤ 1000000) (hqs : ∀ x ∈ q, x.1.length ≤ 1000000000) (hsum : keepSum q ≤ 1000000000000000) :
    Calls Tryd.prog 50 #[.pointer (some ⟨pb, 0, none⟩), L] w fun e w' => e = .returned (.tuple #[]) ∧ Bk (fun k => R k ∧ ¬ F k) pb (N + 4 * q.length + 2) (Z + keepSum q + 24 * q.length + 3000) w' ∧ Keeps (fun k => R k ∧ ¬ F k) w w' := by
  obtain ⟨h0, K, M, vL, vM, vO, es, os, size, h1, h2, h3, h4, h5, h6⟩ := h
  refine (keepAll_any w K M F pb vL vM vO es os size h1 h2 L q hL (fun k _ hf => h6 k (hF k hf)) (fun k hf => h0 k (hF k hf)) hql hqs (by omega) (by omega) (by omega) hsum).mono ?_
  rintro e w' ⟨rfl, K', M', vL', vM', vO', es', os', size', g1, g2, g3, g3', g3'', g4, g5, g6⟩
  have hz := g6.size
  refine ⟨rfl, ⟨fun k hk => by have := h0 k hk.1; omega, K', M', vL', vM', vO', es', os', size', g1, g2, by omega, by omega, by omega, fun k hk => ⟨fun hs => ?_, fun hs => ?_⟩⟩, g6.mono fun k _ hk => ⟨(h6 k hk.1).2, hk.2⟩⟩
  · rcases g4 k hs with h' | h' | h'
    · exact (h6 k hk.1).1 h'
    · exact hk.2 h'
    · have := h0 k hk.1; omega
  · rcases g5 k hs with h' | h'
    · exact (h6 k hk.1).2 h'
    · have := h0 k hk.1; omega

theorem whole_bk (h : Bk R pb N Z w) (hN : N ≤ 4000000000000) : Calls Tryd.prog 52 #[.pointer (some ⟨pb, 0, none⟩)] w fun e w' => e = .returned (.bool true) ∧ Old w w' := by
  obtain ⟨h0, K, M, vL, vM, vO, es, os, size, h1, h2, h3, h4, h5, h6⟩ := h
  exact whole_any w K M pb vL vM vO es os size h1 h2 (by omega) (by omega)

theorem Bk.new (R : Nat → Prop) (hR : ∀ k, R k → k < w.heap.size) : Bk R w.heap.size 0 0 (w.alloc (.cells #[.slice none 0 0, .slice none 0 0, .int .i64 0, .slice none 0 0] 83)) := by
  refine ⟨fun k hk => by have := hR k hk; simp; omega, fun _ => False, (· = w.heap.size), _, _, _, [], [], 0, ⟨heap_alloc_new _ _, World.ownsRow_nil _ _ _ _, by simp [Value.ownBlock], World.ownsRow_nil _ _ _ _, by simp [Value.ownBlock], World.ownsRow_nil _ _ _ _, by simp [Value.ownBlock], by simp, by simp, rfl, fun _ h => h.elim, fun k hk => ?_, by simp⟩, ⟨rfl, by simp⟩, Nat.le_refl _, Nat.le_refl _, Nat.le_refl _, fun k hk => ⟨fun h => h.elim, fun h => by have := hR k hk; omega⟩⟩
  rcases hk with hk | hk
  · exact hk.elim
  · rw [hk]; simp
end

theorem keepSum_le' {q : List (List UInt8 × Value)} {B : Nat} (h : ∀ x ∈ q, x.1.length ≤ B) : keepSum q ≤ q.length * (B + 400) := by
  induction q with
  | nil => simp [keepSum]
  | cons x q ih =>
    have h1 := h x (by simp)
    have h2 := ih fun y hy => h y (by simp [hy])
    unfold keepSum at h2 ⊢
    rw [List.map_cons, List.sum_cons, List.length_cons, Nat.add_mul, Nat.one_mul]
    omega

theorem scanL_recs (b : List UInt8) (gen base : Nat) (recs : List (List UInt8)) (e : Nat) (met : Bool) (hr : ∀ r ∈ recs, r.length ≤ 65536) : ∀ r ∈ (scanL b gen base recs e met).recs, r.length ≤ 65536 := by
  rw [scanL]
  split
  · split
    · simp [Ar.spoilt]
    · rename_i hbad
      split
      · split
        · exact hr
        · simp [Ar.spoilt]
      · split
        · simp [Ar.spoilt]
        · refine scanL_recs b gen base _ _ _ fun r hr' => ?_
          rcases List.mem_append.1 hr' with h | h
          · exact hr r h
          · obtain rfl : r = _ := by simpa using h
            have : ¬ 65536 < num b e := fun h => hbad (.inr h)
            rw [List.length_take]
            omega
  · split
    · exact hr
    · simp [Ar.spoilt]
termination_by b.length - e
decreasing_by omega

theorem readA_recs (b : List UInt8) : ∀ r ∈ (readA b).recs, r.length ≤ 65536 := by
  unfold readA
  split
  · simp [Ar.short]
  · split
    · simp [Ar.spoilt]
    · split
      · simp [Ar.torn]
      · exact scanL_recs _ _ _ _ _ _ (by simp)

theorem open_short {d : Dk} {j : Jn} {recs : List (List UInt8)} (h : openJ d = some (j, recs)) : ∀ r ∈ recs, r.length ≤ 65536 := by
  unfold openJ at h
  simp only at h
  split at h
  · simp at h
  · split at h
    · split at h
      · simp at h
      · injection h with h
        injection h with _ h
        subst h
        simp
    · split at h <;> (injection h with h; injection h with _ h; subst h; exact readA_recs _)
end Go.Proofs.YtdpaaoeipconcaaDoor

