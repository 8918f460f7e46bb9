/- weftlaw18.Book.keepList: a list of packets: their bytes are kept; then the list is written full, and on beyond its end. Conditions: the book lies; the packets and their list are nobody else's. -/
import Derived.Test.YtgnndggbjipioaaAHead
namespace Go.Proofs.Ytgnndggbjipioaa
open Go.RowKit

theorem info34 : (Try.prog.info? 34).map (fun i => (i.zero, i.size, i.bytes)) = some (some (.slice none 0 0), 1, 24) := by kernel_rfl

/-- how much the sizes of packets add to a book's -/
def keepSum (q : List (Pk × Value)) : Nat := (q.map fun x => x.1.2.length + 400).sum
theorem keepSum_take (q : List (Pk × Value)) {k : Nat} (h : k < q.length) : keepSum (q.take (k + 1)) = keepSum (q.take k) + (q[k].1.2.length + 400) := by
  unfold keepSum
  rw [List.take_succ_eq_append_getElem h, List.map_append, List.sum_append]
  simp
theorem keepSum_le (q : List (Pk × Value)) (k : Nat) : keepSum (q.take k) ≤ keepSum q := by
  have : keepSum (q.take k) + keepSum (q.drop k) = keepSum q := by
    unfold keepSum
    rw [← List.sum_append, ← List.map_append, List.take_append_drop]
  omega

def PostKeepL (K M B : Nat → Prop) (w : World) (p : Nat) (e : Ending) (w' : World) (N S : Nat) : Prop :=
  e = .returned (.tuple #[]) ∧ ∃ K' M' vL vM vO es os size, BookM K' M' w' p vL vM vO es os size ∧ HeadsOK os ∧ es.length ≤ N ∧ os.length ≤ N ∧ size ≤ S ∧ (∀ k, K' k → K k ∨ B k ∨ w.heap.size ≤ k) ∧ (∀ k, M' k → M k ∨ w.heap.size ≤ k) ∧ Keeps (fun k => ¬ M k ∧ ¬ B k) w w'

theorem HeadsOK.push4 {os : List (Value × Int)} (h : HeadsOK os) (a b c d : Value) : HeadsOK (os ++ [(a, headB os.length), (b, headB os.length), (c, headB os.length), (d, headB os.length)]) := by
  obtain ⟨h0, h1⟩ := h
  refine ⟨by rw [List.length_append]; show (os.length + 4) % 4 = 0; omega, fun i hi => ?_⟩
  have hi' : i < os.length + 4 := by rw [List.length_append] at hi; exact hi
  by_cases h2 : i < os.length
  · rw [List.getElem_append_left h2]
    exact h1 i h2
  · rw [List.getElem_append_right (by omega)]
    have : i - os.length = 0 ∨ i - os.length = 1 ∨ i - os.length = 2 ∨ i - os.length = 3 := by omega
    have e : headB i = headB os.length := by unfold headB; rw [show i - i % 4 = os.length - os.length % 4 by omega]
    rw [e]
    rcases this with h3 | h3 | h3 | h3 <;> simp [h3]

/-- ahead of a round of the first loop -/
def InKL (w : World) (K M F : Nat → Prop) (p : Nat) (vO : Value) (os : List (Value × Int)) (N size : Nat) (L : Value) (q : List (Pk × Value)) (k : Nat) (wr : World) : Prop :=
  ∃ K' M' vL vM es, BookM K' M' wr p vL vM vO es os (size + keepSum (q.take k)) ∧ es.length ≤ N + 4 * k ∧ wr.ownsRow 0 48 2 L q.length (row2 q) ∧ (∀ i (h : i < q.length), k ≤ i → OwnB F wr q[i].2 q[i].1.2 ∧ ∀ x, q[i].2.ownBlock = some x → ¬ K' x ∧ ¬ M' x) ∧
    (∀ x, L.ownBlock = some x → ¬ K' x ∧ ¬ M' x) ∧ (∀ x, K' x → K x ∨ F x ∨ w.heap.size ≤ x) ∧ (∀ x, M' x → M x ∨ w.heap.size ≤ x) ∧ Keeps (fun x => ¬ M x ∧ ¬ F x) w wr

set_option maxRecDepth 10000 in
set_option maxHeartbeats 8000000 in
theorem keepL_any (w : World) (K M F : Nat → Prop) (p : Nat) (vL vM vO : Value) (es : List (Value × Nat)) (os : List (Value × Int)) (size : Nat) (h : BookM K M w p vL vM vO es os size) (hos : HeadsOK os) (L : Value) (q : List (Pk × Value)) (hL : Flight F w L q)
    (hF : ∀ k, k < w.heap.size → F k → ¬ K k ∧ ¬ M k) (hql : q.length ≤ 1000000) (hqs : ∀ x ∈ q, x.1.2.length ≤ 1000000000) (hes : es.length ≤ 3000000000000) (hol : os.length ≤ 3000000000000) (hsz : size ≤ 2205843009213693952) (hsum : keepSum q ≤ 1000000000000000) :
    Calls Try.prog 39 #[.pointer (some ⟨p, 0, none⟩), L] w fun e w' => PostKeepL K M F w p e w' (max (es.length + 4 * q.length) (os.length + 4)) (size + keepSum q + 96 * q.length + 4000) := by
  obtain ⟨AL, c, hLv, hnc, hcm⟩ := own_slice hL.row
  subst hLv
  have hrs := keepSum_le q
  have HS := hid (show InKL w K M F p vO os es.length size (.slice AL q.length c) q 0 w from ⟨K, M, vL, vM, es, by simpa [keepSum] using h, by omega, hL.row, fun i hi _ => ⟨hL.own _ (List.getElem_mem hi), fun x hx => hF x (own_lt (hL.own _ (List.getElem_mem hi)).row hx) ((hL.own _ (List.getElem_mem hi)).foot x hx)⟩, fun x hx => hF x (own_lt hL.row hx) (hL.foot x hx), fun x hx => .inl hx, fun x hx => .inl hx, Keeps.refl _ _⟩)
  have HD := hid (List.pairwise_iff_getElem.1 hL.apart)
  have HLF := hid (fun (x : Nat) hx => hL.foot x hx)
  have HLO := hid (And.intro hL.own hqs)
  have HOS := hid hos
  have HSU := hid (fun k hk => keepSum_take q (k := k) hk)
  have HRS := hid hrs
  clear hrs hos hqs
  go_enter Try.func39, Try.ntmps39
  go_wp2
  go_loopw [4] (fun i wr => ∃ k : Nat, i = .int .i64 k ∧ k ≤ q.length ∧ Hid (InKL w K M F p vO os es.length size (.slice AL q.length c) q k wr)) (fun i _ => q.length - (intOf i).toNat)
  case atStart => exact ⟨0, rfl, Nat.zero_le _, HS⟩
  case round =>
    clear HS
    obtain ⟨k, rfl, hk, hin⟩ := hrel
    obtain ⟨K', M', vL', vM', es', hB, hel, hrow, hrest, hLa, hK', hM', hkp⟩ := hin.out
    have i0 : (0 : Int) ≤ (k : Int) := by omega
    have hs1 := HRS.out k
    have hzk := hkp.size
    by_cases hlt : k < q.length
    · have i1 : (k : Int) < (q.length : Int) := by omega
      obtain ⟨gl, cc, hv, _, _, hcells⟩ := own_cells hrow (by omega)
      injection hv with hA hnn hcc
      clear hnn
      subst hA hcc
      have hcell : wr.cell? ⟨gl, k * 2 + 1, none⟩ = some q[k].2 := by rw [hcells (k * 2 + 1) (by omega), row2_get1 q k hlt]
      obtain ⟨hown, hout⟩ := hrest k hlt (Nat.le_refl _)
      have hkin : KeepIn K' M' wr q[k].2 q[k].1.2.length := KeepIn.ofOwn hown.own_ fun x _ hx => hout x hx
      have hqk := HLO.out.2 q[k] (List.getElem_mem hlt)
      have hke := keep_any wr K' M' p vL' vM' vO es' os _ hB (by omega) (by omega) q[k].2 q[k].1.2.length hkin (by omega)
      have hsk := HSU.out k hlt
      rw [show size + keepSum (q.take k) + q[k].1.2.length + 400 = size + keepSum (q.take (k + 1)) by omega] at hke
      obtain ⟨Ak, ck, hvk, _, _⟩ := hown.slice
      rw [hvk] at hcell hke
      clear hcells hs1 hsk
      go_wp2_with fail
      refine hke.mono ?_
      rintro e w1 ⟨rfl, K1, M1, vL1, vM1, es1, hB1, hel1, hK1, hM1, hk1⟩
      rw [← hvk] at hK1 hk1
      have hz1 := hk1.size
      have hfk : ∀ x, q[k].2.ownBlock = some x → F x := fun x hx => hown.foot x hx
      have hLne : ∀ x, (Value.slice (some ⟨gl, 0, none⟩) q.length c).ownBlock = some x → q[k].2.ownBlock ≠ some x := fun x hx e => own_ne hrow hown.row (by decide) hx e
      have HR := hid (show InKL w K M F p vO os es.length size (.slice (some ⟨gl, 0, none⟩) q.length c) q (k + 1) w1 from by
        refine ⟨K1, M1, vL1, vM1, es1, hB1, by omega, own_keeps hrow hk1 (fun x hx => ⟨(hLa x hx).2, hLne x hx⟩), fun i hi hki => ?_, fun x hx => ?_, fun x hx => ?_, fun x hx => ?_, hkp.trans hk1 fun x hxw hx => ⟨fun hm => ?_, fun hb => hx.2 (hfk x hb)⟩⟩
        · obtain ⟨ho, hn⟩ := hrest i hi (by omega)
          have hne : ∀ x, q[i].2.ownBlock = some x → q[k].2.ownBlock ≠ some x := fun x hx e => HD.out k i hlt hi (by omega) x e hx
          refine ⟨⟨own_keeps ho.row hk1 (fun x hx => ⟨(hn x hx).2, hne x hx⟩), ho.foot, ho.len⟩, fun x hx => ⟨fun hk2 => ?_, fun hm2 => ?_⟩⟩
          · rcases hK1 x hk2 with h' | h' | h'
            · exact (hn x hx).1 h'
            · exact hne x hx h'
            · have := own_lt ho.row hx; omega
          · rcases hM1 x hm2 with h' | h'
            · exact (hn x hx).2 h'
            · have := own_lt ho.row hx; omega
        · refine ⟨fun hk2 => ?_, fun hm2 => ?_⟩
          · rcases hK1 x hk2 with h' | h' | h'
            · exact (hLa x hx).1 h'
            · exact hLne x hx h'
            · have := own_lt hrow hx; omega
          · rcases hM1 x hm2 with h' | h'
            · exact (hLa x hx).2 h'
            · have := own_lt hrow hx; omega
        · rcases hK1 x hx with h' | h' | h'
          · exact hK' x h'
          · exact .inr (.inl (hfk x h'))
          · right; right; omega
        · rcases hM1 x hx with h' | h'
          · exact hM' x h'
          · right; omega
        · rcases hM' x hm with h' | h'
          · exact hx.1 h'
          · omega)
      clear hB1 hK1 hM1 hk1 hrest hLa hB hrow hkin hown
      go_wp2
      exact ⟨⟨k + 1, by go_num, by omega, HR⟩, by simp [intOf]; omega⟩
    · obtain rfl : k = q.length := by omega
      have i1 : ¬ ((q.length : Nat) : Int) < (q.length : Int) := by omega
      rw [List.take_length] at hB
      obtain ⟨AO, cO, hvO, _, _⟩ := own_slice hB.o
      subst hvO
      have c3 : wr.cell? ⟨p, 3, none⟩ = some (.slice AO os.length cO) := cell_of_heap hB.head
      obtain ⟨t, ht⟩ : ∃ t, t = headB os.length := ⟨_, rfl⟩
      have htv : IntKind.u32.wrap (os.length : Int) = t := by
        rw [ht]
        unfold headB
        rw [HOS.out.1, Nat.sub_zero]
      have HT := hid ht
      clear ht
      obtain ⟨W1, hW1⟩ : ∃ W, W = wr.alloc (.cells #[.int .u32 t, .slice none 0 0] 48) := ⟨_, rfl⟩
      have k1 : Old wr W1 := by rw [hW1]; exact (Keeps.refl _ _).alloc _
      have hb1 : W1.heap[wr.heap.size]? = some (.cells #[.int .u32 t, .slice none 0 0] 48 (0, 0)) := by rw [hW1]; exact heap_alloc_new _ _
      have hz1 : W1.heap.size = wr.heap.size + 1 := by rw [hW1]; simp
      obtain ⟨gm, hgm⟩ : ∃ g1, g1 = wr.heap.size := ⟨_, rfl⟩
      rw [← hgm] at hb1 hz1
      have hS1 : HSt W1 AL q.length c t 0 := by
        rcases hrow.2 with ⟨hv, h0⟩ | ⟨g, cap, cur, hv, hb0, hg, hnc', hcm', hcs, ht⟩
        · injection hv with a1 a2 a3
          exact .inl ⟨a1, a2, a3, rfl⟩
        · injection hv with a1 a2 a3
          refine .inr ⟨g, a1, cur, k1.heap hg trivial, by omega, by simp [mrow], by simp [mrow]⟩
      have hAL : ∀ x, AL = some ⟨x, 0, none⟩ → (Value.slice AL q.length c).ownBlock = some x := fun x hx => by rw [hx]; rfl
      have hLk : ∀ x, AL = some ⟨x, 0, none⟩ → ¬ K' x ∧ ¬ M' x ∧ x < gm ∧ F x := fun x hx => ⟨(hLa x (hAL x hx)).1, (hLa x (hAL x hx)).2, by rw [hgm]; exact own_lt hrow (hAL x hx), HLF.out x (hAL x hx)⟩
      have HS := hid (And.intro hS1 (Keeps.refl (fun x => AL ≠ some ⟨x, 0, none⟩) W1))
      have HLK := hid hLk
      have HBK := hid (And.intro hB (And.intro hkp (And.intro hK' hM')))
      have HB1 := hid (And.intro k1 (And.intro hb1 hz1))
      have HG := hid hgm
      have hgme : ∀ x, AL = some ⟨x, 0, none⟩ → x ≠ gm := fun x hx => by have := (hLk x hx).2.2.1; omega
      clear hin hrest hLa hrow hS1 hAL hLk hkp hK' hM' HD HLF HLO HSU hB k1 hb1 hz1
      go_upto_region 5 with fail
      rw [← hW1, ← hgm]
      clear hW1 hgm c3 htv
      generalize wr = wb at *
      go_wp2
      go_loopw [6] (fun i wr2 => ∃ k : Nat, i = .int .i64 k ∧ k ≤ q.length ∧ Hid (HSt wr2 AL q.length c t k ∧ Keeps (fun x => AL ≠ some ⟨x, 0, none⟩) W1 wr2)) (fun i _ => q.length - (intOf i).toNat)
      case atStart => exact ⟨0, rfl, Nat.zero_le _, HS⟩
      case round =>
        clear HS
        obtain ⟨k, rfl, hk2, hin⟩ := hrel
        obtain ⟨hst, hkk⟩ := hin.out
        clear hin
        have i2 : (0 : Int) ≤ (k : Int) := by omega
        have hbm := hkk.heap HB1.out.2.1 (fun e => hgme gm e rfl)
        have m0 : wr.cell? ⟨gm, 0, none⟩ = some (.int .u32 t) := cell_of_heap hbm
        have m1 : wr.cell? ⟨gm, 1, none⟩ = some (.slice none 0 0) := cell_of_heap hbm
        by_cases hlt2 : k < q.length
        · have i3 : (k : Int) < (q.length : Int) := by omega
          obtain ⟨gl, hgl, hrw⟩ : ∃ gl, AL = some ⟨gl, 0, none⟩ ∧ RowS wr 48 2 gl c (mrow t k) := by
            rcases hst with ⟨_, h0, _⟩ | h
            · omega
            · exact h
          clear hst
          subst hgl
          obtain ⟨u, hu⟩ := hrw.some_ (i := k * 2) (by omega)
          obtain ⟨u', hu'⟩ := hrw.some_ (i := k * 2 + 1) (by omega)
          have hf := hrw.frozen
          have hps := hrw.push2 (by omega)
          have hr1 := hrw.set (k * 2) (.int .u32 t)
          obtain ⟨u2, hu2⟩ := hr1.some_ (i := k * 2 + 1) (by omega)
          have hf2 := hr1.frozen
          have HR := hid (And.intro (show HSt ((wr.setCell ⟨gl, k * 2, none⟩ (.int .u32 t)).setCell ⟨gl, k * 2 + 1, none⟩ (.slice none 0 0)) (some ⟨gl, 0, none⟩) q.length c t (k + 1) from .inr ⟨gl, rfl, hps⟩) ((hkk.setCell (p := ⟨gl, k * 2, none⟩) (fun _ h => h rfl) (.int .u32 t)).setCell (p := ⟨gl, k * 2 + 1, none⟩) (fun _ h => h rfl) (.slice none 0 0)))
          clear hps hrw hkk hr1
          go_wp2
          exact ⟨⟨k + 1, by go_num, by omega, HR⟩, by simp [intOf]; omega⟩
        · obtain rfl : k = q.length := by omega
          have i3 : ¬ ((q.length : Nat) : Int) < (q.length : Int) := by omega
          obtain ⟨hB, hkp, hK', hM'⟩ := HBK.out
          obtain ⟨k1, hb1, hz1⟩ := HB1.out
          have kL : Keeps (fun x => AL ≠ some ⟨x, 0, none⟩) wb wr := (k1.old _).trans' hkk
          have hB2 := hB.keep (w' := wr) (kL.mono fun x _ hx e => by
            have := HLK.out x e
            rcases hx with hx | hx
            · exact this.1 hx
            · exact this.2.1 hx)
          have c2 : wr.cell? ⟨p, 2, none⟩ = some (.int .i64 ((size + keepSum q : Nat) : Int)) := cell_of_heap hB2.head
          obtain ⟨s0, hs0⟩ : ∃ s0, s0 = size + keepSum q := ⟨_, rfl⟩
          rw [← hs0] at c2
          obtain ⟨s3, hs3⟩ : ∃ s3, s3 = s0 + 96 * q.length + 4000 := ⟨_, rfl⟩
          have b1 : IntKind.i64.wrap (3 * (q.length : Int)) = 3 * (q.length : Int) := by rw [IntKind.wrap_i64]; omega
          have b2 : IntKind.i64.wrap (3 * (q.length : Int) * 32) = 96 * (q.length : Int) := by rw [IntKind.wrap_i64]; omega
          have b3 : IntKind.i64.wrap ((s0 : Int) + 96 * (q.length : Int)) = (s0 : Int) + 96 * (q.length : Int) := by rw [IntKind.wrap_i64]; omega
          have b4 : IntKind.i64.wrap ((s0 : Int) + 96 * (q.length : Int) + 4000) = (s3 : Int) := by rw [IntKind.wrap_i64]; omega
          have cf : ∀ i, wr.frozen? ⟨p, i, none⟩ = false := fun i => frozen_of_heap hB2.head
          obtain ⟨W3, hW3⟩ : ∃ W, W = wr.setCell ⟨p, 2, none⟩ (.int .i64 (s3 : Int)) := ⟨_, rfl⟩
          have hB3 := hB2.setSize s3
          have k3 : Keeps (· ≠ p) wr W3 := by rw [hW3]; exact (Keeps.refl _ _).setCell (fun _ h => h rfl) _
          rw [← hW3] at hB3
          have hMp : M p := h.fp
          have KM3 : Keeps (fun x => ¬ M x ∧ ¬ F x) w W3 := (hkp.trans kL fun x _ hx e => hx.2 (HLK.out x e).2.2.2).trans k3 fun x _ hx e => hx.1 (by rw [e]; exact hMp)
          have hst3 : HSt W3 AL q.length c t q.length := hst.keep k3 fun x e e2 => by
            have := (HLK.out x e).2.1
            exact this (by rw [e2]; exact hB.fp)
          have hgp : gm ≠ p := fun e => by have := hB.lt p (.inr hB.fp); have := HG.out; omega
          have hbm3 := k3.heap hbm hgp
          have HS3 := hid (And.intro hs0 hs3)
          clear hs0 hs3 hst hB2 hB m0 m1
          by_cases hbig : s3 > 4000000
          · have j2 : (s3 : Int) > 4000000 := by omega
            have HB := hid hB3
            have HKM := hid KM3
            clear hB3 KM3 hst3 k3
            go_upto_region 10 with fail
            rw [← hW3]
            clear hW3
            have e2 : W3.cell? ⟨p, 2, none⟩ = some (.int .i64 (s3 : Int)) := cell_of_heap HB.out.head
            go_wp2
            refine bodyPost_ret (results_none rfl _ _ _) rfl ?_
            exact ⟨rfl, K', M', _, _, _, es', os, s3, HB.out, HOS.out, by omega, by omega, by have := HS3.out; omega, hK', hM', HKM.out⟩
          · have j2 : ¬ (s3 : Int) > 4000000 := by omega
            go_upto_region 10 with fail
            rw [← hW3]
            clear hW3 b1 b2 b3 b4 cf c2
            have e2 : W3.cell? ⟨p, 2, none⟩ = some (.int .i64 (s3 : Int)) := cell_of_heap hB3.head
            have m0 : W3.cell? ⟨gm, 0, none⟩ = some (.int .u32 t) := cell_of_heap hbm3
            have m1 : W3.cell? ⟨gm, 1, none⟩ = some (.slice none 0 0) := cell_of_heap hbm3
            unfold maxLen at hcm
            have hz3 := k3.size
            have hzL := kL.size
            have hAlt : ∀ x, AL = some ⟨x, 0, none⟩ → x < W3.heap.size := fun x hx => by have := (HLK.out x hx).2.2.1; have := HG.out; omega
            obtain ⟨W5, hW5⟩ : ∃ W, W = W3.alloc (.cells #[.int .u32 t, .slice none 0 0] 48) := ⟨_, rfl⟩
            have k5 : Old W3 W5 := by rw [hW5]; exact (Keeps.refl _ _).alloc _
            have hb5 : W5.heap[W3.heap.size]? = some (.cells #[.int .u32 t, .slice none 0 0] 48 (0, 0)) := by rw [hW5]; exact heap_alloc_new _ _
            have hst5 := hst3.keep k5 fun _ _ => trivial
            have hn5 : ∀ j u, (mrow t 1)[j]? = some u → W5.cell? ((⟨W3.heap.size, 0, none⟩ : Addr).add j) = some u := World.news_of_block hb5
            have HK3 := hid (And.intro hB3 (And.intro KM3 (And.intro k3 (And.intro kL (And.intro hbm3 (And.intro hK' hM'))))))
            clear hB3 KM3 k3 kL hK' hM' hkp hkk hst3 k1 hb1 hz1 hbm
            go_upto_region 12 with (at_builtin; rw [← hW5]; refine wpList_appH _ (by rfl) _ _ (by rfl) (by rfl) hst5 (Nat.le_refl _) ⟨W3.heap.size, 0, none⟩ 1 1 (by rfl) hn5 (by omega) (by omega) (by unfold maxLen; omega) ?_; intro v6 w6 hap6)
            obtain ⟨b1, c1, f1, hv6, hc61, hc62, hst6, hf1, hor1, k6, hb6⟩ := hap6.two hst5 (by unfold maxLen; omega) (fun x hx => by have := hAlt x hx; have := k5.size; omega)
            subst hv6
            have k36 : Keeps (fun x => AL ≠ some ⟨x, 0, none⟩) W3 w6 := (k5.old _).trans' k6
            have hbm6 := k36.heap hbm3 (fun e => hgme gm e rfl)
            have m0 : w6.cell? ⟨gm, 0, none⟩ = some (.int .u32 t) := cell_of_heap hbm6
            have m1 : w6.cell? ⟨gm, 1, none⟩ = some (.slice none 0 0) := cell_of_heap hbm6
            obtain ⟨W7, hW7⟩ : ∃ W, W = w6.alloc (.cells #[.int .u32 t, .slice none 0 0, .int .u32 t, .slice none 0 0] 48) := ⟨_, rfl⟩
            have k7 : Old w6 W7 := by rw [hW7]; exact (Keeps.refl _ _).alloc _
            have hb7 : W7.heap[w6.heap.size]? = some (.cells #[.int .u32 t, .slice none 0 0, .int .u32 t, .slice none 0 0] 48 (0, 0)) := by rw [hW7]; exact heap_alloc_new _ _
            have hst7 := hst6.keep k7 fun _ _ => trivial
            have hn7 : ∀ j u, (mrow t 2)[j]? = some u → W7.cell? ((⟨w6.heap.size, 0, none⟩ : Addr).add j) = some u := World.news_of_block hb7
            have HK6 := hid (And.intro k36 (And.intro hor1 hb6))
            have hz36 := k36.size
            have hz35 := k5.size
            clear hor1 hst5 hst6 hap6 k6 k5 hb5 hn5 hb6
            go_upto_region 13 with (at_builtin; rw [← hW7]; refine wpList_appH _ (by rfl) _ _ (by rfl) (by rfl) hst7 hf1 ⟨w6.heap.size, 0, none⟩ 2 2 (by rfl) hn7 (by omega) (by omega) (by unfold maxLen; omega) ?_; intro v8 w8 hap8)
            obtain ⟨b2, c2, f2, hv8, hc81, hc82, hst8, hf2, hor2, k8, hb8⟩ := hap8.two hst7 (by unfold maxLen; omega) (fun x hx => by have := hAlt x hx; have := k7.size; omega)
            subst hv8
            have k68 : Keeps (fun x => AL ≠ some ⟨x, 0, none⟩) w6 w8 := (k7.old _).trans' k8
            have hbm8 := k68.heap hbm6 (fun e => hgme gm e rfl)
            have hz68 := k68.size
            have hz67 := k7.size
            obtain ⟨r, hrr⟩ : ∃ r, r = c - q.length := ⟨_, rfl⟩
            obtain ⟨FR, hFR⟩ : ∃ FR, FR = min r 70000 := ⟨_, rfl⟩
            have b3 : IntKind.i64.wrap ((c : Int) - (q.length : Int)) = (r : Int) := by rw [IntKind.wrap_i64]; omega
            have hfa : ∀ W, Calls Try.prog 58 #[.int .i64 (r : Int)] W fun e w' => e = .returned (.int .i64 (FR : Int)) ∧ W = w' := fun W => by
              have h := far_any W (r : Int) (by omega) (by omega)
              rw [show min (r : Int) 70000 = (FR : Int) by omega] at h
              exact h
            have HFA := hid hfa
            have hFc : q.length + FR ≤ c := by omega
            have hF7 : FR ≤ 70000 := by omega
            have HS := hid (show q.length + 0 ≤ f2 ∧ f2 ≤ f2 ∧ HSt w8 AL q.length c t f2 ∧ Keeps (fun x => AL ≠ some ⟨x, 0, none⟩) w8 w8 from ⟨by omega, Nat.le_refl _, hst8, Keeps.refl _ _⟩)
            have HK8 := hid (And.intro k68 (And.intro hor2 (And.intro hbm8 hb8)))
            clear hrr hFR hfa hor2 hst7 hst8 hap8 k8 k7 hb7 hn7 hbm6 hbm8 m0 m1 hb8
            go_wp2
            go_loopw [9, 10] (fun g i wr3 => ∃ j f : Nat, i = .int .i64 j ∧ j ≤ FR ∧ g = .slice AL (q.length + j) c ∧ Hid (q.length + j ≤ f ∧ f2 ≤ f ∧ HSt wr3 AL q.length c t f ∧ Keeps (fun x => AL ≠ some ⟨x, 0, none⟩) w8 wr3)) (fun _ i _ => FR - (intOf i).toNat)
            case atStart => exact ⟨0, f2, rfl, Nat.zero_le _, rfl, HS⟩
            case round =>
              clear HS
              obtain ⟨j, f, rfl, hj, rfl, hin⟩ := hrel
              have i4 : (0 : Int) ≤ (j : Int) := by omega
              go_wp2_with fail
              with_reducible refine (HFA.out _).mono ?_
              rintro e w1' ⟨rfl, rfl⟩
              obtain ⟨hfj, hff, hst, hkk⟩ := hin.out
              clear hin
              by_cases hlt3 : j < FR
              · have i5 : (j : Int) < (FR : Int) := by omega
                have hbm9 := hkk.heap HK8.out.2.2.1 (fun e => hgme gm e rfl)
                have m0 : wr.cell? ⟨gm, 0, none⟩ = some (.int .u32 t) := cell_of_heap hbm9
                have m1 : wr.cell? ⟨gm, 1, none⟩ = some (.slice none 0 0) := cell_of_heap hbm9
                have hstj : HSt wr AL (q.length + j) c t f := by
                  rcases hst with ⟨_, _, h1, _⟩ | h
                  · omega
                  · exact .inr h
                obtain ⟨W9, hW9⟩ : ∃ W, W = wr.alloc (.cells #[.int .u32 t, .slice none 0 0] 48) := ⟨_, rfl⟩
                have k9 : Old wr W9 := by rw [hW9]; exact (Keeps.refl _ _).alloc _
                have hb9 : W9.heap[wr.heap.size]? = some (.cells #[.int .u32 t, .slice none 0 0] 48 (0, 0)) := by rw [hW9]; exact heap_alloc_new _ _
                have hst9 := hstj.keep k9 fun _ _ => trivial
                have hn9 : ∀ j u, (mrow t 1)[j]? = some u → W9.cell? ((⟨wr.heap.size, 0, none⟩ : Addr).add j) = some u := World.news_of_block hb9
                clear hstj hbm9 hst
                go_wp2_with (at_builtin; rw [← hW9]; refine wpList_appH _ (by rfl) _ _ (by rfl) (by rfl) hst9 hfj ⟨wr.heap.size, 0, none⟩ 1 1 (by rfl) hn9 (by omega) (by omega) (by unfold maxLen; omega) ?_; intro v10 w10 hap10)
                rcases hap10 with ⟨gl, rfl, _, hv10, hR10, k10, _⟩ | ⟨h10, _⟩
                · subst hv10
                  have HR := hid (show q.length + (j + 1) ≤ max f (q.length + j + 1) ∧ f2 ≤ max f (q.length + j + 1) ∧ HSt w10 (some ⟨gl, 0, none⟩) q.length c t (max f (q.length + j + 1)) ∧ Keeps (fun x => some (⟨gl, 0, none⟩ : Addr) ≠ some ⟨x, 0, none⟩) w8 w10 from ⟨by omega, by omega, .inr ⟨gl, rfl, hR10⟩, (hkk.trans' (k9.old _)).trans' (k10.mono fun x _ hx e => hx (by rw [e]))⟩)
                  clear hR10 k10 hkk k9 hb9 hW9 hst9 hn9
                  exact ⟨⟨j + 1, _, by go_num, by omega, by rw [Nat.add_assoc], HR⟩, by simp [intOf]; omega⟩
                · omega
              · obtain rfl : j = FR := by omega
                have i5 : ¬ ((j : Nat) : Int) < (j : Int) := by omega
                obtain ⟨hB3, KM3, k3, kL, hbm3, hK', hM'⟩ := HK3.out
                obtain ⟨k36, hor1, hb6⟩ := HK6.out
                obtain ⟨k68, hor2, _, hb8⟩ := HK8.out
                have kE : Keeps (fun x => AL ≠ some ⟨x, 0, none⟩) W3 wr := (k36.trans' k68).trans' hkk
                have hzE := kE.size
                have hz8E := hkk.size
                have hzw := HBK.out.2.1.size
                have hgw := HG.out
                have hBb := HBK.out.1
                have hBr := hB3.keep (w' := wr) (kE.mono fun x _ hx e => by
                  have := HLK.out x e
                  rcases hx with hx | hx
                  · exact this.1 hx
                  · exact this.2.1 hx)
                have hne : ∀ x, W3.heap.size ≤ x → AL ≠ some ⟨x, 0, none⟩ := fun x hx e => by have := hAlt x e; omega
                obtain ⟨K2, hK2⟩ : ∃ K2 : Nat → Prop, K2 = fun x => K' x ∨ AL = some ⟨x, 0, none⟩ ∨ x = b1 ∨ x = b2 := ⟨_, rfl⟩
                have hKK : ∀ x, K' x → K2 x := fun x hx => by rw [hK2]; exact .inl hx
                have hKA : ∀ x, AL = some ⟨x, 0, none⟩ → K2 x := fun x hx => by rw [hK2]; exact .inr (.inl hx)
                have hKb1 : K2 b1 := by rw [hK2]; exact .inr (.inr (.inl rfl))
                have hKb2 : K2 b2 := by rw [hK2]; exact .inr (.inr (.inr rfl))
                have hb1c : AL = some ⟨b1, 0, none⟩ ∨ (W3.heap.size ≤ b1 ∧ b1 < wr.heap.size) := by
                  rcases hor1 with h' | h'
                  · exact .inl h'.1
                  · have := h'.1; right; omega
                have hb2c : AL = some ⟨b2, 0, none⟩ ∨ (W3.heap.size ≤ b2 ∧ b2 < wr.heap.size) := by
                  rcases hor2 with h' | h'
                  · exact .inl h'.1
                  · have := h'.1; right; omega
                have hcase : ∀ x, (AL = some ⟨x, 0, none⟩ ∨ (W3.heap.size ≤ x ∧ x < wr.heap.size)) → ¬ M' x ∧ x < wr.heap.size ∧ (K x ∨ F x ∨ w.heap.size ≤ x) := fun x hx => by
                  rcases hx with hx | hx
                  · have := HLK.out x hx
                    have h3 := this.2.2.1
                    exact ⟨this.2.1, by omega, .inr (.inl this.2.2.2)⟩
                  · exact ⟨fun hm => by have := hB3.lt x (.inr hm); omega, by omega, by right; right; omega⟩
                have hK2M : ∀ x, K2 x → ¬ M' x ∧ x < wr.heap.size ∧ (K x ∨ F x ∨ w.heap.size ≤ x) := fun x hx => by
                  rw [hK2] at hx
                  rcases hx with hx | hx | hx | hx
                  · exact ⟨hBb.apart x hx, by have := hBb.lt x (.inl hx); omega, hK' x hx⟩
                  · exact hcase x (.inl hx)
                  · rw [hx]; exact hcase b1 hb1c
                  · rw [hx]; exact hcase b2 hb2c
                have ho1 : HeadV K2 wr (.slice AL q.length c) t := hst.head hKA (by omega) (by omega)
                have ho2 : HeadV K2 wr (.slice (some ⟨b1, 0, none⟩) (q.length + 1) c1) t := by
                  rcases hor1 with ⟨e1, e2, e3⟩ | ⟨e1, e2⟩
                  · rw [← e1, e2]; exact hst.head hKA (by omega) (by omega)
                  · exact ((e2.keep k68 (hne b1 (by omega))).keep hkk (hne b1 (by omega))).head hKb1 (Nat.le_refl _) (by omega)
                have ho3 : HeadV K2 wr (.slice (some ⟨b2, 0, none⟩) (q.length + 2) c2) t := by
                  rcases hor2 with ⟨e1, e2, e3⟩ | ⟨e1, e2⟩
                  · rw [← e1, e2]; exact hst.head hKA (by omega) (by omega)
                  · exact (e2.keep hkk (hne b2 (by omega))).head hKb2 (Nat.le_refl _) (by omega)
                have ho4 : HeadV K2 wr (.slice AL (q.length + j) c) t := hst.head hKA hfj (by omega)
                have KMr : Keeps (fun x => ¬ M x ∧ ¬ F x) w wr := KM3.trans kE fun x _ hx e => hx.2 (HLK.out x e).2.2.2
                clear hK2 k36 k68 kE kL k3 KM3 hB3 hst hkk hor1 hor2 hbm3 hb1c hb2c hcase hb6 hb8
                obtain ⟨W6, hW6⟩ : ∃ W, W = wr.alloc (.cells #[.slice AL q.length c, .slice (some ⟨b1, 0, none⟩) (q.length + 1) c1, .slice (some ⟨b2, 0, none⟩) (q.length + 2) c2, .slice AL (q.length + j) c] 34) := ⟨_, rfl⟩
                have k6 : Old wr W6 := by rw [hW6]; exact (Keeps.refl _ _).alloc _
                have hb6 : W6.heap[wr.heap.size]? = some (.cells #[.slice AL q.length c, .slice (some ⟨b1, 0, none⟩) (q.length + 1) c1, .slice (some ⟨b2, 0, none⟩) (q.length + 2) c2, .slice AL (q.length + j) c] 34 (0, 0)) := by rw [hW6]; exact heap_alloc_new _ _
                have hB6 := hBr.keep (k6.old _)
                have hrow6 := hB6.o
                have d3 : wr.cell? ⟨p, 3, none⟩ = some (.slice AO os.length cO) := cell_of_heap hBr.head
                have hz6 : W6.heap.size = wr.heap.size + 1 := by rw [hW6]; simp
                have HZ6 := hid hz6
                clear hz6
                go_upto_region 18 with fail
                go_wp2_with (at_builtin; rw [← hW6]; refine wpList_append_ex _ (by rfl) _ _ 61 34 (by rfl) Try.underlying61 info34 (by rfl) (by omega) (by rfl) hrow6 (some ⟨wr.heap.size, 0, none⟩) 4 4 [Value.slice AL q.length c, .slice (some ⟨b1, 0, none⟩) (q.length + 1) c1, .slice (some ⟨b2, 0, none⟩) (q.length + 2) c2, .slice AL (q.length + j) c] (by rfl) (by rfl) (fun _ => ⟨_, rfl, World.news_of_block hb6⟩) (by intro u hu; simp at hu; rcases hu with rfl | rfl | rfl | rfl <;> rfl) (by omega) (by unfold maxLen; omega) ?_; intro v7 w7 hown7 hgrow7 hat7; have K67 : Keeps (fun k => (Value.slice AO os.length cO).ownBlock ≠ some k) W6 w7 := (Keeps.refl _ W6).grown hgrow7 (fun k _ h hn => hn h); have hh7 := K67.heap hB6.head hB6.parts.2.2.1; have u0 : w7.cell? ⟨p, 3, none⟩ = some (.slice AO os.length cO) := cell_of_heap hh7; have uf : ∀ i, w7.frozen? ⟨p, i, none⟩ = false := fun i => frozen_of_heap hh7; obtain ⟨A7, c7, hv7, _, _⟩ := own_slice hown7; subst hv7)
                obtain ⟨W8, hW8⟩ : ∃ W, W = w7.setCell ⟨p, 3, none⟩ (.slice A7 (os.length + 4) c7) := ⟨_, rfl⟩
                have k8 : Keeps (· ≠ p) w7 W8 := by rw [hW8]; exact (Keeps.refl _ _).setCell (fun _ h => h rfl) _
                have hd8 : W8.heap[p]? = some (.cells #[vL', vM', .int .i64 (s3 : Int), .slice A7 (os.length + 4) c7] 63 (0, 0)) := by rw [hW8, heap_setCell hh7]; rfl
                try rw [← hW8]
                have hz6 := HZ6.out
                have hvp7 : (Value.slice A7 (os.length + 4) c7).ownBlock ≠ some p := own_ne_heap hown7 hh7 (by decide)
                obtain ⟨a1, a2, a3, a4, a5⟩ := hB6.parts
                have hl8 := own_keeps (own_keeps hB6.l K67 (fun x hx e => (a4 x hx).2 e)) k8 (fun x hx e => a1 (by rw [hx, e]))
                have hm8 := own_keeps (own_keeps hB6.m K67 (fun x hx e => a5 x hx e)) k8 (fun x hx e => a2 (by rw [hx, e]))
                have ho8 := own_keeps hown7 k8 (fun x hx e => hvp7 (by rw [hx, e]))
                have kM : Keeps (fun x => ¬ M' x) wr W8 := ((k6.old _).trans' (K67.mono fun x _ hx e => hx (hB6.of x e))).trans' (k8.mono fun x _ hx e => hx (by rw [e]; exact hB6.fp))
                have kK : Keeps K2 wr W8 := kM.mono fun x _ hx => (hK2M x hx).1
                have hM7 : ∀ x, (Value.slice A7 (os.length + 4) c7).ownBlock = some x → M' x ∨ W6.heap.size ≤ x := fun x hx => by
                  rcases hat7 with e | e
                  · rw [e] at hx; exact .inl (hB6.of x hx)
                  · rw [e] at hx; injection hx with hx; right; omega
                have hz7 := kM.size
                have hte := HT.out
                have hB8 : BookM K2 (fun x => M' x ∨ (Value.slice A7 (os.length + 4) c7).ownBlock = some x) W8 p vL' vM' (.slice A7 (os.length + 4) c7) es' (os ++ [(Value.slice AL q.length c, headB os.length), (.slice (some ⟨b1, 0, none⟩) (q.length + 1) c1, headB os.length), (.slice (some ⟨b2, 0, none⟩) (q.length + 2) c2, headB os.length), (.slice AL (q.length + j) c, headB os.length)]) s3 := by
                  rw [← hte]
                  refine ⟨hd8, hl8, fun x hx => .inl (hB6.lf x hx), hm8, fun x hx => .inl (hB6.mf x hx), ?_, fun x hx => .inr hx, fun e he => ((hBr.ents e he).mono hKK).keep kK, fun e he => ?_, .inl hB6.fp, fun x hx hm => ?_, fun x hx => ?_, hBr.ml⟩
                  · rw [List.length_append, List.map_append]
                    exact ho8
                  · rcases List.mem_append.1 he with he | he
                    · exact ((hBr.outs e he).mono hKK).keep kK
                    · simp at he
                      rcases he with rfl | rfl | rfl | rfl
                      · exact ho1.keep kK
                      · exact ho2.keep kK
                      · exact ho3.keep kK
                      · exact ho4.keep kK
                  · have h1 := hK2M x hx
                    rcases hm with hm | hm
                    · exact h1.1 hm
                    · rcases hM7 x hm with h' | h'
                      · exact h1.1 h'
                      · omega
                  · rcases hx with hx | hx | hx
                    · have := hK2M x hx; omega
                    · have := hBr.lt x (.inr hx); omega
                    · exact own_lt ho8 hx
                have HB8 := hid hB8
                have HKM := hid (KMr.trans kM fun x hxw hx hm => by
                  rcases hM' x hm with h' | h'
                  · exact hx.1 h'
                  · omega)
                have HM7 := hid hM7
                clear hB8 KMr kM kK hl8 hm8 ho8 hd8 hown7 hgrow7 hat7 K67 hh7 hM7 k8
                first | go_end0 | refine bodyPost_ret (results_none rfl _ _ _) rfl ?_
                try rw [← hW8]
                refine ⟨rfl, K2, _, _, _, _, es', _, s3, HB8.out, HOS.out.push4 _ _ _ _, by omega, by rw [List.length_append]; show os.length + 4 ≤ _; omega, by have := HS3.out; omega, fun x hx => (hK2M x hx).2.2, fun x hx => ?_, HKM.out⟩
                rcases hx with hx | hx
                · exact hM' x hx
                · rcases HM7.out x hx with h' | h'
                  · exact hM' x h'
                  · right; omega
end Go.Proofs.Ytgnndggbjipioaa
