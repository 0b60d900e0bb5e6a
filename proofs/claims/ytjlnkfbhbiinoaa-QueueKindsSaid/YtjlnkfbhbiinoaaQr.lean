/-
  The document's own queue (mosaicref19): what each call does, of a queue that holds a list of numbers with their sizes.
-/
import Derived.Test.YtjlnkfbhbiinoaaQk
namespace Go.Proofs.Ytjlnkfbhbiinoaa
open Go.RowKit
set_option linter.unusedVariables false
set_option linter.unusedSimpArgs false

def rxs (l : List (Int × Int)) : List Value := l.map fun p => .int .i64 p.1
def rss (l : List (Int × Int)) : List Value := l.map fun p => .int .i64 p.2
theorem rxs_len (l : List (Int × Int)) : (rxs l).length = l.length := by simp [rxs]
theorem rss_len (l : List (Int × Int)) : (rss l).length = l.length := by simp [rss]

/-- The document's queue in memory: block R itself, its two lists in the footprint H. -/
def RRep (w : World) (R : Nat) (H : List Nat) (count most : Int) (l : List (Int × Int)) : Prop :=
  ∃ F G A1 c1 A2 c2, H = F ++ G ∧ (∀ k ∈ F, k ∉ G) ∧ Blk w R 43 #[.int .i64 count, .int .i64 most, .slice A1 l.length c1, .slice A2 l.length c2] ∧
    Row w 3 1 F A1 l.length c1 (rxs l) ∧ Row w 3 1 G A2 l.length c2 (rss l)

structure RI (w : World) (R : Nat) (H : List Nat) (count most : Int) (l : List (Int × Int)) : Prop where
  rep : RRep w R H count most l
  c0 : 0 ≤ count
  c1 : count ≤ 64
  n : (l.length : Int) ≤ count
  pos : ∀ p ∈ l, 0 ≤ p.2
  s : qsum l ≤ most
  b : most ≤ 9223372036854775807

def RPost (w : World) (R : Nat) (H : List Nat) (count most : Int) (l : List (Int × Int)) (v : Value) : Ending → World → Prop := fun e w' =>
  e = .returned v ∧ ∃ H', RI w' R H' count most l ∧ Only (R :: H) w w' ∧ ∀ k ∈ H', k ∈ H ∨ w.heap.size ≤ k

theorem RI.lt {w : World} {R : Nat} {H : List Nat} {count most : Int} {l : List (Int × Int)} (h : RI w R H count most l) : ∀ k ∈ R :: H, k < w.heap.size := by
  obtain ⟨F, G, A1, c1, A2, c2, rfl, _, hb, h1, h2⟩ := h.rep
  intro k hk
  rcases List.mem_cons.1 hk with rfl | hk
  · exact hb.lt
  · rcases List.mem_append.1 hk with hk | hk
    · exact h1.lt k hk
    · exact h2.lt k hk
theorem RI.only {w w' : World} {R : Nat} {H E : List Nat} {count most : Int} {l : List (Int × Int)} (h : RI w R H count most l) (ho : Only E w w') (hd : ∀ k ∈ R :: H, k ∉ E) : RI w' R H count most l := by
  obtain ⟨⟨F, G, A1, c1, A2, c2, rfl, hFG, hb, h1, h2⟩, r1, r2, r3, r4, r5, r6⟩ := h
  exact ⟨⟨F, G, A1, c1, A2, c2, rfl, hFG, hb.only ho (hd R (by simp)), h1.only ho (fun k hk => hd k (by simp [hk])), h2.only ho (fun k hk => hd k (by simp [hk]))⟩, r1, r2, r3, r4, r5, r6⟩
theorem RI.drewN {w : World} {R : Nat} {H : List Nat} {count most : Int} {l : List (Int × Int)} (h : RI w R H count most l) (k : Nat) : RI (w.drewN k) R H count most l :=
  h.only ((Only.refl [] w).drewN k) (by simp)

theorem qsum_take_le (l : List (Int × Int)) (h : ∀ p ∈ l, 0 ≤ p.2) (k : Nat) : 0 ≤ qsum (l.take k) ∧ qsum (l.take k) ≤ qsum l := by
  have h1 := qsum_nonneg (l.take k) (fun p hp => h p (List.mem_of_mem_take hp))
  have h2 := qsum_nonneg (l.drop k) (fun p hp => h p (List.mem_of_mem_drop hp))
  have h3 : qsum l = qsum (l.take k) + qsum (l.drop k) := by
    have := congrArg qsum (List.take_append_drop k l)
    rw [← this]
    simp only [qsum, List.map_append, List.sum_append]
  omega
theorem qsum_take_succ (l : List (Int × Int)) (k : Nat) (h : k < l.length) : qsum (l.take (k + 1)) = qsum (l.take k) + l[k].2 := by
  rw [List.take_succ_eq_append_getElem h, qsum_snoc]

set_option maxRecDepth 100000 in
set_option maxHeartbeats 800000 in
theorem bytesRef_any (R : Nat) (H : List Nat) (count most : Int) (l : List (Int × Int)) (w : World) (h : RI w R H count most l) :
    Calls Try.prog 24 #[.pointer (some ⟨R, 0, none⟩)] w fun e w' => e = .returned (.int .i64 (qsum l)) ∧ w = w' := by
  obtain ⟨⟨F, G, A1, c1, A2, c2, rfl, hFG, hb, hr1, hr2⟩, r1, r2, r3, r4, r5, r6⟩ := h
  have c3 : w.cell? ⟨R, 3, none⟩ = some (.slice A2 l.length c2) := hb.cell 3
  have hlen : l.length ≤ 64 := by omega
  have hS : ∀ k, (hk : k < l.length) → ∃ g, A2 = some ⟨g, 0, none⟩ ∧ w.cell? ⟨g, k, none⟩ = some (.int .i64 l[k].2) := fun k hk => by
    obtain ⟨g, hA, _, hc⟩ := hr2.cellAt (j := k) (u := .int .i64 l[k].2) (by simp [rss, hk])
    exact ⟨g, hA, hc⟩
  have HS := Lib.hid hS; clear hS
  have HB := Lib.hid hb; clear hb hr1 hr2
  have HT := Lib.hid (qsum_take_le l r4)
  have HU := Lib.hid (qsum_take_succ l)
  have hq0 := qsum_nonneg l r4
  have HP := Lib.hid r4; clear r4 hFG
  go_enter Try.func24, Try.ntmps24
  go_wp2_with fail
  go_loop [3, 4] (fun n i => ∃ k : Nat, k ≤ l.length ∧ i = .int .i64 k ∧ n = .int .i64 (qsum (l.take k))) (fun _ i => l.length - (intOf i).toNat)
  case atStart => exact ⟨0, Nat.zero_le _, rfl, rfl⟩
  case round =>
    obtain ⟨k, hk, rfl, rfl⟩ := hrel
    by_cases hlt : k < l.length
    · obtain ⟨g, rfl, hc⟩ := HS.out k hlt
      have t1 := HT.out k
      have t2 := HT.out (k + 1)
      have HE := Lib.hid (HU.out k hlt)
      rw [HU.out k hlt] at t2
      generalize hy : l[k].2 = y at *
      clear hy
      go_wp2_with fail
      go_round
      case rel => exact ⟨k + 1, by omega, by go_num, by rw [HE.out]⟩
      case measure => simp [intOf]; omega
    · go_wp2_with fail
      go_ret
      have hkl : k = l.length := by omega
      subst hkl
      exact ⟨ret_int (by rw [List.take_length]), rfl⟩

theorem Try.infoInt : (Try.prog.info? 3).map (fun i => (i.zero, i.size, i.bytes)) = some (some (.int .i64 0), 1, 8) := by kernel_rfl

theorem news_at (w : World) (t : TypeId) (l : List Value) (b : Nat) (hb : w.heap.size = b) : ∀ j u, l[j]? = some u → (w.alloc (.cells l.toArray t)).cell? ((⟨b, 0, none⟩ : Addr).add j) = some u := by
  subst hb
  exact news_of_new w t l
theorem size_setCell (w : World) (a : Addr) (v : Value) : (w.setCell a v).heap.size = w.heap.size := by simp [World.setCell]

theorem rxs_snoc (l : List (Int × Int)) (x s : Int) : rxs (l ++ [(x, s)]) = rxs l ++ [.int .i64 x] := by simp [rxs]
theorem rss_snoc (l : List (Int × Int)) (x s : Int) : rss (l ++ [(x, s)]) = rss l ++ [.int .i64 s] := by simp [rss]


set_option maxRecDepth 100000 in
set_option maxHeartbeats 1600000 in
theorem pushRef_yes (R : Nat) (H : List Nat) (count most x s : Int) (l : List (Int × Int)) (w : World) (h : RI w R H count most l)
    (h0 : 0 ≤ s) (h1 : (l.length : Int) < count) (h2 : s ≤ most - qsum l) :
    Calls Try.prog 22 #[.pointer (some ⟨R, 0, none⟩), .int .i64 x, .int .i64 s] w (RPost w R H count most (l ++ [(x, s)]) (.bool true)) := by
  obtain ⟨i0, hi, hz0, hz1, hz2⟩ := info_parts Try.infoInt
  have HI := Lib.hid hi; clear hi
  have HZ0 := Lib.hid hz0; clear hz0
  have HZ1 := Lib.hid hz1; clear hz1
  have HZ2 := Lib.hid hz2; clear hz2
  have HBY := Lib.hid (bytesRef_any R H count most l)
  have HRI := Lib.hid h
  obtain ⟨⟨F, G, A1, c1, A2, c2, rfl, hFG, hb, hr1, hr2⟩, r1, r2, r3, r4, r5, r6⟩ := h
  have hq0 := qsum_nonneg l r4
  have d0 := hb.cell 0
  have d1 := hb.cell 1
  have d2 := hb.cell 2
  have d3 := hb.cell 3
  simp only [List.getElem?_toArray, List.getElem?_cons_succ, List.getElem?_cons_zero] at d0 d1 d2 d3
  have hd : decide (count ≤ (l.length : Int)) = false := by simp; omega
  have hRF : R ∉ F := hr1.ne_blk hb (by decide)
  have hRG : R ∉ G := hr2.ne_blk hb (by decide)
  have HRF := Lib.hid hRF; clear hRF
  have HRG := Lib.hid hRG; clear hRG
  have HB := Lib.hid hb; clear hb
  have HR1 := Lib.hid hr1; clear hr1
  have HR2 := Lib.hid hr2; clear hr2
  have HP := Lib.hid r4; clear r4
  have HFG := Lib.hid hFG; clear hFG
  generalize hq : qsum l = sm at *
  have HQ := Lib.hid hq; clear hq
  generalize hn : l.length = n at *
  have HN := Lib.hid hn; clear hn
  go_enter Try.func22, Try.ntmps22
  go_wp2_with (go_at_call 24; refine (HBY.out _ HRI.out).mono ?_; rintro e w' ⟨rfl, rfl⟩)
  go_quiet (fail)
  have tok0 : True := trivial
  go_wp2_with (first
    | (at_builtin; have _t := tok0; refine wpList_append_row _ rfl (.tmp 36) (.tmp 38) 41 rfl 3 i0 _ 1 8 Try.underlying41 HI.out HZ0.out HZ1.out HZ2.out rfl (by decide) F A1 n c1 (rxs l) rfl (((HR1.out).drewN nq).alloc _) ⟨w.heap.size, 0, none⟩ 1 1 [.int .i64 x] rfl rfl (news_of_new _ _ _) (by simp [Value.oneCell']) (by decide) (by unfold maxLen; omega) (by omega) ?_; intro g1 cap1 w1 hR1 hO1 hg1; have HB1 := Lib.hid (((HB.out.drewN nq).alloc _).only hO1 HRF.out); have HR3 := Lib.hid ((((HR2.out).drewN nq).alloc _).only hO1 (fun k hk hf => HFG.out k hf hk)); have f2 := HB1.out.frozen 2; have e2 := HB1.out.cell 2; have e23 := HB1.out.cell 3; have HN1 := Lib.hid hR1; have HO1 := Lib.hid hO1; have HG1 := Lib.hid hg1; clear hR1 hO1 hg1; simp only [List.getElem?_toArray, List.getElem?_cons_succ, List.getElem?_cons_zero] at e2 e23; clear tok0; have tok1 : True := trivial)
    | (at_builtin; have _t := tok1; refine wpList_append_row _ rfl (.tmp 46) (.tmp 48) 41 rfl 3 i0 _ 1 8 Try.underlying41 HI.out HZ0.out HZ1.out HZ2.out rfl (by decide) G A2 n c2 (rss l) rfl ((HR3.out.setFar (p := ⟨R, 2, none⟩) HRG.out _).alloc _) ⟨w1.heap.size, 0, none⟩ 1 1 [.int .i64 s] rfl rfl (news_at _ _ _ _ (size_setCell _ _ _)) (by simp [Value.oneCell']) (by decide) (by unfold maxLen; omega) (by omega) ?_; intro g2 cap2 w2 hR2 hO2 hg2; have HB2 := Lib.hid (((HB1.out.set_ 2 (.slice (some ⟨g1, 0, none⟩) (n + 1) cap1)).alloc _).only hO2 HRG.out); have f3 := HB2.out.frozen 3; have e3 := HB2.out.cell 3; have HN2 := Lib.hid hR2; have HO2 := Lib.hid hO2; have HG2 := Lib.hid hg2; clear hR2 hO2 hg2; simp only [List.getElem?_toArray, List.getElem?_cons_succ, List.getElem?_cons_zero, List.set_cons_succ, List.set_cons_zero, List.setIfInBounds_toArray] at e3; clear tok1))
  go_ret
  have hR1 : R ∉ [g1] := HN1.out.ne_blk HB1.out (by decide)
  have hR2 : R ∉ [g2] := HN2.out.ne_blk HB2.out (by decide)
  have hg1 : g1 < w1.heap.size := HN1.out.lt g1 (by simp)
  have hsz : w.heap.size + 1 ≤ w1.heap.size := by have := HO1.out.size; simp at this; omega
  have hgG : g1 ∉ G := fun hg => by
    rcases HG1.out with h | h
    · exact HFG.out g1 h hg
    · have := HR2.out.lt g1 hg
      simp at h
      omega
  have hg12 : g1 ≠ g2 := fun he => by
    rcases HG2.out with h | h
    · exact hgG (he ▸ h)
    · simp [size_setCell] at h
      omega
  have hO : Only (R :: (F ++ G)) w w2 := by
    have h := ((Only.refl (R :: (F ++ G)) w).drewN nq).alloc (.cells #[.int .i64 x] 3)
    have h := h.trans HO1.out (fun k hk => .inl (by simp [hk]))
    have h := (h.setCell (p := ⟨R, 2, none⟩) (.inl (by simp)) (.slice (some ⟨g1, 0, none⟩) (n + 1) cap1)).alloc (.cells #[.int .i64 s] 3)
    exact h.trans HO2.out (fun k hk => .inl (by simp [hk]))
  have hone : ∀ k ∈ [g1], k ∉ G := fun k hk => by
    have e : k = g1 := by simpa using hk
    rw [e]
    exact hgG
  have HRow1 := ((HN1.out.setFar (p := ⟨R, 2, none⟩) hR1 (.slice (some ⟨g1, 0, none⟩) (n + 1) cap1)).alloc (.cells #[.int .i64 s] 3)).only HO2.out hone
  have hnn : (l ++ [(x, s)]).length = n + 1 := by rw [List.length_append, HN.out]; rfl
  refine ⟨rfl, [g1] ++ [g2], ⟨⟨[g1], [g2], some ⟨g1, 0, none⟩, cap1, some ⟨g2, 0, none⟩, cap2, rfl, ?_, ?_, ?_, ?_⟩, r1, r2, ?_, ?_, ?_, r6⟩, ?_, ?_⟩
  · intro k hk hk2
    have e1 : k = g1 := by simpa using hk
    have e2 : k = g2 := by simpa using hk2
    exact hg12 (e1.symm.trans e2)
  · rw [hnn]
    exact HB2.out.set_ 3 (.slice (some ⟨g2, 0, none⟩) (n + 1) cap2)
  · rw [hnn, rxs_snoc]
    exact HRow1.setFar (p := ⟨R, 3, none⟩) hR1 _
  · rw [hnn, rss_snoc]
    exact HN2.out.setFar (p := ⟨R, 3, none⟩) hR2 _
  · rw [hnn]; omega
  · intro q hq
    rcases List.mem_append.1 hq with hq | hq
    · exact HP.out q hq
    · have : q = (x, s) := by simpa using hq
      subst this
      simp only
      omega
  · rw [qsum_snoc, HQ.out]; omega
  · exact hO.setCell (.inl (by simp)) _
  · intro k hk
    rcases List.mem_append.1 hk with hk | hk
    · have : k = g1 := by simpa using hk
      subst this
      rcases HG1.out with h | h
      · exact .inl (by simp [h])
      · right; simp at h; omega
    · have : k = g2 := by simpa using hk
      subst this
      rcases HG2.out with h | h
      · exact .inl (by simp [h])
      · right; simp [size_setCell] at h; omega

set_option maxRecDepth 100000 in
set_option maxHeartbeats 1600000 in
theorem pushRef_neg (R : Nat) (H : List Nat) (count most x s : Int) (l : List (Int × Int)) (w : World) (h : RI w R H count most l)
    (h0 : s < 0) (h1 : (l.length : Int) < count)  :
    Calls Try.prog 22 #[.pointer (some ⟨R, 0, none⟩), .int .i64 x, .int .i64 s] w (RPost w R H count most (l ++ [(x, 0)]) (.bool true)) := by
  obtain ⟨i0, hi, hz0, hz1, hz2⟩ := info_parts Try.infoInt
  have HI := Lib.hid hi; clear hi
  have HZ0 := Lib.hid hz0; clear hz0
  have HZ1 := Lib.hid hz1; clear hz1
  have HZ2 := Lib.hid hz2; clear hz2
  have HBY := Lib.hid (bytesRef_any R H count most l)
  have HRI := Lib.hid h
  obtain ⟨⟨F, G, A1, c1, A2, c2, rfl, hFG, hb, hr1, hr2⟩, r1, r2, r3, r4, r5, r6⟩ := h
  have hq0 := qsum_nonneg l r4
  have d0 := hb.cell 0
  have d1 := hb.cell 1
  have d2 := hb.cell 2
  have d3 := hb.cell 3
  simp only [List.getElem?_toArray, List.getElem?_cons_succ, List.getElem?_cons_zero] at d0 d1 d2 d3
  have hd : decide (count ≤ (l.length : Int)) = false := by simp; omega
  have hRF : R ∉ F := hr1.ne_blk hb (by decide)
  have hRG : R ∉ G := hr2.ne_blk hb (by decide)
  have HRF := Lib.hid hRF; clear hRF
  have HRG := Lib.hid hRG; clear hRG
  have HB := Lib.hid hb; clear hb
  have HR1 := Lib.hid hr1; clear hr1
  have HR2 := Lib.hid hr2; clear hr2
  have HP := Lib.hid r4; clear r4
  have HFG := Lib.hid hFG; clear hFG
  generalize hq : qsum l = sm at *
  have HQ := Lib.hid hq; clear hq
  generalize hn : l.length = n at *
  have HN := Lib.hid hn; clear hn
  go_enter Try.func22, Try.ntmps22
  go_wp2_with (go_at_call 24; refine (HBY.out _ HRI.out).mono ?_; rintro e w' ⟨rfl, rfl⟩)
  go_quiet (fail)
  have tok0 : True := trivial
  go_wp2_with (first
    | (at_builtin; have _t := tok0; refine wpList_append_row _ rfl (.tmp 36) (.tmp 38) 41 rfl 3 i0 _ 1 8 Try.underlying41 HI.out HZ0.out HZ1.out HZ2.out rfl (by decide) F A1 n c1 (rxs l) rfl (((HR1.out).drewN nq).alloc _) ⟨w.heap.size, 0, none⟩ 1 1 [.int .i64 x] rfl rfl (news_of_new _ _ _) (by simp [Value.oneCell']) (by decide) (by unfold maxLen; omega) (by omega) ?_; intro g1 cap1 w1 hR1 hO1 hg1; have HB1 := Lib.hid (((HB.out.drewN nq).alloc _).only hO1 HRF.out); have HR3 := Lib.hid ((((HR2.out).drewN nq).alloc _).only hO1 (fun k hk hf => HFG.out k hf hk)); have f2 := HB1.out.frozen 2; have e2 := HB1.out.cell 2; have e23 := HB1.out.cell 3; have HN1 := Lib.hid hR1; have HO1 := Lib.hid hO1; have HG1 := Lib.hid hg1; clear hR1 hO1 hg1; simp only [List.getElem?_toArray, List.getElem?_cons_succ, List.getElem?_cons_zero] at e2 e23; clear tok0; have tok1 : True := trivial)
    | (at_builtin; have _t := tok1; refine wpList_append_row _ rfl (.tmp 46) (.tmp 48) 41 rfl 3 i0 _ 1 8 Try.underlying41 HI.out HZ0.out HZ1.out HZ2.out rfl (by decide) G A2 n c2 (rss l) rfl ((HR3.out.setFar (p := ⟨R, 2, none⟩) HRG.out _).alloc _) ⟨w1.heap.size, 0, none⟩ 1 1 [.int .i64 0] rfl rfl (news_at _ _ _ _ (size_setCell _ _ _)) (by simp [Value.oneCell']) (by decide) (by unfold maxLen; omega) (by omega) ?_; intro g2 cap2 w2 hR2 hO2 hg2; have HB2 := Lib.hid (((HB1.out.set_ 2 (.slice (some ⟨g1, 0, none⟩) (n + 1) cap1)).alloc _).only hO2 HRG.out); have f3 := HB2.out.frozen 3; have e3 := HB2.out.cell 3; have HN2 := Lib.hid hR2; have HO2 := Lib.hid hO2; have HG2 := Lib.hid hg2; clear hR2 hO2 hg2; simp only [List.getElem?_toArray, List.getElem?_cons_succ, List.getElem?_cons_zero, List.set_cons_succ, List.set_cons_zero, List.setIfInBounds_toArray] at e3; clear tok1))
  go_ret
  have hR1 : R ∉ [g1] := HN1.out.ne_blk HB1.out (by decide)
  have hR2 : R ∉ [g2] := HN2.out.ne_blk HB2.out (by decide)
  have hg1 : g1 < w1.heap.size := HN1.out.lt g1 (by simp)
  have hsz : w.heap.size + 1 ≤ w1.heap.size := by have := HO1.out.size; simp at this; omega
  have hgG : g1 ∉ G := fun hg => by
    rcases HG1.out with h | h
    · exact HFG.out g1 h hg
    · have := HR2.out.lt g1 hg
      simp at h
      omega
  have hg12 : g1 ≠ g2 := fun he => by
    rcases HG2.out with h | h
    · exact hgG (he ▸ h)
    · simp [size_setCell] at h
      omega
  have hO : Only (R :: (F ++ G)) w w2 := by
    have h := ((Only.refl (R :: (F ++ G)) w).drewN nq).alloc (.cells #[.int .i64 x] 3)
    have h := h.trans HO1.out (fun k hk => .inl (by simp [hk]))
    have h := (h.setCell (p := ⟨R, 2, none⟩) (.inl (by simp)) (.slice (some ⟨g1, 0, none⟩) (n + 1) cap1)).alloc (.cells #[.int .i64 0] 3)
    exact h.trans HO2.out (fun k hk => .inl (by simp [hk]))
  have hone : ∀ k ∈ [g1], k ∉ G := fun k hk => by
    have e : k = g1 := by simpa using hk
    rw [e]
    exact hgG
  have HRow1 := ((HN1.out.setFar (p := ⟨R, 2, none⟩) hR1 (.slice (some ⟨g1, 0, none⟩) (n + 1) cap1)).alloc (.cells #[.int .i64 0] 3)).only HO2.out hone
  have hnn : (l ++ [(x, 0)]).length = n + 1 := by rw [List.length_append, HN.out]; rfl
  refine ⟨rfl, [g1] ++ [g2], ⟨⟨[g1], [g2], some ⟨g1, 0, none⟩, cap1, some ⟨g2, 0, none⟩, cap2, rfl, ?_, ?_, ?_, ?_⟩, r1, r2, ?_, ?_, ?_, r6⟩, ?_, ?_⟩
  · intro k hk hk2
    have e1 : k = g1 := by simpa using hk
    have e2 : k = g2 := by simpa using hk2
    exact hg12 (e1.symm.trans e2)
  · rw [hnn]
    exact HB2.out.set_ 3 (.slice (some ⟨g2, 0, none⟩) (n + 1) cap2)
  · rw [hnn, rxs_snoc]
    exact HRow1.setFar (p := ⟨R, 3, none⟩) hR1 _
  · rw [hnn, rss_snoc]
    exact HN2.out.setFar (p := ⟨R, 3, none⟩) hR2 _
  · rw [hnn]; omega
  · intro q hq
    rcases List.mem_append.1 hq with hq | hq
    · exact HP.out q hq
    · have : q = (x, 0) := by simpa using hq
      subst this
      simp only
      omega
  · rw [qsum_snoc, HQ.out]; omega
  · exact hO.setCell (.inl (by simp)) _
  · intro k hk
    rcases List.mem_append.1 hk with hk | hk
    · have : k = g1 := by simpa using hk
      subst this
      rcases HG1.out with h | h
      · exact .inl (by simp [h])
      · right; simp at h; omega
    · have : k = g2 := by simpa using hk
      subst this
      rcases HG2.out with h | h
      · exact .inl (by simp [h])
      · right; simp [size_setCell] at h; omega

set_option maxRecDepth 100000 in
set_option maxHeartbeats 1600000 in
theorem pushRef_no (R : Nat) (H : List Nat) (count most x s : Int) (l : List (Int × Int)) (w : World) (h : RI w R H count most l)
    (hno : (l.length : Int) = count ∨ (0 ≤ s ∧ (l.length : Int) < count ∧ most - qsum l < s)) :
    Calls Try.prog 22 #[.pointer (some ⟨R, 0, none⟩), .int .i64 x, .int .i64 s] w (RPost w R H count most l (.bool false)) := by
  have HBY := Lib.hid (bytesRef_any R H count most l)
  have HRI := Lib.hid h
  obtain ⟨⟨F, G, A1, c1, A2, c2, rfl, hFG, hb, hr1, hr2⟩, r1, r2, r3, r4, r5, r6⟩ := h
  have hq0 := qsum_nonneg l r4
  have d0 := hb.cell 0
  have d1 := hb.cell 1
  have d2 := hb.cell 2
  have d3 := hb.cell 3
  simp only [List.getElem?_toArray, List.getElem?_cons_succ, List.getElem?_cons_zero] at d0 d1 d2 d3
  clear hb hr1 hr2 r4 hFG
  have HRP : Hid (∀ k, RPost w R (F ++ G) count most l (.bool false) (.returned (.bool false)) (w.drewN k)) := fun k => ⟨rfl, F ++ G, HRI.out.drewN k, (Only.refl _ w).drewN k, fun k hk => .inl hk⟩
  generalize hq : qsum l = sm at *
  clear hq
  generalize hn : l.length = n at *
  clear hn
  rcases hno with he | ⟨h0, h1, h2⟩
  · have hd : decide (count ≤ (n : Int)) = true := by simp; omega
    by_cases h0 : 0 ≤ s
    all_goals
      go_enter Try.func22, Try.ntmps22
      go_wp2_with (go_at_call 24; refine (HBY.out _ HRI.out).mono ?_; rintro e w' ⟨rfl, rfl⟩)
      go_quiet (fail)
      go_wp2_with fail
      go_ret
      exact HRP.out nq
  · have hd : decide (count ≤ (n : Int)) = false := by simp; omega
    go_enter Try.func22, Try.ntmps22
    go_wp2_with (go_at_call 24; refine (HBY.out _ HRI.out).mono ?_; rintro e w' ⟨rfl, rfl⟩)
    go_quiet (fail)
    go_wp2_with fail
    go_ret
    exact HRP.out nq

theorem pushRef_any (R : Nat) (H : List Nat) (count most x s : Int) (l : List (Int × Int)) (w : World) (h : RI w R H count most l) :
    Calls Try.prog 22 #[.pointer (some ⟨R, 0, none⟩), .int .i64 x, .int .i64 s] w (RPost w R H count most (qpush count most l x s) (.bool (qroom count most l s))) := by
  have h7 := qsum_nonneg l h.pos
  have hn := h.n
  have hs5 := h.s
  by_cases hf : (l.length : Int) = count
  · unfold qpush
    rw [qroom_full (bytes := most) (l := l) (s := s) hf]
    exact pushRef_no R H count most x s l w h (.inl hf)
  · by_cases hs : 0 ≤ s
    · by_cases hbig : most - qsum l < s
      · unfold qpush
        rw [qroom_big (count := count) (bytes := most) (l := l) (s := s) (by omega)]
        exact pushRef_no R H count most x s l w h (.inr ⟨hs, by omega, hbig⟩)
      · unfold qpush
        rw [qroom_yes (count := count) (bytes := most) (l := l) (s := s) (by omega) (by omega), if_pos rfl, show max s 0 = s by omega]
        exact pushRef_yes R H count most x s l w h hs (by omega) (by omega)
    · unfold qpush
      rw [qroom_yes (count := count) (bytes := most) (l := l) (s := s) (by omega) (by omega), if_pos rfl, show max s 0 = 0 by omega]
      exact pushRef_neg R H count most x s l w h (by omega) (by omega)
end Go.Proofs.Ytjlnkfbhbiinoaa
