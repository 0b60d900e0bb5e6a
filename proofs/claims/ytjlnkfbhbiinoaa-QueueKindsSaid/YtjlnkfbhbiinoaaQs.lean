/-
  The document's own queue (mosaicref19): Pop.
-/
import Derived.Test.YtjlnkfbhbiinoaaQr
namespace Go.Proofs.Ytjlnkfbhbiinoaa
open Go.RowKit
set_option linter.unusedVariables false
set_option linter.unusedSimpArgs false

theorem Row.tailCells {w : World} {e : TypeId} {g n c : Nat} {v : Value} {xs : List Value} (h : Row w e 1 [g] (some ⟨g, 0, none⟩) n c (v :: xs)) : ∀ j u, xs[j]? = some u → w.cell? ((⟨g, 1, none⟩ : Addr).add j) = some u := by
  intro j u hu
  obtain ⟨q9, e9, _, h9⟩ := h.cellAt (j := 1 + j) (u := u) (by rw [Nat.add_comm]; exact hu)
  injection e9 with e9
  injection e9 with e9
  subst e9
  rw [Addr.add_lit]
  exact h9

set_option maxRecDepth 100000 in
set_option maxHeartbeats 800000 in
theorem popRef_none (R : Nat) (H : List Nat) (count most : Int) (w : World) (h : RI w R H count most []) :
    Calls Try.prog 23 #[.pointer (some ⟨R, 0, none⟩)] w (RPost w R H count most [] (.tuple #[.int .i64 0, .bool false])) := by
  have HRI := Lib.hid h
  obtain ⟨⟨F, G, A1, c1, A2, c2, rfl, hFG, hb, hr1, hr2⟩, _⟩ := h
  have d2 : w.cell? ⟨R, 2, none⟩ = some (.slice A1 0 c1) := hb.cell 2
  clear hb hr1 hr2 hFG
  go_enter Try.func23, Try.ntmps23
  go_wp2_with fail
  go_ret2
  exact ⟨rfl, _, HRI.out, Only.refl _ w, fun k hk => .inl hk⟩

set_option maxRecDepth 100000 in
set_option maxHeartbeats 1600000 in
theorem popRef_one (R : Nat) (H : List Nat) (count most x s : Int) (w : World) (h : RI w R H count most [(x, s)]) :
    Calls Try.prog 23 #[.pointer (some ⟨R, 0, none⟩)] w (RPost w R H count most [] (.tuple #[.int .i64 x, .bool true])) := by
  obtain ⟨⟨F, G, A1, c1, A2, c2, rfl, hFG, hb, hr1, hr2⟩, r1, r2, r3, r4, r5, r6⟩ := h
  have hs := r4 (x, s) (by simp)
  rw [qsum_cons, qsum_nil] at r5
  have hl1 := hr1.le.1
  have hl2 := hr2.le.1
  have hm1 := hr1.le.2
  have hm2 := hr2.le.2
  simp only [List.length_cons, List.length_nil] at hl1 hl2
  unfold maxLen at hm1 hm2
  obtain ⟨g1, rfl, rfl, e1⟩ := hr1.cellAt (j := 0) (u := .int .i64 x) rfl
  obtain ⟨g2, rfl, rfl, e2⟩ := hr2.cellAt (j := 0) (u := .int .i64 s) rfl
  have d2 : w.cell? ⟨R, 2, none⟩ = some (.slice (some ⟨g1, 0, none⟩) 1 c1) := hb.cell 2
  have d3 : w.cell? ⟨R, 3, none⟩ = some (.slice (some ⟨g2, 0, none⟩) 1 c2) := hb.cell 3
  have f2 := hb.frozen 2
  have f3 := hb.frozen 3
  have HB := Lib.hid hb; clear hb hr1 hr2 hFG r4
  rcases Nat.lt_or_ge 1 c1 with hc1 | hc1 <;> rcases Nat.lt_or_ge 1 c2 with hc2 | hc2
  all_goals
    first | (have k1 : ¬ c1 = 1 := by omega) | (obtain rfl : c1 = 1 := by omega)
    first | (have k2 : ¬ c2 = 1 := by omega) | (obtain rfl : c2 = 1 := by omega)
    go_enter Try.func23, Try.ntmps23
    go_wp2_with fail
    go_ret2
    refine ⟨rfl, [], ⟨⟨[], [], none, 0, none, 0, rfl, by simp, ?_, Row.nil _ _ _ _, Row.nil _ _ _ _⟩, r1, r2, by simpa using r1, by simp, by rw [qsum_nil]; have : 0 ≤ s := hs; omega, r6⟩, ?_, by simp⟩
    · exact (HB.out.set_ 2 (.slice none 0 0)).set_ 3 (.slice none 0 0)
    · exact ((Only.refl _ w).setCell (p := ⟨R, 2, none⟩) (.inl (by simp)) _).setCell (p := ⟨R, 3, none⟩) (.inl (by simp)) _

set_option maxRecDepth 100000 in
set_option maxHeartbeats 1600000 in
theorem popRef_more (R : Nat) (H : List Nat) (count most x s : Int) (l : List (Int × Int)) (w : World) (h : RI w R H count most ((x, s) :: l)) (hne : 0 < l.length) :
    Calls Try.prog 23 #[.pointer (some ⟨R, 0, none⟩)] w (RPost w R H count most l (.tuple #[.int .i64 x, .bool true])) := by
  obtain ⟨i0, hi, hz0, hz1, hz2⟩ := info_parts Try.infoInt
  have HI := Lib.hid hi; clear hi
  have HZ0 := Lib.hid hz0; clear hz0
  have HZ1 := Lib.hid hz1; clear hz1
  have HZ2 := Lib.hid hz2; clear hz2
  have hlt0 := h.lt
  obtain ⟨⟨F, G, A1, c1, A2, c2, rfl, hFG, hb, hr1, hr2⟩, r1, r2, r3, r4, r5, r6⟩ := h
  have hs := r4 (x, s) (by simp)
  have hp : ∀ q ∈ l, 0 ≤ q.2 := fun q hq => r4 q (List.mem_cons_of_mem _ hq)
  rw [qsum_cons] at r5
  simp only [List.length_cons] at hb hr1 hr2 r3
  have hl1 := hr1.le.1
  have hl2 := hr2.le.1
  have hm1 := hr1.le.2
  have hm2 := hr2.le.2
  unfold maxLen at hm1 hm2
  obtain ⟨g1, rfl, rfl, e1⟩ := hr1.cellAt (j := 0) (u := .int .i64 x) rfl
  obtain ⟨g2, rfl, rfl, e2⟩ := hr2.cellAt (j := 0) (u := .int .i64 s) rfl
  have d2 : w.cell? ⟨R, 2, none⟩ = some (.slice (some ⟨g1, 0, none⟩) (l.length + 1) c1) := hb.cell 2
  have f2 := hb.frozen 2
  have hRg : R ∉ [g1] := hr1.ne_blk hb (by decide)
  have HL1 := Lib.hid (show (rxs l).length = l.length * 1 by rw [rxs_len]; omega)
  have HL2 := Lib.hid (show (rss l).length = l.length * 1 by rw [rss_len]; omega)
  have HC1 : Hid (∀ u ∈ rxs l, u.oneCell' = true) := by intro u hu; simp only [rxs, List.mem_map] at hu; obtain ⟨p, _, rfl⟩ := hu; rfl
  have HC2 : Hid (∀ u ∈ rss l, u.oneCell' = true) := by intro u hu; simp only [rss, List.mem_map] at hu; obtain ⟨p, _, rfl⟩ := hu; rfl
  have HN1 := Lib.hid (Row.tailCells hr1)
  have hRg2 : R ∉ [g2] := hr2.ne_blk hb (by decide)
  have HRg := Lib.hid hRg; clear hRg
  have HRg2 := Lib.hid hRg2; clear hRg2
  have HB := Lib.hid hb; clear hb
  have HR1 := Lib.hid hr1; clear hr1
  have HR2 := Lib.hid hr2; clear hr2
  have HP := Lib.hid hp; clear hp
  have HLT := Lib.hid hlt0; clear hlt0
  have HFG := Lib.hid hFG; clear hFG r4
  generalize hq : qsum l = sm at *
  have HQ := Lib.hid hq; clear hq
  generalize hn : l.length = n at *
  have HN := Lib.hid hn; clear hn
  have k1 : ¬ c1 = 1 := by omega
  have k2 : ¬ c2 = 1 := by omega
  have k3 : (1 : Int) ≤ (n : Int) + 1 := by omega
  have tok0 : True := trivial
  go_enter Try.func23, Try.ntmps23
  go_wp2_with (first
    | (at_builtin; have _t := tok0; refine wpList_append_row _ rfl (.const (.slice none 0 0)) (.tmp 22) 41 rfl 3 i0 _ 1 8 Try.underlying41 HI.out HZ0.out HZ1.out HZ2.out rfl (by decide) [] none 0 0 [] rfl (Row.nil _ _ _ _) ⟨g1, 1, none⟩ n (c1 - 1) (rxs l) rfl HL1.out HN1.out HC1.out hne (by unfold maxLen; omega) (by omega) ?_; intro q1 cap1 w1 hR1 hO1 hg1; have HB1 := Lib.hid (HB.out.only hO1 (by simp)); have HR3 := Lib.hid (HR2.out.only hO1 (by simp)); have f2 := HB1.out.frozen 2; have e22 := HB1.out.cell 2; have e23 := HB1.out.cell 3; have HM1 := Lib.hid hR1; have HO1 := Lib.hid hO1; have HG1 := Lib.hid hg1; clear hR1 hO1 hg1; simp only [List.getElem?_toArray, List.getElem?_cons_succ, List.getElem?_cons_zero] at e22 e23; clear tok0; have tok1 : True := trivial)
    | (at_builtin; have _t := tok1; refine wpList_append_row _ rfl (.const (.slice none 0 0)) (.tmp 31) 41 rfl 3 i0 _ 1 8 Try.underlying41 HI.out HZ0.out HZ1.out HZ2.out rfl (by decide) [] none 0 0 [] rfl (Row.nil _ _ _ _) ⟨g2, 1, none⟩ n (c2 - 1) (rss l) rfl HL2.out (Row.tailCells (HR3.out.setFar (p := ⟨R, 2, none⟩) HRg2.out _)) HC2.out hne (by unfold maxLen; omega) (by omega) ?_; intro q2 cap2 w2 hR2 hO2 hg2; have HB2 := Lib.hid ((HB1.out.set_ 2 (.slice (some ⟨q1, 0, none⟩) n cap1)).only hO2 (by simp)); have f3 := HB2.out.frozen 3; have e33 := HB2.out.cell 3; have HM2 := Lib.hid hR2; have HO2 := Lib.hid hO2; have HG2 := Lib.hid hg2; clear hR2 hO2 hg2; simp only [List.getElem?_toArray, List.getElem?_cons_succ, List.getElem?_cons_zero, List.set_cons_succ, List.set_cons_zero, List.setIfInBounds_toArray] at e33; clear tok1))
  go_ret2
  have hq1 : w.heap.size ≤ q1 := by rcases HG1.out with h | h; cases h; exact h
  have hq2 : w1.heap.size ≤ q2 := by rcases HG2.out with h | h; cases h; simpa [size_setCell] using h
  have hR1 : R ∉ [q1] := HM1.out.ne_blk HB1.out (by decide)
  have hR2 : R ∉ [q2] := HM2.out.ne_blk HB2.out (by decide)
  have hl1 : q1 < w1.heap.size := HM1.out.lt q1 (by simp)
  have HM1' := (HM1.out.setFar (p := ⟨R, 2, none⟩) hR1 (.slice (some ⟨q1, 0, none⟩) n cap1)).only HO2.out (by simp)
  have hO := (((Only.refl (R :: [g1, g2]) w).trans HO1.out (by simp)).setCell (p := ⟨R, 2, none⟩) (.inl (by simp)) (.slice (some ⟨q1, 0, none⟩) n cap1)).trans HO2.out (by simp)
  have HB3 := HB2.out.set_ 3 (.slice (some ⟨q2, 0, none⟩) n cap2)
  have HM2' := HM2.out
  rw [Nat.zero_add] at HM1' HM2'
  refine ⟨rfl, [q1] ++ [q2], ⟨⟨[q1], [q2], some ⟨q1, 0, none⟩, cap1, some ⟨q2, 0, none⟩, cap2, rfl, ?_, ?_, ?_, ?_⟩, r1, r2, ?_, HP.out, ?_, r6⟩, ?_, ?_⟩
  · intro k hk hk2
    have e1 : k = q1 := by simpa using hk
    have e2 : k = q2 := by simpa using hk2
    omega
  · rw [HN.out]
    exact HB3
  · rw [HN.out]
    exact HM1'.setFar (p := ⟨R, 3, none⟩) hR1 _
  · rw [HN.out]
    exact HM2'.setFar (p := ⟨R, 3, none⟩) hR2 _
  · rw [HN.out]; omega
  · rw [HQ.out]; have : 0 ≤ s := hs; omega
  · exact hO.setCell (.inl (by simp)) _
  · intro k hk
    right
    have hsz := HO1.out.size
    rcases List.mem_append.1 hk with hk | hk
    · have : k = q1 := by simpa using hk
      omega
    · have : k = q2 := by simpa using hk
      omega

theorem popRef_any (R : Nat) (H : List Nat) (count most : Int) (l : List (Int × Int)) (a : Int) (w : World) (ha : qhead l 0 = a) (h : RI w R H count most l) :
    Calls Try.prog 23 #[.pointer (some ⟨R, 0, none⟩)] w (RPost w R H count most l.tail (.tuple #[.int .i64 a, .bool (qhas l)])) := by
  match l, ha with
  | [], ha => subst ha; exact popRef_none R H count most w h
  | [(b, s)], ha => subst ha; exact popRef_one R H count most b s w h
  | (b, s) :: p :: l', ha => subst ha; exact popRef_more R H count most b s (p :: l') w h (by simp)
end Go.Proofs.Ytjlnkfbhbiinoaa
