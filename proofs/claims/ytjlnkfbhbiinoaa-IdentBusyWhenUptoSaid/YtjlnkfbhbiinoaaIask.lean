/-
  ask: a Next at a tick, kept if it is given.
-/
import Derived.Test.YtjlnkfbhbiinoaaImade
namespace Go.Proofs.Ytjlnkfbhbiinoaa
open Go.RowKit
set_option linter.unusedVariables false
set_option linter.unusedSimpArgs false
attribute [local go_sem ↓] Go.wp_at_zero Go.wp_at_succ

theorem Try.infoGot : (Try.prog.info? 101).map (fun i => (i.zero, i.size, i.bytes)) = some (some (.agg #[.int .u32 0, .int .i64 0]), 2, 16) := by kernel_rfl

def gotFrom (space : Int) : Nat → List Int → List Value
  | _, [] => []
  | i, t :: r => .int .u32 ((i : Int) % space) :: .int .i64 t :: gotFrom space (i + 1) r
/-- What is kept of the ticks G. -/
def gotV (space : Int) (G : List Int) : List Value := gotFrom space 0 G
theorem gotFrom_snoc (space : Int) (i : Nat) (G : List Int) (x : Int) : gotFrom space i (G ++ [x]) = gotFrom space i G ++ [.int .u32 (((i + G.length : Nat) : Int) % space), .int .i64 x] := by
  induction G generalizing i with
  | nil => simp [gotFrom]
  | cons t r ih => simp only [List.cons_append, gotFrom, ih, List.length_cons]; rw [show i + 1 + r.length = i + (r.length + 1) by omega]
theorem gotV_snoc (space : Int) (G : List Int) (x : Int) : gotV space (G ++ [x]) = gotV space G ++ [.int .u32 ((G.length : Int) % space), .int .i64 x] := by
  unfold gotV
  rw [gotFrom_snoc, Nat.zero_add]
theorem gotFrom_at (space : Int) (i : Nat) (G : List Int) (k : Nat) (h : k < G.length) : (gotFrom space i G)[k * 2]? = some (.int .u32 (((i + k : Nat) : Int) % space)) ∧ (gotFrom space i G)[k * 2 + 1]? = some (.int .i64 G[k]) := by
  induction G generalizing i k with
  | nil => simp at h
  | cons t r ih =>
    cases k with
    | zero => exact ⟨rfl, rfl⟩
    | succ k =>
      obtain ⟨a, b⟩ := ih (i + 1) k (by simpa using h)
      rw [show (k + 1) * 2 = k * 2 + 1 + 1 by omega, show i + (k + 1) = i + 1 + k by omega]
      exact ⟨a, b⟩
theorem gotV_at (space : Int) (G : List Int) (k : Nat) (h : k < G.length) : (gotV space G)[k * 2]? = some (.int .u32 ((k : Int) % space)) ∧ (gotV space G)[k * 2 + 1]? = some (.int .i64 G[k]) := by
  have := gotFrom_at space 0 G k h
  rwa [Nat.zero_add] at this
theorem gotFrom_one (space : Int) (i : Nat) (G : List Int) : ∀ u ∈ gotFrom space i G, u.oneCell' = true := by
  induction G generalizing i with
  | nil => simp [gotFrom]
  | cons t r ih =>
    intro u hu
    simp only [gotFrom, List.mem_cons] at hu
    rcases hu with rfl | rfl | hu
    · rfl
    · rfl
    · exact ih _ u hu

theorem lastOf_get' {G : List Int} (h : 0 < G.length) : lastOf G = G[G.length - 1]'(by omega) := by
  unfold lastOf
  rw [List.getLast?_eq_getElem?, List.getElem?_eq_getElem (by omega)]
  rfl

/-- A source, and the list of what it gave, in memory of the call's own. -/
structure AskAt (w0 w : World) (S : Nat) (F FL : List Nat) (space life : Int) (G : List Int) (A : Option Addr) (n c : Nat) : Prop where
  s : SI w S (S + 1) F space life G
  r : Row w 101 2 FL A n c (gotV space G)
  n : n = G.length
  sep : Sep w0 w [S :: (S + 1) :: F, FL]
section
variable {w0 w w2 : World} {S : Nat} {F FL : List Nat} {space life now : Int} {G : List Int} {A : Option Addr} {n c : Nat}
theorem AskAt.only (h : AskAt w0 w S F FL space life G A n c) (ho : Only [] w w2) : AskAt w0 w2 S F FL space life G A n c :=
  ⟨h.s.only ho (by simp), h.r.only ho (by simp), h.n, h.sep.only ho⟩
def AskPost (w0 : World) (S : Nat) (space life : Int) (G : List Int) (ee : Int) : Ending → World → Prop := fun e w' =>
  ∃ F' FL' A' n' c', e = .returned (.tuple #[.slice A' n' c', .int .i64 ee, .bool true]) ∧ AskAt w0 w' S F' FL' space life G A' n' c'
/-- A call on the source alone. -/
theorem AskAt.sep0 (h : AskAt w0 w S F FL space life G A n c) {F' : List Nat} {G' : List Int} (hs : SI w2 S (S + 1) F' space life G') (ho : Only (S :: (S + 1) :: F) w w2) (hf : ∀ k ∈ F', k ∈ F ∨ w.heap.size ≤ k) :
    Row w2 101 2 FL A n c (gotV space G) ∧ Sep w0 w2 [S :: (S + 1) :: F', FL] := by
  refine ⟨h.r.only ho (fun k hk => h.sep.d 1 0 (by decide) k hk), h.sep.step 0 (F' := S :: (S + 1) :: F') ho ?_ hs.lt⟩
  intro k hk
  simp only [List.mem_cons] at hk
  rcases hk with rfl | rfl | hk
  · exact .inl (by simp [List.getD])
  · exact .inl (by simp [List.getD])
  · rcases hf k hk with h | h
    · exact .inl (by simp [List.getD, h])
    · exact .inr h
theorem AskAt.src (h : AskAt w0 w S F FL space life G A n c) {F' : List Nat} (hs : SI w2 S (S + 1) F' space life G) (ho : Only (S :: (S + 1) :: F) w w2) (hf : ∀ k ∈ F', k ∈ F ∨ w.heap.size ≤ k) : AskAt w0 w2 S F' FL space life G A n c :=
  ⟨hs, (h.sep0 hs ho hf).1, h.n, (h.sep0 hs ho hf).2⟩

theorem ask_end {W2 w5 : World} {F2 : List Nat} {g1 cap : Nat} {t : TypeId} {cs : Array Value} (h : AskAt w0 w S F FL space life G A n c) (q2 : SI W2 S (S + 1) F2 space life (G ++ [now])) (o2 : Only (S :: (S + 1) :: F) w W2) (f2 : ∀ k ∈ F2, k ∈ F ∨ w.heap.size ≤ k)
    (hr2 : Row W2 101 2 FL A n c (gotV space G)) (hR5 : Row w5 101 2 [g1] (some ⟨g1, 0, none⟩) (n + 1) cap (gotV space G ++ [.int .u32 ((G.length : Int) % space), .int .i64 now]))
    (hO5 : Only FL (W2.alloc (.cells cs t)) w5) (hg5 : g1 ∈ FL ∨ (W2.alloc (.cells cs t)).heap.size ≤ g1) :
    AskPost w0 S space life (G ++ [now]) 0 (.returned (.tuple #[.slice (some ⟨g1, 0, none⟩) (n + 1) cap, .int .i64 0, .bool true])) w5 := by
  have s2 := (h.sep0 q2 o2 f2).2.only ((Only.refl [] W2).alloc (.cells cs t))
  have q3 := q2.only ((Only.refl [] W2).alloc (.cells cs t)) (by simp)
  refine ⟨F2, [g1], _, _, _, rfl, q3.only hO5 (fun k hk => s2.d 0 1 (by decide) k hk), ?_, ?_, ?_⟩
  · rw [gotV_snoc]
    exact hR5
  · rw [List.length_append, h.n]
    rfl
  · exact s2.step 1 (F' := [g1]) hO5 (fun k hk => by
      have : k = g1 := by simpa using hk
      subst this
      rcases hg5 with h | h
      · exact .inl h
      · exact .inr h) (fun k hk => hR5.lt k hk)

set_option maxRecDepth 100000 in
set_option maxHeartbeats 3200000 in
/-- Refused. -/
theorem ask_no (h : AskAt w0 w S F FL space life G A n c) (hn : n ≤ 1048576) (hno : idGot space life G now = G) (hee : idErr space life G now = 1 ∨ idErr space life G now = 120) :
    Calls Try.prog 54 #[.pointer (some ⟨S, 0, none⟩), .slice A n c, .int .i64 now] w (AskPost w0 S space life G (idErr space life G now)) := by
  have hX : Hid (∀ W, W = w → Calls Try.prog 48 #[.pointer (some ⟨S, 0, none⟩), .int .i64 now] W (SPost w S (S + 1) F space life G (.tuple #[.int .u32 0, .int .i64 (idErr space life G now)]))) := by
    rintro W rfl
    have := next_any (now := now) h.s
    rw [hno] at this
    have hz : idNum space life G now = 0 := by
      unfold idErr at hee
      unfold idNum
      cases hm : idMay G now <;> cases hf : idFull space life G now <;> simp [hm, hf] at hee ⊢
    rw [hz] at this
    exact this
  have hlast : (n = 0 → lastOf G = 0) ∧ (0 < n → ∃ g, A = some ⟨g, 0, none⟩ ∧ w.cell? ⟨g, (n - 1) * 2 + 1, none⟩ = some (.int .i64 (lastOf G)) ∧ g ∈ FL) := by
    have hl := h.n
    constructor
    · intro h0
      rw [h0] at hl
      have := List.eq_nil_of_length_eq_zero hl.symm
      subst this
      rfl
    · intro h0
      have hp : 0 < G.length := by omega
      have := (gotV_at space G (G.length - 1) (by omega)).2
      rw [← lastOf_get' hp] at this
      obtain ⟨g, h1, h2, h3⟩ := h.r.cellAt this
      exact ⟨g, h1, by rw [hl]; exact h3, by simp [h2]⟩
  have hmay : (idErr space life G now = 1 ∧ (now < lastOf G ∨ (¬ now < lastOf G ∧ 1099511627776 < now))) ∨ (idErr space life G now = 120 ∧ lastOf G ≤ now ∧ now ≤ 1099511627776) := by
    unfold idErr at hee ⊢
    unfold idMay at hee ⊢
    by_cases h1 : lastOf G ≤ now
    · by_cases h2 : now ≤ 1099511627776
      · right
        cases hf : idFull space life G now <;> simp [h1, h2, hf] at hee ⊢
      · left
        simp [h1, h2] at hee ⊢
        omega
    · left
      simp [h1] at hee ⊢
      omega
  have HA := Lib.hid h
  clear h hno hee
  generalize idErr space life G now = ee at *
  generalize lastOf G = la at *
  obtain ⟨hl0, hl1⟩ := hlast
  have HL0 := Lib.hid hl0; clear hl0
  have HL1 := Lib.hid hl1; clear hl1
  rcases Nat.eq_zero_or_pos n with hn0 | hn0
  · obtain rfl := HL0.out hn0
    subst hn0
    clear HL0 HL1
    rcases hmay with ⟨rfl, h1 | ⟨h1, h2⟩⟩ | ⟨rfl, h1, h2⟩
    all_goals
      go_enter Try.func54, Try.ntmps54
      go_wp2_with fail
      refine (hX.out _ rfl).mono ?_
      rintro e W2 ⟨rfl, F2, q2, o2, f2⟩
      have HA2 := Lib.hid (HA.out.src q2 o2 f2)
      clear q2 o2 f2
      go_wp2_with fail
      go_ret3
      exact ⟨F2, FL, A, 0, c, rfl, HA2.out⟩
  · obtain ⟨g, rfl, hc, hg⟩ := HL1.out hn0
    have HG := Lib.hid hg; clear hg
    clear HL0 HL1
    have HC := Lib.hid hc; clear hc
    have hgs : g ∉ S :: (S + 1) :: F := fun hm => HA.out.sep.d 1 0 (by decide) g (by simpa [List.getD] using HG.out) (by simpa [List.getD] using hm)
    have HGS := Lib.hid hgs; clear hgs
    rcases hmay with ⟨rfl, h1 | ⟨h1, h2⟩⟩ | ⟨rfl, h1, h2⟩
    all_goals
      go_enter Try.func54, Try.ntmps54
      go_wp2_with fail
      refine (hX.out _ rfl).mono ?_
      rintro e W2 ⟨rfl, F2, q2, o2, f2⟩
      have HA2 := Lib.hid (HA.out.src q2 o2 f2)
      have hc2 := o2.cell HC.out HGS.out
      have hcl := HA.out.r.le
      clear q2 o2 f2
      go_wp2_with fail
      go_ret3
      exact ⟨F2, FL, _, n, c, rfl, HA2.out⟩
set_option maxRecDepth 100000 in
set_option maxHeartbeats 3200000 in
/-- A number is given. -/
theorem ask_ok (h : AskAt w0 w S F FL space life G A n c) (hn : n ≤ 1048576) (hno : idGot space life G now = G ++ [now]) (hee : idErr space life G now = 0) :
    Calls Try.prog 54 #[.pointer (some ⟨S, 0, none⟩), .slice A n c, .int .i64 now] w (AskPost w0 S space life (G ++ [now]) 0) := by
  obtain ⟨i0, hi, hz0, hz1, hz2⟩ := info_parts Try.infoGot
  have HI := Lib.hid hi; clear hi
  have HZ0 := Lib.hid hz0; clear hz0
  have HZ1 := Lib.hid hz1; clear hz1
  have HZ2 := Lib.hid hz2; clear hz2
  have hm : idMay G now = true := by
    unfold idErr at hee
    cases hm : idMay G now
    · simp [hm] at hee
    · rfl
  have hf : idFull space life G now = false := by
    unfold idErr at hee
    cases hf : idFull space life G now
    · rfl
    · simp [hm, hf] at hee
  have hX : Hid (∀ W, W = w → Calls Try.prog 48 #[.pointer (some ⟨S, 0, none⟩), .int .i64 now] W (SPost w S (S + 1) F space life (G ++ [now]) (.tuple #[.int .u32 ((G.length : Int) % space), .int .i64 0]))) := by
    rintro W rfl
    exact next_ok h.s hm hf
  have hlast : (n = 0 → lastOf G = 0) ∧ (0 < n → ∃ g, A = some ⟨g, 0, none⟩ ∧ w.cell? ⟨g, (n - 1) * 2 + 1, none⟩ = some (.int .i64 (lastOf G)) ∧ g ∈ FL) := by
    have hl := h.n
    constructor
    · intro h0
      rw [h0] at hl
      have := List.eq_nil_of_length_eq_zero hl.symm
      subst this
      rfl
    · intro h0
      have hp : 0 < G.length := by omega
      have := (gotV_at space G (G.length - 1) (by omega)).2
      rw [← lastOf_get' hp] at this
      obtain ⟨g, h1, h2, h3⟩ := h.r.cellAt this
      exact ⟨g, h1, by rw [hl]; exact h3, by simp [h2]⟩
  have hmay : lastOf G ≤ now ∧ now ≤ 1099511627776 := by unfold idMay at hm; simp at hm; omega
  have HA := Lib.hid h
  have HN := Lib.hid h.n
  clear h hno hee hm hf
  generalize lastOf G = la at *
  obtain ⟨h1, h2⟩ := hmay
  obtain ⟨hl0, hl1⟩ := hlast
  have HL0 := Lib.hid hl0; clear hl0
  have HL1 := Lib.hid hl1; clear hl1
  rcases Nat.eq_zero_or_pos n with hn0 | hn0
  · obtain rfl := HL0.out hn0
    subst hn0
    clear HL0 HL1
    go_enter Try.func54, Try.ntmps54
    go_wp2_with fail
    refine (hX.out _ rfl).mono ?_
    rintro e W2 ⟨rfl, F2, q2, o2, f2⟩
    have HR2 := Lib.hid (HA.out.r.only o2 (fun k hk => HA.out.sep.d 1 0 (by decide) k hk))
    have HQ := Lib.hid q2
    have HO2 := Lib.hid o2
    have HF2 := Lib.hid f2
    clear q2 o2 f2
    go_wp2_with (at_builtin; refine wpList_append_row _ rfl (.tmp 64) (.tmp 68) 96 rfl 101 i0 _ 2 16 Try.underlying96 HI.out HZ0.out HZ1.out HZ2.out rfl (by decide) FL A 0 c (gotV space G) rfl (HR2.out.alloc _) ⟨W2.heap.size, 0, none⟩ 1 1 [.int .u32 ((G.length : Int) % space), .int .i64 now] rfl rfl (news_of_new _ _ _) (by simp [Value.oneCell']) (by decide) (by unfold maxLen; omega) (by omega) ?_; intro g1 cap w5 hR5 hO5 hg5; have HR5 := Lib.hid hR5; have HO5 := Lib.hid hO5; have HG5 := Lib.hid hg5; clear hR5 hO5 hg5)
    go_ret3
    exact ask_end HA.out HQ.out HO2.out HF2.out HR2.out HR5.out HO5.out HG5.out
  · obtain ⟨g, rfl, hc, hg⟩ := HL1.out hn0
    have HG := Lib.hid hg; clear hg
    clear HL0 HL1
    have HC := Lib.hid hc; clear hc
    have hgs : g ∉ S :: (S + 1) :: F := fun hm => HA.out.sep.d 1 0 (by decide) g (by simpa [List.getD] using HG.out) (by simpa [List.getD] using hm)
    have HGS := Lib.hid hgs; clear hgs
    go_enter Try.func54, Try.ntmps54
    go_wp2_with fail
    refine (hX.out _ rfl).mono ?_
    rintro e W2 ⟨rfl, F2, q2, o2, f2⟩
    have HR2 := Lib.hid (HA.out.r.only o2 (fun k hk => HA.out.sep.d 1 0 (by decide) k hk))
    have HQ := Lib.hid q2
    have HO2 := Lib.hid o2
    have HF2 := Lib.hid f2
    have hc2 := o2.cell HC.out HGS.out
    clear q2 o2 f2
    go_wp2_with (at_builtin; refine wpList_append_row _ rfl (.tmp 64) (.tmp 68) 96 rfl 101 i0 _ 2 16 Try.underlying96 HI.out HZ0.out HZ1.out HZ2.out rfl (by decide) FL (some ⟨g, 0, none⟩) n c (gotV space G) rfl (HR2.out.alloc _) ⟨W2.heap.size, 0, none⟩ 1 1 [.int .u32 ((G.length : Int) % space), .int .i64 now] rfl rfl (news_of_new _ _ _) (by simp [Value.oneCell']) (by decide) (by unfold maxLen; omega) (by omega) ?_; intro g1 cap w5 hR5 hO5 hg5; have HR5 := Lib.hid hR5; have HO5 := Lib.hid hO5; have HG5 := Lib.hid hg5; clear hR5 hO5 hg5)
    go_ret3
    exact ask_end HA.out HQ.out HO2.out HF2.out HR2.out HR5.out HO5.out HG5.out
/-- ask, whatever is asked. -/
theorem ask_any (h : AskAt w0 w S F FL space life G A n c) (hn : n ≤ 1048576) :
    Calls Try.prog 54 #[.pointer (some ⟨S, 0, none⟩), .slice A n c, .int .i64 now] w (AskPost w0 S space life (idGot space life G now) (idErr space life G now)) := by
  have hc : (idErr space life G now = 0 ∧ idGot space life G now = G ++ [now]) ∨ ((idErr space life G now = 1 ∨ idErr space life G now = 120) ∧ idGot space life G now = G) := by
    unfold idErr idGot
    cases idMay G now <;> cases idFull space life G now <;> simp
  rcases hc with ⟨h1, h2⟩ | ⟨h1, h2⟩
  · have := ask_ok h hn h2 h1
    rw [h1, h2]
    exact this
  · have := ask_no h hn h2 h1
    rw [h2]
    exact this
end
end Go.Proofs.Ytjlnkfbhbiinoaa
