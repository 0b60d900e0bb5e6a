/-
  The queue of [2]int: what each call does, of a queue that holds a list of things.
-/
import Derived.Test.YtjlnkfbhbiinoaaQpA
namespace Go.Proofs.Ytjlnkfbhbiinoaa
open Go.RowKit
set_option linter.unusedVariables false
set_option linter.unusedSimpArgs false

def encArr (a : (Int × Int)) : List Value := [.int .i64 a.1, .int .i64 a.2]
abbrev QArr (w : World) (Q : Nat) (F : List Nat) (g : FuncId) (count bytes : Int) (l : List ((Int × Int) × Int)) : Prop := QI encArr 115 122 3 w Q F g count bytes l
abbrev PArr (w : World) (Q : Nat) (F : List Nat) (g : FuncId) (count bytes : Int) (l : List ((Int × Int) × Int)) (v : Value) : Ending → World → Prop := QPost encArr 115 122 3 w Q F g count bytes l v

theorem pushArr_any (Q : Nat) (F : List Nat) (g : FuncId) (count bytes s : Int) (l : List ((Int × Int) × Int)) (a : (Int × Int)) (w : World)
    (eg : ∀ args w, (callFunc g args).run Try.prog w = .ok (.enter g args) w)
    (hsz : ∀ w, Calls Try.prog g #[.agg #[.int .i64 a.1, .int .i64 a.2]] w fun e w' => e = .returned (.int .i64 s) ∧ Only [] w w')
    (h : QArr w Q F g count bytes l) :
    Calls Try.prog 32 #[.pointer (some ⟨Q, 0, none⟩), .agg #[.int .i64 a.1, .int .i64 a.2]] w (PArr w Q F g count bytes (qpush count bytes l a s) (.bool (qroom count bytes l s))) := by
  obtain ⟨⟨A, c, hb, hr⟩, h1, h2, h3, h4, h5, h6⟩ := h
  have h7 := qsum_nonneg l h4
  by_cases hf : (l.length : Int) = count
  · have hq := qroom_full (bytes := bytes) (l := l) (s := s) hf
    refine (pushArr_full0 Q F g count bytes (qsum l) s 0 a.1 a.2 l.length c A (qcells encArr l) w eg hsz hb hf).mono ?_
    rintro e w' ⟨rfl, ho⟩
    unfold qpush
    rw [hq]
    exact ⟨rfl, F, QI.only (G := []) ⟨⟨A, c, hb, hr⟩, h1, h2, h3, h4, h5, h6⟩ ho (by simp), ho.mono (by simp), fun k hk => .inl hk⟩
  · by_cases hs : 0 ≤ s
    · by_cases hbig : bytes - qsum l < s
      · have hq := qroom_big (count := count) (bytes := bytes) (l := l) (s := s) (by omega)
        refine (pushArr_big0 Q F g count bytes (qsum l) s 0 a.1 a.2 l.length c A (qcells encArr l) w eg hsz hb hs (by omega) hbig).mono ?_
        rintro e w' ⟨rfl, ho⟩
        unfold qpush
        rw [hq]
        exact ⟨rfl, F, QI.only (G := []) ⟨⟨A, c, hb, hr⟩, h1, h2, h3, h4, h5, h6⟩ ho (by simp), ho.mono (by simp), fun k hk => .inl hk⟩
      · have hq := qroom_yes (count := count) (bytes := bytes) (l := l) (s := s) (by omega) (by omega)
        refine (pushArr_yes0 Q F g count bytes (qsum l) s 0 a.1 a.2 l.length c A (qcells encArr l) w eg hsz hb hr hs (by omega) h2 (by omega) h7 h5 h6).mono ?_
        rintro e w' ⟨rfl, F', hrep, ho, hk⟩
        unfold qpush
        rw [hq, if_pos rfl, show max s 0 = s by omega]
        refine ⟨rfl, F', ⟨?_, h1, h2, ?_, ?_, ?_, h6⟩, ho, hk⟩
        · rw [qsum_snoc, qcells_snoc, List.length_append]
          exact hrep
        · rw [List.length_append]; simp only [List.length_cons, List.length_nil]; omega
        · intro p hp
          rcases List.mem_append.1 hp with hp | hp
          · exact h4 p hp
          · have : p = (a, s) := by simpa using hp
            subst this
            exact hs
        · rw [qsum_snoc]; omega
    · by_cases hbig : bytes - qsum l < 0
      · omega
      · have hq := qroom_yes (count := count) (bytes := bytes) (l := l) (s := s) (by omega) (by omega)
        refine (pushArr_neg0 Q F g count bytes (qsum l) s 0 a.1 a.2 l.length c A (qcells encArr l) w eg hsz hb hr (by omega) (by omega) h2 h7 h5 h6).mono ?_
        rintro e w' ⟨rfl, F', hrep, ho, hk⟩
        unfold qpush
        rw [hq, if_pos rfl, show max s 0 = 0 by omega]
        refine ⟨rfl, F', ⟨?_, h1, h2, ?_, ?_, ?_, h6⟩, ho, hk⟩
        · rw [qsum_snoc, qcells_snoc, List.length_append]
          exact hrep
        · rw [List.length_append]; simp only [List.length_cons, List.length_nil]; omega
        · intro p hp
          rcases List.mem_append.1 hp with hp | hp
          · exact h4 p hp
          · have : p = (a, 0) := by simpa using hp
            subst this
            exact Int.le_refl _
        · rw [qsum_snoc]; omega

theorem popArr_any (Q : Nat) (F : List Nat) (g : FuncId) (count bytes : Int) (l : List ((Int × Int) × Int)) (a : (Int × Int)) (w : World) (ha : qhead l ((0, 0) : Int × Int) = a)
    (h : QArr w Q F g count bytes l) :
    Calls Try.prog 35 #[.pointer (some ⟨Q, 0, none⟩)] w (PArr w Q F g count bytes l.tail (.tuple #[.agg #[.int .i64 a.1, .int .i64 a.2], .bool (qhas l)])) := by
  obtain ⟨⟨A, c, hb, hr⟩, h1, h2, h3, h4, h5, h6⟩ := h
  match l, ha with
  | [], ha =>
    subst ha
    refine (popArr_none Q g count bytes _ c A w hb).mono ?_
    rintro e w' ⟨rfl, ho⟩
    exact ⟨rfl, F, QI.only (G := []) ⟨⟨A, c, hb, hr⟩, h1, h2, h3, h4, h5, h6⟩ ho (by simp), ho.mono (by simp), fun k hk => .inl hk⟩
  | [(b, s)], ha =>
    subst ha
    have hs := h4 (b, s) (by simp)
    rw [qsum_cons, qsum_nil] at h5 hb
    refine (popArr_one Q F g count bytes (s + 0) s b.1 b.2 c A [] w hb hr hs (by omega) (by omega) h6).mono ?_
    rintro e w' ⟨rfl, F', hrep, ho, hk⟩
    rw [show s + 0 - s = 0 by omega] at hrep
    exact ⟨rfl, F', ⟨hrep, h1, h2, by simpa using h1, by simp, by rw [List.tail_cons, qsum_nil]; simp only at hs; omega, h6⟩, ho, hk⟩
  | (b, s) :: p :: l', ha =>
    subst ha
    have hs := h4 (b, s) (by simp)
    have hp : ∀ q ∈ p :: l', 0 ≤ q.2 := fun q hq => h4 q (List.mem_cons_of_mem _ hq)
    have h8 := qsum_nonneg _ hp
    rw [qsum_cons] at h5 hb
    rw [qcells_cons] at hr
    simp only [List.length_cons] at h3
    refine (popArr_more Q F g count bytes (s + qsum (p :: l')) s b.1 b.2 l'.length c A (qcells encArr (p :: l')) w hb hr (by omega) (qcells_one encArr (by simp [encArr, Value.oneCell']) _) hs (by omega) (by omega) h6).mono ?_
    rintro e w' ⟨rfl, F', hrep, ho, hk⟩
    rw [show s + qsum (p :: l') - s = qsum (p :: l') by omega] at hrep
    refine ⟨rfl, F', ⟨hrep, h1, h2, ?_, hp, ?_, h6⟩, ho, hk⟩
    · simp only [List.tail_cons, List.length_cons]; omega
    · simp only [List.tail_cons]; simp only at hs; omega

set_option maxRecDepth 100000 in
set_option maxHeartbeats 800000 in
theorem lenArr_any (Q : Nat) (F : List Nat) (g : FuncId) (count bytes : Int) (l : List ((Int × Int) × Int)) (w : World) (h : QArr w Q F g count bytes l) :
    Calls Try.prog 38 #[.pointer (some ⟨Q, 0, none⟩)] w fun e w' => e = .returned (.int .i64 l.length) ∧ w = w' := by
  obtain ⟨⟨A, c, hb, hr⟩, _⟩ := h
  have c4 : w.cell? ⟨Q, 4, none⟩ = some (.slice A l.length c) := hb.cell 4
  have HB := Lib.hid hb; clear hb hr
  go_enter Try.func38, Try.ntmps38
  go_wp2_with fail
  go_ret
  exact ⟨rfl, rfl⟩

set_option maxRecDepth 100000 in
set_option maxHeartbeats 800000 in
theorem bytesArr_any (Q : Nat) (F : List Nat) (g : FuncId) (count bytes : Int) (l : List ((Int × Int) × Int)) (w : World) (h : QArr w Q F g count bytes l) :
    Calls Try.prog 40 #[.pointer (some ⟨Q, 0, none⟩)] w fun e w' => e = .returned (.int .i64 (qsum l)) ∧ w = w' := by
  obtain ⟨⟨A, c, hb, hr⟩, _⟩ := h
  have c3 : w.cell? ⟨Q, 3, none⟩ = some (.int .i64 (qsum l)) := hb.cell 3
  have HB := Lib.hid hb; clear hb hr
  go_enter Try.func40, Try.ntmps40
  go_wp2_with fail
  go_ret
  exact ⟨rfl, rfl⟩
end Go.Proofs.Ytjlnkfbhbiinoaa
