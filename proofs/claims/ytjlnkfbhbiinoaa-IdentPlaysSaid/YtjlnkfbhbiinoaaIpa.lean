/-
  IdentPlays: the law's two sources and the document's, in memory of the call's own: how a call on one of them turns the whole.
-/
import Derived.Test.YtjlnkfbhbiinoaaIdi
import Derived.Test.YtjlnkfbhbiinoaaIt
import Derived.Test.YtjlnkfbhbiinoaaAnd1
import Derived.Test.YtjlnkfbhbiinoaaOps12
namespace Go.Proofs.Ytjlnkfbhbiinoaa
open Go.RowKit
set_option linter.unusedVariables false
set_option linter.unusedSimpArgs false

/-- A source and the document's beside it. -/
structure Src where
  S : Nat
  F : List Nat
  G : List Int
  R : Nat
  H : List Nat
  Gr : List Int
  space : Int
  life : Int
def srcA : Option Src → Value
  | none => .pointer none
  | some s => .pointer (some ⟨s.S, 0, none⟩)
def srcR : Option Src → Value
  | none => .pointer none
  | some s => .pointer (some ⟨s.R, 0, none⟩)
def footA : Option Src → List Nat
  | none => []
  | some s => s.S :: (s.S + 1) :: s.F
def footR : Option Src → List Nat
  | none => []
  | some s => s.R :: s.H
def upd (o : Nat → Option Src) (t : Nat) (s : Src) : Nat → Option Src := fun i => if i = t then some s else o i
theorem upd_same (o : Nat → Option Src) (t : Nat) (s : Src) : upd o t s t = some s := by simp [upd]
theorem upd_other (o : Nat → Option Src) {t i : Nat} (s : Src) (h : i ≠ t) : upd o t s i = o i := by simp [upd, h]

structure PlaysAt (w wr : World) (BA BR : Nat) (o : Nat → Option Src) : Prop where
  ba : Blk wr BA 78 #[srcA (o 0), srcA (o 1)]
  br : Blk wr BR 80 #[srcR (o 0), srcR (o 1)]
  s : ∀ i s, i < 2 → o i = some s → SI wr s.S (s.S + 1) s.F s.space s.life s.G ∧ RS wr s.R s.H s.space s.life s.Gr
  sep : Sep w wr [[BA], [BR], footA (o 0), footR (o 0), footA (o 1), footR (o 1)]

section
variable {w wr w2 : World} {BA BR t : Nat} {o : Nat → Option Src} {s : Src} {F' : List Nat} {G' : List Int}
theorem PlaysAt.only (h : PlaysAt w wr BA BR o) (ho : Only [] wr w2) : PlaysAt w w2 BA BR o :=
  ⟨h.ba.only ho (by simp), h.br.only ho (by simp), fun i s hi hs => ⟨(h.s i s hi hs).1.only ho (by simp), (h.s i s hi hs).2.only ho (by simp)⟩, h.sep.only ho⟩
theorem cons2_fresh {a b B : Nat} {F F' : List Nat} (hf : ∀ k ∈ F', k ∈ F ∨ B ≤ k) : ∀ k ∈ a :: b :: F', k ∈ a :: b :: F ∨ B ≤ k := by
  intro k hk
  simp only [List.mem_cons] at hk ⊢
  rcases hk with rfl | rfl | hk
  · exact .inl (.inl rfl)
  · exact .inl (.inr (.inl rfl))
  · rcases hf k hk with h | h
    · exact .inl (.inr (.inr h))
    · exact .inr h
theorem cons1_fresh {a B : Nat} {F F' : List Nat} (hf : ∀ k ∈ F', k ∈ F ∨ B ≤ k) : ∀ k ∈ a :: F', k ∈ a :: F ∨ B ≤ k := by
  intro k hk
  simp only [List.mem_cons] at hk ⊢
  rcases hk with rfl | hk
  · exact .inl (.inl rfl)
  · rcases hf k hk with h | h
    · exact .inl (.inr h)
    · exact .inr h
/-- A call on the law's source number t. -/
theorem PlaysAt.callA (h : PlaysAt w wr BA BR o) (ht : t < 2) (hs : o t = some s) (hsi : SI w2 s.S (s.S + 1) F' s.space s.life G') (ho : Only (s.S :: (s.S + 1) :: s.F) wr w2) (hf : ∀ k ∈ F', k ∈ s.F ∨ wr.heap.size ≤ k) :
    PlaysAt w w2 BA BR (upd o t { s with F := F', G := G' }) := by
  have ht' : t = 0 ∨ t = 1 := by omega
  rcases ht' with rfl | rfl
  · have e0 : footA (o 0) = s.S :: (s.S + 1) :: s.F := by rw [hs]; rfl
    have hd := fun j (hj : j ≠ 2) k hk hm => h.sep.d j 2 hj k hk (show k ∈ footA (o 0) by rw [e0]; exact hm)
    have e1 : upd o 0 { s with F := F', G := G' } 1 = o 1 := upd_other _ _ (by decide)
    have e2 := upd_same o 0 { s with F := F', G := G' }
    refine ⟨?_, ?_, ?_, ?_⟩
    · rw [e1, e2]
      have := h.ba.only ho (hd 0 (by decide) BA (by simp [List.getD]))
      rw [hs] at this
      exact this
    · rw [e1, e2]
      have := h.br.only ho (hd 1 (by decide) BR (by simp [List.getD]))
      rw [hs] at this
      exact this
    · intro i s' hi hs'
      have hi' : i = 0 ∨ i = 1 := by omega
      rcases hi' with rfl | rfl
      · rw [e2] at hs'
        injection hs' with hs'
        subst hs'
        exact ⟨hsi, (h.s 0 s (by decide) hs).2.only ho (fun k hk => hd 3 (by decide) k (by simp only [List.getD, List.getElem?_cons_succ, List.getElem?_cons_zero, Option.getD_some]; rw [hs]; exact hk))⟩
      · rw [e1] at hs'
        have := h.s 1 s' (by decide) hs'
        exact ⟨this.1.only ho (fun k hk => hd 4 (by decide) k (by simp only [List.getD, List.getElem?_cons_succ, List.getElem?_cons_zero, Option.getD_some]; rw [hs']; exact hk)), this.2.only ho (fun k hk => hd 5 (by decide) k (by simp only [List.getD, List.getElem?_cons_succ, List.getElem?_cons_zero, Option.getD_some]; rw [hs']; exact hk))⟩
    · rw [e1, e2]
      have := h.sep.step 2 (F' := s.S :: (s.S + 1) :: F') (by simp only [List.getD, List.getElem?_cons_succ, List.getElem?_cons_zero, Option.getD_some]; rw [e0]; exact ho) (by simp only [List.getD, List.getElem?_cons_succ, List.getElem?_cons_zero, Option.getD_some]; rw [e0]; exact cons2_fresh hf) hsi.lt
      rw [hs] at this
      exact this
  · have e0 : footA (o 1) = s.S :: (s.S + 1) :: s.F := by rw [hs]; rfl
    have hd := fun j (hj : j ≠ 4) k hk hm => h.sep.d j 4 hj k hk (show k ∈ footA (o 1) by rw [e0]; exact hm)
    have e1 : upd o 1 { s with F := F', G := G' } 0 = o 0 := upd_other _ _ (by decide)
    have e2 := upd_same o 1 { s with F := F', G := G' }
    refine ⟨?_, ?_, ?_, ?_⟩
    · rw [e1, e2]
      have := h.ba.only ho (hd 0 (by decide) BA (by simp [List.getD]))
      rw [hs] at this
      exact this
    · rw [e1, e2]
      have := h.br.only ho (hd 1 (by decide) BR (by simp [List.getD]))
      rw [hs] at this
      exact this
    · intro i s' hi hs'
      have hi' : i = 1 ∨ i = 0 := by omega
      rcases hi' with rfl | rfl
      · rw [e2] at hs'
        injection hs' with hs'
        subst hs'
        exact ⟨hsi, (h.s 1 s (by decide) hs).2.only ho (fun k hk => hd 5 (by decide) k (by simp only [List.getD, List.getElem?_cons_succ, List.getElem?_cons_zero, Option.getD_some]; rw [hs]; exact hk))⟩
      · rw [e1] at hs'
        have := h.s 0 s' (by decide) hs'
        exact ⟨this.1.only ho (fun k hk => hd 2 (by decide) k (by simp only [List.getD, List.getElem?_cons_succ, List.getElem?_cons_zero, Option.getD_some]; rw [hs']; exact hk)), this.2.only ho (fun k hk => hd 3 (by decide) k (by simp only [List.getD, List.getElem?_cons_succ, List.getElem?_cons_zero, Option.getD_some]; rw [hs']; exact hk))⟩
    · rw [e1, e2]
      have := h.sep.step 4 (F' := s.S :: (s.S + 1) :: F') (by simp only [List.getD, List.getElem?_cons_succ, List.getElem?_cons_zero, Option.getD_some]; rw [e0]; exact ho) (by simp only [List.getD, List.getElem?_cons_succ, List.getElem?_cons_zero, Option.getD_some]; rw [e0]; exact cons2_fresh hf) hsi.lt
      rw [hs] at this
      exact this
/-- A call on the document's source number t. -/
theorem PlaysAt.callR (h : PlaysAt w wr BA BR o) (ht : t < 2) (hs : o t = some s) (hrs : RS w2 s.R F' s.space s.life G') (ho : Only (s.R :: s.H) wr w2) (hf : ∀ k ∈ F', k ∈ s.H ∨ wr.heap.size ≤ k) :
    PlaysAt w w2 BA BR (upd o t { s with H := F', Gr := G' }) := by
  have ht' : t = 0 ∨ t = 1 := by omega
  rcases ht' with rfl | rfl
  · have e0 : footR (o 0) = s.R :: s.H := by rw [hs]; rfl
    have hd := fun j (hj : j ≠ 3) k hk hm => h.sep.d j 3 hj k hk (show k ∈ footR (o 0) by rw [e0]; exact hm)
    have e1 : upd o 0 { s with H := F', Gr := G' } 1 = o 1 := upd_other _ _ (by decide)
    have e2 := upd_same o 0 { s with H := F', Gr := G' }
    refine ⟨?_, ?_, ?_, ?_⟩
    · rw [e1, e2]
      have := h.ba.only ho (hd 0 (by decide) BA (by simp [List.getD]))
      rw [hs] at this
      exact this
    · rw [e1, e2]
      have := h.br.only ho (hd 1 (by decide) BR (by simp [List.getD]))
      rw [hs] at this
      exact this
    · intro i s' hi hs'
      have hi' : i = 0 ∨ i = 1 := by omega
      rcases hi' with rfl | rfl
      · rw [e2] at hs'
        injection hs' with hs'
        subst hs'
        exact ⟨(h.s 0 s (by decide) hs).1.only ho (fun k hk => hd 2 (by decide) k (by simp only [List.getD, List.getElem?_cons_succ, List.getElem?_cons_zero, Option.getD_some]; rw [hs]; exact hk)), hrs⟩
      · rw [e1] at hs'
        have := h.s 1 s' (by decide) hs'
        exact ⟨this.1.only ho (fun k hk => hd 4 (by decide) k (by simp only [List.getD, List.getElem?_cons_succ, List.getElem?_cons_zero, Option.getD_some]; rw [hs']; exact hk)), this.2.only ho (fun k hk => hd 5 (by decide) k (by simp only [List.getD, List.getElem?_cons_succ, List.getElem?_cons_zero, Option.getD_some]; rw [hs']; exact hk))⟩
    · rw [e1, e2]
      have := h.sep.step 3 (F' := s.R :: F') (by simp only [List.getD, List.getElem?_cons_succ, List.getElem?_cons_zero, Option.getD_some]; rw [e0]; exact ho) (by simp only [List.getD, List.getElem?_cons_succ, List.getElem?_cons_zero, Option.getD_some]; rw [e0]; exact cons1_fresh hf) hrs.lt
      rw [hs] at this
      exact this
  · have e0 : footR (o 1) = s.R :: s.H := by rw [hs]; rfl
    have hd := fun j (hj : j ≠ 5) k hk hm => h.sep.d j 5 hj k hk (show k ∈ footR (o 1) by rw [e0]; exact hm)
    have e1 : upd o 1 { s with H := F', Gr := G' } 0 = o 0 := upd_other _ _ (by decide)
    have e2 := upd_same o 1 { s with H := F', Gr := G' }
    refine ⟨?_, ?_, ?_, ?_⟩
    · rw [e1, e2]
      have := h.ba.only ho (hd 0 (by decide) BA (by simp [List.getD]))
      rw [hs] at this
      exact this
    · rw [e1, e2]
      have := h.br.only ho (hd 1 (by decide) BR (by simp [List.getD]))
      rw [hs] at this
      exact this
    · intro i s' hi hs'
      have hi' : i = 1 ∨ i = 0 := by omega
      rcases hi' with rfl | rfl
      · rw [e2] at hs'
        injection hs' with hs'
        subst hs'
        exact ⟨(h.s 1 s (by decide) hs).1.only ho (fun k hk => hd 4 (by decide) k (by simp only [List.getD, List.getElem?_cons_succ, List.getElem?_cons_zero, Option.getD_some]; rw [hs]; exact hk)), hrs⟩
      · rw [e1] at hs'
        have := h.s 0 s' (by decide) hs'
        exact ⟨this.1.only ho (fun k hk => hd 2 (by decide) k (by simp only [List.getD, List.getElem?_cons_succ, List.getElem?_cons_zero, Option.getD_some]; rw [hs']; exact hk)), this.2.only ho (fun k hk => hd 3 (by decide) k (by simp only [List.getD, List.getElem?_cons_succ, List.getElem?_cons_zero, Option.getD_some]; rw [hs']; exact hk))⟩
    · rw [e1, e2]
      have := h.sep.step 5 (F' := s.R :: F') (by simp only [List.getD, List.getElem?_cons_succ, List.getElem?_cons_zero, Option.getD_some]; rw [e0]; exact ho) (by simp only [List.getD, List.getElem?_cons_succ, List.getElem?_cons_zero, Option.getD_some]; rw [e0]; exact cons1_fresh hf) hrs.lt
      rw [hs] at this
      exact this
/-- Two new sources in the place number t. -/
theorem PlaysAt.fresh (h : PlaysAt w wr BA BR o) (ht : t < 2) {w3 : World} {S R : Nat} {space life : Int} (hSI : SI w2 S (S + 1) [] space life []) (ho1 : Only [] wr w2) (hS : wr.heap.size ≤ S)
    (hRS : RS w3 R [] space life []) (ho2 : Only [] w2 w3) (hR : w2.heap.size ≤ R) :
    PlaysAt w ((w3.setCell ⟨BA, t, none⟩ (.pointer (some ⟨S, 0, none⟩))).setCell ⟨BR, t, none⟩ (.pointer (some ⟨R, 0, none⟩))) BA BR (upd o t ⟨S, [], [], R, [], [], space, life⟩) := by
  have h3 := (h.only ho1).only ho2
  have hAR : BA ≠ BR := fun he => h.sep.d 0 1 (by decide) BA (by simp [List.getD]) (by simp [List.getD, he])
  have hSI3 := hSI.only ho2 (by simp)
  have hAl := h.ba.lt
  have hRl := h.br.lt
  have hz1 := ho1.size
  have hz2 := ho2.size
  have hSA : ∀ k ∈ [S, S + 1], k ≠ BA ∧ k ≠ BR := by
    intro k hk
    simp only [List.mem_cons, List.not_mem_nil, or_false] at hk
    omega
  have hSl := hSI3.lt
  have hRl3 := hRS.lt
  have hORA := (Only.refl [BA, BR] w3).setCell (p := ⟨BA, t, none⟩) (.inl (by simp)) (.pointer (some ⟨S, 0, none⟩))
  have hORB := hORA.setCell (p := ⟨BR, t, none⟩) (.inl (by simp)) (.pointer (some ⟨R, 0, none⟩))
  have hSI4 : SI _ S (S + 1) [] space life [] := hSI3.only hORB (by intro k hk; have := hSA k hk; simp; omega)
  have hRS4 : RS _ R [] space life [] := hRS.only hORB (by intro k hk; simp at hk ⊢; omega)
  have s1 := (h.sep.only ho1).only ho2
  have ht' : t = 0 ∨ t = 1 := by omega
  rcases ht' with rfl | rfl
  · have e1 : upd o 0 ⟨S, [], [], R, [], [], space, life⟩ 1 = o 1 := upd_other _ _ (by decide)
    have e2 := upd_same o 0 ⟨S, [], [], R, [], [], space, life⟩
    have hO0 : Only [BA] w3 (w3.setCell ⟨BA, 0, none⟩ (.pointer (some ⟨S, 0, none⟩))) := (Only.refl [BA] w3).setCell (.inl (by simp)) _
    have hO1 : Only [BR] (w3.setCell ⟨BA, 0, none⟩ (.pointer (some ⟨S, 0, none⟩))) _ := (Only.refl [BR] _).setCell (p := ⟨BR, 0, none⟩) (.inl (by simp)) (.pointer (some ⟨R, 0, none⟩))
    refine ⟨?_, ?_, ?_, ?_⟩
    · rw [e1, e2]
      exact (h3.ba.set_ 0 _).far hAR _
    · rw [e1, e2]
      exact (h3.br.far (by simpa using (Ne.symm hAR)) _).set_ 0 _
    · intro i s' hi hs'
      have hi' : i = 0 ∨ i = 1 := by omega
      rcases hi' with rfl | rfl
      · rw [e2] at hs'
        injection hs' with hs'
        subst hs'
        exact ⟨hSI4, hRS4⟩
      · rw [e1] at hs'
        have hh := h3.s 1 s' (by decide) hs'
        have q : ∀ j, j = 4 ∨ j = 5 → ∀ k ∈ ([[BA], [BR], footA (o 0), footR (o 0), footA (o 1), footR (o 1)] : List (List Nat)).getD j [], k ∉ [BA, BR] := by
          intro j hj k hk hm
          simp only [List.mem_cons, List.not_mem_nil, or_false] at hm
          rcases hm with rfl | rfl
          · exact h3.sep.d j 0 (by omega) k hk (by simp [List.getD])
          · exact h3.sep.d j 1 (by omega) k hk (by simp [List.getD])
        exact ⟨hh.1.only hORB (fun k hk => q 4 (.inl rfl) k (by simp only [List.getD, List.getElem?_cons_succ, List.getElem?_cons_zero, Option.getD_some]; rw [hs']; exact hk)), hh.2.only hORB (fun k hk => q 5 (.inr rfl) k (by simp only [List.getD, List.getElem?_cons_succ, List.getElem?_cons_zero, Option.getD_some]; rw [hs']; exact hk))⟩
    · rw [e1, e2]
      have s2 := h.sep.step 2 (F' := [S, S + 1]) (ho1.mono (by simp)) (by intro k hk; simp at hk; right; omega) hSI.lt
      have s3 := s2.step 3 (F' := [R]) (ho2.mono (by simp)) (by intro k hk; simp at hk; right; omega) hRS.lt
      have s4 := s3.step 0 (F' := [BA]) hO0 (by intro k hk; exact .inl hk) (by intro k hk; simp at hk; subst hk; have := hO0.size; omega)
      exact s4.step 1 (F' := [BR]) hO1 (by intro k hk; exact .inl hk) (by intro k hk; simp at hk; subst hk; have := hO0.size; have := hO1.size; omega)
  · have e1 : upd o 1 ⟨S, [], [], R, [], [], space, life⟩ 0 = o 0 := upd_other _ _ (by decide)
    have e2 := upd_same o 1 ⟨S, [], [], R, [], [], space, life⟩
    have hO0 : Only [BA] w3 (w3.setCell ⟨BA, 1, none⟩ (.pointer (some ⟨S, 0, none⟩))) := (Only.refl [BA] w3).setCell (.inl (by simp)) _
    have hO1 : Only [BR] (w3.setCell ⟨BA, 1, none⟩ (.pointer (some ⟨S, 0, none⟩))) _ := (Only.refl [BR] _).setCell (p := ⟨BR, 1, none⟩) (.inl (by simp)) (.pointer (some ⟨R, 0, none⟩))
    refine ⟨?_, ?_, ?_, ?_⟩
    · rw [e1, e2]
      exact (h3.ba.set_ 1 _).far hAR _
    · rw [e1, e2]
      exact (h3.br.far (by simpa using (Ne.symm hAR)) _).set_ 1 _
    · intro i s' hi hs'
      have hi' : i = 1 ∨ i = 0 := by omega
      rcases hi' with rfl | rfl
      · rw [e2] at hs'
        injection hs' with hs'
        subst hs'
        exact ⟨hSI4, hRS4⟩
      · rw [e1] at hs'
        have hh := h3.s 0 s' (by decide) hs'
        have q : ∀ j, j = 2 ∨ j = 3 → ∀ k ∈ ([[BA], [BR], footA (o 0), footR (o 0), footA (o 1), footR (o 1)] : List (List Nat)).getD j [], k ∉ [BA, BR] := by
          intro j hj k hk hm
          simp only [List.mem_cons, List.not_mem_nil, or_false] at hm
          rcases hm with rfl | rfl
          · exact h3.sep.d j 0 (by omega) k hk (by simp [List.getD])
          · exact h3.sep.d j 1 (by omega) k hk (by simp [List.getD])
        exact ⟨hh.1.only hORB (fun k hk => q 2 (.inl rfl) k (by simp only [List.getD, List.getElem?_cons_succ, List.getElem?_cons_zero, Option.getD_some]; rw [hs']; exact hk)), hh.2.only hORB (fun k hk => q 3 (.inr rfl) k (by simp only [List.getD, List.getElem?_cons_succ, List.getElem?_cons_zero, Option.getD_some]; rw [hs']; exact hk))⟩
    · rw [e1, e2]
      have s2 := h.sep.step 4 (F' := [S, S + 1]) (ho1.mono (by simp)) (by intro k hk; simp at hk; right; omega) hSI.lt
      have s3 := s2.step 5 (F' := [R]) (ho2.mono (by simp)) (by intro k hk; simp at hk; right; omega) hRS.lt
      have s4 := s3.step 0 (F' := [BA]) hO0 (by intro k hk; exact .inl hk) (by intro k hk; simp at hk; subst hk; have := hO0.size; omega)
      exact s4.step 1 (F' := [BR]) hO1 (by intro k hk; exact .inl hk) (by intro k hk; simp at hk; subst hk; have := hO0.size; have := hO1.size; omega)
end
end Go.Proofs.Ytjlnkfbhbiinoaa
