/-
  IdentPlays: its walk.
-/
import Derived.Test.YtjlnkfbhbiinoaaIpa
namespace Go.Proofs.Ytjlnkfbhbiinoaa
open Go.RowKit
set_option linter.unusedVariables false
set_option linter.unusedSimpArgs false
attribute [local go_sem ↓] Go.wp_at_zero Go.wp_at_succ

theorem PlaysAt.cellA {w wr : World} {BA BR t : Nat} {o : Nat → Option Src} (h : PlaysAt w wr BA BR o) (ht : t < 2) : wr.cell? ⟨BA, t, none⟩ = some (srcA (o t)) := by
  rw [h.ba.cell t]
  have : t = 0 ∨ t = 1 := by omega
  rcases this with rfl | rfl <;> rfl
theorem PlaysAt.cellR {w wr : World} {BA BR t : Nat} {o : Nat → Option Src} (h : PlaysAt w wr BA BR o) (ht : t < 2) : wr.cell? ⟨BR, t, none⟩ = some (srcR (o t)) := by
  rw [h.br.cell t]
  have : t = 0 ∨ t = 1 := by omega
  rcases this with rfl | rfl <;> rfl
def Alike (o : Nat → Option Src) (k : Nat) : Prop := ∀ i s, i < 2 → o i = some s → s.G = s.Gr ∧ s.Gr.length ≤ k
theorem Alike.upd_ {o : Nat → Option Src} {k t : Nat} {s : Src} (h : Alike o k) (h1 : s.G = s.Gr) (h2 : s.Gr.length ≤ k + 1) : Alike (upd o t s) (k + 1) := by
  intro i s' hi hs
  by_cases hit : i = t
  · subst hit
    rw [upd_same] at hs
    injection hs with hs
    subst hs
    exact ⟨h1, h2⟩
  · rw [upd_other _ _ hit] at hs
    have := h i s' hi hs
    exact ⟨this.1, by omega⟩
theorem Alike.up {o : Nat → Option Src} {k : Nat} (h : Alike o k) : Alike o (k + 1) := fun i s hi hs => ⟨(h i s hi hs).1, by have := (h i s hi hs).2; omega⟩
theorem upd_upd (o : Nat → Option Src) (t : Nat) (s s' : Src) : upd (upd o t s) t s' = upd o t s' := by
  funext i
  unfold upd
  split <;> rfl
def PlaysRel12 (w : World) (BA BR n : Nat) (v6 : Value) (wr : World) : Prop :=
  ∃ (k : Nat) (o : Nat → Option Src), k ≤ n ∧ v6 = .int .i64 k ∧ Hid (Alike o k) ∧ Hid (PlaysAt w wr BA BR o)
theorem idGot_cases' (space life : Int) (G : List Int) (now : Int) : idGot space life G now = G ++ [now] ∨ idGot space life G now = G := by
  unfold idGot
  split
  · split
    · exact .inr rfl
    · exact .inl rfl
  · exact .inr rfl
theorem idGot_len (space life : Int) (G : List Int) (now : Int) : (idGot space life G now).length ≤ G.length + 1 := by
  rcases idGot_cases' space life G now with h | h <;> rw [h] <;> simp

set_option maxRecDepth 100000 in
set_option maxHeartbeats 6400000 in
theorem identPlays_walk (A : Option Addr) (n c : Nat) (z : List (Int × Int × Int × Int)) (w : World)
    (hz : z.length = n) (hA : Arg w 4 A n (z.flatMap encOp12)) (hq : ∀ o ∈ z, (Lit.int .i64 o.1).wf = true ∧ (Lit.int .i64 o.2.1).wf = true ∧ (Lit.int .i64 o.2.2.1).wf = true ∧ (Lit.int .i64 o.2.2.2).wf = true) (hn : n ≤ c) (hr : c * 32 ≤ 140737488351232) :
    Calls Try.prog 8 #[.slice A n c] w fun e w' => e = .returned (.bool true) ∧ Below w.heap.size w w' := by
  have hn2 : n ≤ 4398046510976 := by omega
  clear hr hn hq
  have HA := Lib.hid hA; clear hA
  have HZ := Lib.hid hz; clear hz
  go_enter Try.func8, Try.ntmps8
  go_wp2_with fail
  refine (alive_any _).mono ?_
  rintro e w1 ⟨rfl, ho⟩
  have HINV : Hid (PlaysAt w ((w1.alloc (.cells #[.pointer none, .pointer none] 78)).alloc (.cells #[.pointer none, .pointer none] 80)) w1.heap.size (w1.heap.size + 1) (fun _ => none)) := by
    have hb2 := Blk.new (w1.alloc (.cells #[.pointer none, .pointer none] 78)) 80 #[.pointer none, .pointer none]
    rw [World.size_alloc] at hb2
    refine ⟨(Blk.new w1 78 #[.pointer none, .pointer none]).alloc _, hb2, (fun i s _ h => by cases h), ?_⟩
    have s0 : Sep w w1 [] := ⟨by simp, by simp, by simp, ho⟩
    have s1 := s0.add (F' := [w1.heap.size]) ((Only.refl [] w1).alloc (.cells #[.pointer none, .pointer none] 78)) (by simp) (by simp)
    have s2 := s1.add (F' := [w1.heap.size + 1]) ((Only.refl [] _).alloc (.cells #[.pointer none, .pointer none] 80)) (by simp) (by simp)
    have s3 := s2.add (F' := []) (Only.refl [] _) (by simp) (by simp)
    have s4 := s3.add (F' := []) (Only.refl [] _) (by simp) (by simp)
    have s5 := s4.add (F' := []) (Only.refl [] _) (by simp) (by simp)
    exact s5.add (F' := []) (Only.refl [] _) (by simp) (by simp)
  clear ho
  go_wp2_with fail
  generalize (w1.alloc (.cells #[.pointer none, .pointer none] 78)).alloc (.cells #[.pointer none, .pointer none] 80) = W0 at *
  generalize hBR : w1.heap.size + 1 = BR at *
  clear hBR
  generalize w1.heap.size = BA at *
  go_loopw [6] (fun v6 wr => PlaysRel12 w BA BR n v6 wr) (fun i _ => n - (intOf i).toNat)
  case atStart => exact ⟨0, fun _ => none, Nat.zero_le _, rfl, Lib.hid (fun i s _ h => by cases h), HINV⟩
  case round =>
    clear HINV
    obtain ⟨k, o, hk, rfl, HAL, HI⟩ := hrel
    by_cases hlt : k < n
    · obtain ⟨bb, off, rfl, hbl, hc⟩ := HA.out.2 (by omega)
      have hkz : k < z.length := by rw [HZ.out]; exact hlt
      obtain ⟨z0, z1, z2, z3⟩ := encOp12_at z k hkz
      have e0 : wr.cell? ⟨bb, off + k * 4, none⟩ = some (.int .i64 z[k].1) := HI.out.sep.o.cell (hc _ _ z0) (by simp)
      have e1 : wr.cell? ⟨bb, off + k * 4 + 1, none⟩ = some (.int .i64 z[k].2.1) := HI.out.sep.o.cell (hc _ _ z1) (by simp)
      have e2 : wr.cell? ⟨bb, off + k * 4 + 2, none⟩ = some (.int .i64 z[k].2.2.1) := HI.out.sep.o.cell (hc _ _ z2) (by simp)
      have e3 : wr.cell? ⟨bb, off + k * 4 + 3, none⟩ = some (.int .i64 z[k].2.2.2) := HI.out.sep.o.cell (hc _ _ z3) (by simp)
      clear hc z0 z1 z2 z3 hbl
      generalize z[k].1 = kind at *
      generalize z[k].2.1 = T at *
      generalize z[k].2.2.1 = a at *
      generalize z[k].2.2.2 = b at *
      clear hkz
      obtain ⟨t, ht, hb⟩ : ∃ t : Nat, t < 2 ∧ bits .and .i64 T 1 = (t : Int) := by
        rcases and_one_cases T with h | h
        · exact ⟨0, by decide, h.1⟩
        · exact ⟨1, by decide, h.1⟩
      have HX := Lib.hid (Blk.new wr 82 #[.int .i64 kind, .int .i64 T, .int .i64 a, .int .i64 b])
      have HOa := Lib.hid ((Only.refl [] wr).alloc (.cells #[.int .i64 kind, .int .i64 T, .int .i64 a, .int .i64 b] 82))
      have HSa := Lib.hid (World.size_alloc wr (.cells #[.int .i64 kind, .int .i64 T, .int .i64 a, .int .i64 b] 82))
      by_cases hk1 : kind = 1
      · subst hk1
        by_cases hbad : a < 1 ∨ 4294967296 < a ∨ b < 0 ∨ 4294967296 < b
        · have HN1 : Hid (∀ W, Calls Try.prog 46 #[.int .i64 a, .int .i64 b] W fun e w' => e = .returned (.tuple #[.pointer none, .int .i64 1]) ∧ W = w') := fun W => newIdent_no a b W hbad
          have HN2 : Hid (∀ W, Calls Try.prog 47 #[.int .i64 a, .int .i64 b] W fun e w' => e = .returned (.tuple #[.pointer none, .int .i64 1]) ∧ W = w') := fun W => newRef_no a b W hbad
          clear hbad
          go_wp2_with fail
          refine (HN1.out _).mono ?_
          rintro e W2 ⟨rfl, rfl⟩
          go_wp2_with fail
          refine (HN2.out _).mono ?_
          rintro e W3 ⟨rfl, rfl⟩
          go_wp2_with fail
          go_roundw
          case rel => exact ⟨k + 1, o, by omega, by go_num, HAL.out.up, HI.out.only HOa.out⟩
          case measure => simp [intOf]; omega
        · have HN1 : Hid (∀ W, Calls Try.prog 46 #[.int .i64 a, .int .i64 b] W fun e w' => e = .returned (.tuple #[.pointer (some ⟨W.heap.size, 0, none⟩), .int .i64 0]) ∧ SI w' W.heap.size (W.heap.size + 1) [] a b [] ∧ Only [] W w' ∧ w'.heap.size = W.heap.size + 1 + 1) := fun W => newIdent_ok a b W (by omega) (by omega) (by omega) (by omega)
          have HN2 : Hid (∀ W, Calls Try.prog 47 #[.int .i64 a, .int .i64 b] W fun e w' => e = .returned (.tuple #[.pointer (some ⟨W.heap.size, 0, none⟩), .int .i64 0]) ∧ RS w' W.heap.size [] a b [] ∧ Only [] W w' ∧ w'.heap.size = W.heap.size + 1) := fun W => newRef_ok a b W (by omega) (by omega) (by omega) (by omega)
          clear hbad
          go_wp2_with fail
          refine (HN1.out _).mono ?_
          rintro e W2 ⟨rfl, hs, ho, hsz⟩
          have HS2 := Lib.hid hs
          have HO2 := Lib.hid ho
          have x2 := ho.cell (HX.out.cell 2) (by simp)
          have x3 := ho.cell (HX.out.cell 3) (by simp)
          clear hs ho hsz
          go_wp2_with fail
          refine (HN2.out _).mono ?_
          rintro e W3 ⟨rfl, hs, ho, hsz⟩
          have hin := (HI.out.only HOa.out).fresh ht HS2.out HO2.out (Nat.le_refl _) hs ho (Nat.le_refl _)
          rw [HSa.out] at hin
          have HIN := Lib.hid hin; clear hin
          have cA := ho.cell (HO2.out.cell (HOa.out.cell (HI.out.cellA ht) (by simp)) (by simp)) (by simp)
          have cR := ho.cell (HO2.out.cell (HOa.out.cell (HI.out.cellR ht) (by simp)) (by simp)) (by simp)
          have fA := ((((HI.out.ba.only HOa.out (by simp)).only HO2.out (by simp)).only ho (by simp))).frozen t
          have fR := ((((HI.out.br.only HOa.out (by simp)).only HO2.out (by simp)).only ho (by simp))).frozen t
          have hABR : BA ≠ BR := fun he => HI.out.sep.d 0 1 (by decide) BA (by simp [List.getD]) (by simp [List.getD, he])
          clear hs ho hsz
          go_wp2_with fail
          go_roundw
          case rel =>
            refine ⟨k + 1, _, by omega, by go_num, ?_, HIN⟩
            exact HAL.out.upd_ rfl (by simp)
          case measure => simp [intOf]; omega
      · have hk1' : (kind == 1) = false := by simpa using hk1
        have hx0 := HX.out.cell 0
        cases hot : o t with
        | none =>
          have HC := Lib.hid (show wr.cell? ⟨BA, t, none⟩ = some (.pointer none) by have := HI.out.cellA ht; rw [hot] at this; exact this)
          clear hot hk1 hx0
          have cA := HOa.out.cell HC.out (by simp)
          go_wp2_with fail
          go_roundw
          case rel => exact ⟨k + 1, o, by omega, by go_num, HAL.out.up, HI.out.only HOa.out⟩
          case measure => simp [intOf]; omega
        | some s =>
          have HOT := Lib.hid hot
          have HCA := Lib.hid (show wr.cell? ⟨BA, t, none⟩ = some (.pointer (some ⟨s.S, 0, none⟩)) by have := HI.out.cellA ht; rw [hot] at this; exact this)
          have HCR := Lib.hid (show wr.cell? ⟨BR, t, none⟩ = some (.pointer (some ⟨s.R, 0, none⟩)) by have := HI.out.cellR ht; rw [hot] at this; exact this)
          have hbA : BA ∉ footA (some s) := fun hm => HI.out.sep.d 0 (2 + 2 * t) (by omega) BA (by simp [List.getD]) (by
            have : t = 0 ∨ t = 1 := by omega
            rcases this with rfl | rfl <;> simp only [List.getD, List.getElem?_cons_succ, List.getElem?_cons_zero, Option.getD_some] <;> rw [hot] <;> exact hm)
          have hbR : BR ∉ footA (some s) := fun hm => HI.out.sep.d 1 (2 + 2 * t) (by omega) BR (by simp [List.getD]) (by
            have : t = 0 ∨ t = 1 := by omega
            rcases this with rfl | rfl <;> simp only [List.getD, List.getElem?_cons_succ, List.getElem?_cons_zero, Option.getD_some] <;> rw [hot] <;> exact hm)
          have hbR3 : BR ∉ footR (some s) := fun hm => HI.out.sep.d 1 (3 + 2 * t) (by omega) BR (by simp [List.getD]) (by
            have : t = 0 ∨ t = 1 := by omega
            rcases this with rfl | rfl <;> simp only [List.getD, List.getElem?_cons_succ, List.getElem?_cons_zero, Option.getD_some] <;> rw [hot] <;> exact hm)
          have HBR3 := Lib.hid hbR3; clear hbR3
          obtain ⟨hsi, hrs⟩ := HI.out.s t s ht hot
          obtain ⟨hgg, hgl⟩ := HAL.out t s ht hot
          have HGG := Lib.hid hgg
          have HGL := Lib.hid hgl
          have hXA : wr.heap.size ∉ footA (some s) := fun hm => by have := hsi.lt _ hm; omega
          have hXR : wr.heap.size ∉ footR (some s) := fun hm => by have := hrs.lt _ hm; omega
          have HBA := Lib.hid hbA
          have HBR := Lib.hid hbR
          have HXA := Lib.hid hXA
          have HXR := Lib.hid hXR
          clear hbA hbR hXA hXR hgg hgl hsi hrs hot hk1 hx0
          by_cases hk2 : kind = 2
          · subst hk2
            clear hk1'
            have HNA : Hid (∀ W, SI W s.S (s.S + 1) s.F s.space s.life s.G → Calls Try.prog 48 #[.pointer (some ⟨s.S, 0, none⟩), .int .i64 a] W (SPost W s.S (s.S + 1) s.F s.space s.life (idGot s.space s.life s.G a) (.tuple #[.int .u32 (idNum s.space s.life s.G a), .int .i64 (idErr s.space s.life s.G a)]))) := fun W h => next_any h
            have HNR : Hid (∀ W, RS W s.R s.H s.space s.life s.Gr → Calls Try.prog 49 #[.pointer (some ⟨s.R, 0, none⟩), .int .i64 a] W (RSPost W s.R s.H s.space s.life (idGot s.space s.life s.G a) (.tuple #[.int .u32 (idNum s.space s.life s.G a), .int .i64 (idErr s.space s.life s.G a)]))) := fun W h => by
              have := refNext_any (now := a) h (by have := HGL.out; omega)
              rw [← HGG.out] at this
              exact this
            have HLEN := Lib.hid (idGot_len s.space s.life s.G a)
            generalize idNum s.space s.life s.G a = nn at *
            generalize idErr s.space s.life s.G a = ee at *
            generalize idGot s.space s.life s.G a = GG at *
            have c1 := HOa.out.cell HCA.out (by simp)
            go_wp2_with fail
            generalize wr.alloc (.cells #[.int .i64 2, .int .i64 T, .int .i64 a, .int .i64 b] 82) = W1 at *
            have hI1 := HI.out.only HOa.out.drew
            have HI1 := Lib.hid hI1
            have c2 := HOa.out.cell HCR.out (by simp)
            have x0 : W1.cell? ⟨wr.heap.size, 0, none⟩ = some (.int .i64 2) := HX.out.cell 0
            have x2 : W1.cell? ⟨wr.heap.size, 2, none⟩ = some (.int .i64 a) := HX.out.cell 2
            clear hI1
            have ht0 : (0 : Int) ≤ (t : Int) := by omega
            have ht2 : (t : Int) < 2 := by omega
            have ht3 : (t : Int).toNat = t := by omega
            go_region_held3 (fun w' => w'.cell? ⟨wr.heap.size, 2, none⟩ = some (.int .i64 a) ∧ w'.cell? ⟨BA, t, none⟩ = some (.pointer (some ⟨s.S, 0, none⟩))) (first | go_keep | assumption) (first
              | (go_at_call 48; refine (HNA.out _ (HI1.out.s t s ht HOT.out).1).mono ?_; rintro e W2 ⟨rfl, F2, q2, o2, f2⟩; have x22 := o2.cell (p := ⟨wr.heap.size, 2, none⟩) (show W1.drew.cell? ⟨wr.heap.size, 2, none⟩ = _ from x2) HXA.out; have c21 := o2.cell (p := ⟨BA, t, none⟩) (show W1.drew.cell? ⟨BA, t, none⟩ = _ from c1) HBA.out; have x20 := o2.cell (p := ⟨wr.heap.size, 0, none⟩) (show W1.drew.cell? ⟨wr.heap.size, 0, none⟩ = _ from x0) HXA.out; have c22 := o2.cell (p := ⟨BR, t, none⟩) (show W1.drew.cell? ⟨BR, t, none⟩ = _ from c2) HBR.out; have HI2 := Lib.hid (HI1.out.callA ht HOT.out q2 o2 f2); clear q2 o2 f2))
            clear HI1 c1 c2 x0 x2 c21
            have HOT2 := Lib.hid (upd_same o t { s with F := F2, G := GG })
            go_wp2_with fail
            go_region_held3 (fun w' => w'.cell? ⟨wr.heap.size, 2, none⟩ = some (.int .i64 a) ∧ w'.cell? ⟨BR, t, none⟩ = some (.pointer (some ⟨s.R, 0, none⟩))) (first | go_keep | assumption) (first
              | (go_at_call 49; refine (HNR.out _ ((HI2.out.only (Only.refl [] W2).drew).s t _ ht HOT2.out).2).mono ?_; rintro e W3 ⟨rfl, H3, q3, o3, f3⟩; have x32 := o3.cell (p := ⟨wr.heap.size, 2, none⟩) (show W2.drew.cell? ⟨wr.heap.size, 2, none⟩ = _ from x22) HXR.out; have x30 := o3.cell (p := ⟨wr.heap.size, 0, none⟩) (show W2.drew.cell? ⟨wr.heap.size, 0, none⟩ = _ from x20) HXR.out; have c32 := o3.cell (p := ⟨BR, t, none⟩) (show W2.drew.cell? ⟨BR, t, none⟩ = _ from c22) HBR3.out; have HI3 := Lib.hid ((HI2.out.only (Only.refl [] W2).drew).callR ht HOT2.out q3 o3 f3); clear q3 o3 f3))
            have hne : (nn != nn) = false := by simp
            have hnf : (ee != ee) = false := by simp
            clear x22 c22 x20 HI2
            go_wp2_with fail
            go_roundw
            case rel =>
              refine ⟨k + 1, _, by omega, by go_num, ?_, HI3⟩
              rw [upd_upd]
              exact HAL.out.upd_ rfl (by have := HLEN.out; have := HGL.out; rw [HGG.out] at *; simp only; omega)
            case measure => simp [intOf]; omega
          · by_cases hk3 : kind = 3
            · subst hk3
              clear hk2
              clear hk1'
              have hk2' : ((3 : Int) == 2) = false := by decide
              have HNA : Hid (∀ W, SI W s.S (s.S + 1) s.F s.space s.life s.G → Calls Try.prog 50 #[.pointer (some ⟨s.S, 0, none⟩), .int .i64 a] W (SPost W s.S (s.S + 1) s.F s.space s.life s.G (.tuple #[.int .i64 (idBusy s.life s.G a), .int .i64 (idBusyErr s.G a)]))) := fun W h => busy_any h
              have HNR : Hid (∀ W, RS W s.R s.H s.space s.life s.Gr → Calls Try.prog 51 #[.pointer (some ⟨s.R, 0, none⟩), .int .i64 a] W (RSPost W s.R s.H s.space s.life s.Gr (.tuple #[.int .i64 (idBusy s.life s.G a), .int .i64 (idBusyErr s.G a)]))) := fun W h => by
                have := refBusy_any (now := a) h (by have := HGL.out; omega)
                rw [HGG.out]
                exact this
              generalize idBusy s.life s.G a = nn at *
              generalize idBusyErr s.G a = ee at *
              have c1 := HOa.out.cell HCA.out (by simp)
              go_wp2_with fail
              generalize wr.alloc (.cells #[.int .i64 3, .int .i64 T, .int .i64 a, .int .i64 b] 82) = W1 at *
              have hI1 := HI.out.only HOa.out.drew
              have HI1 := Lib.hid hI1
              have c2 := HOa.out.cell HCR.out (by simp)
              have x0 : W1.cell? ⟨wr.heap.size, 0, none⟩ = some (.int .i64 3) := HX.out.cell 0
              have x2 : W1.cell? ⟨wr.heap.size, 2, none⟩ = some (.int .i64 a) := HX.out.cell 2
              clear hI1
              have ht0 : (0 : Int) ≤ (t : Int) := by omega
              have ht2 : (t : Int) < 2 := by omega
              have ht3 : (t : Int).toNat = t := by omega
              go_region_held3 (fun w' => w'.cell? ⟨wr.heap.size, 2, none⟩ = some (.int .i64 a) ∧ w'.cell? ⟨BA, t, none⟩ = some (.pointer (some ⟨s.S, 0, none⟩))) (first | go_keep | assumption) (first
                | (go_at_call 50; refine (HNA.out _ (HI1.out.s t s ht HOT.out).1).mono ?_; rintro e W2 ⟨rfl, F2, q2, o2, f2⟩; have x22 := o2.cell (p := ⟨wr.heap.size, 2, none⟩) (show W1.drew.cell? ⟨wr.heap.size, 2, none⟩ = _ from x2) HXA.out; have c21 := o2.cell (p := ⟨BA, t, none⟩) (show W1.drew.cell? ⟨BA, t, none⟩ = _ from c1) HBA.out; have x20 := o2.cell (p := ⟨wr.heap.size, 0, none⟩) (show W1.drew.cell? ⟨wr.heap.size, 0, none⟩ = _ from x0) HXA.out; have c22 := o2.cell (p := ⟨BR, t, none⟩) (show W1.drew.cell? ⟨BR, t, none⟩ = _ from c2) HBR.out; have HI2 := Lib.hid (HI1.out.callA ht HOT.out q2 o2 f2); clear q2 o2 f2))
              clear HI1 c1 c2 x0 x2 c21
              have HOT2 := Lib.hid (upd_same o t { s with F := F2, G := s.G })
              go_wp2_with fail
              go_region_held3 (fun w' => w'.cell? ⟨wr.heap.size, 2, none⟩ = some (.int .i64 a) ∧ w'.cell? ⟨BR, t, none⟩ = some (.pointer (some ⟨s.R, 0, none⟩))) (first | go_keep | assumption) (first
                | (go_at_call 51; refine (HNR.out _ ((HI2.out.only (Only.refl [] W2).drew).s t _ ht HOT2.out).2).mono ?_; rintro e W3 ⟨rfl, H3, q3, o3, f3⟩; have x32 := o3.cell (p := ⟨wr.heap.size, 2, none⟩) (show W2.drew.cell? ⟨wr.heap.size, 2, none⟩ = _ from x22) HXR.out; have x30 := o3.cell (p := ⟨wr.heap.size, 0, none⟩) (show W2.drew.cell? ⟨wr.heap.size, 0, none⟩ = _ from x20) HXR.out; have c32 := o3.cell (p := ⟨BR, t, none⟩) (show W2.drew.cell? ⟨BR, t, none⟩ = _ from c22) HBR3.out; have HI3 := Lib.hid ((HI2.out.only (Only.refl [] W2).drew).callR ht HOT2.out q3 o3 f3); clear q3 o3 f3))
              have hne : (nn != nn) = false := by simp
              have hnf : (ee != ee) = false := by simp
              clear x22 c22 x20 HI2
              go_wp2_with fail
              go_roundw
              case rel =>
                refine ⟨k + 1, _, by omega, by go_num, ?_, HI3⟩
                rw [upd_upd]
                exact HAL.out.upd_ HGG.out (by have := HGL.out; simp only; omega)
              case measure => simp [intOf]; omega
            · have hk2' : (kind == 2) = false := by simpa using hk2
              have hk3' : (kind == 3) = false := by simpa using hk3
              have c1 := HOa.out.cell HCA.out (by simp)
              clear hk2 hk3
              go_wp2_with fail
              go_roundw
              case rel => exact ⟨k + 1, o, by omega, by go_num, HAL.out.up, HI.out.only HOa.out⟩
              case measure => simp [intOf]; omega
    · go_wp2_with fail
      go_ret
      exact ⟨rfl, HI.out.sep.o.below (Nat.le_refl _) (by simp)⟩
end Go.Proofs.Ytjlnkfbhbiinoaa
