/-
  NatParts, plain: the order in which the fragments go is a reordering.
-/
import Derived.Test.YtofomopdaponbaaGreatDoorZai
import Derived.Test.YtofomopdaponbaaGreatDoorZaf
import Derived.Test.YtofomopdaponbaaGreatDoorYNpl
import Derived.Test.YtofomopdaponbaaGreatDoorZl
import Derived.Test.YtofomopdaponbaaGreatDoorYNpg
namespace Go.Proofs.YtofomopdaponbaaGreatDoor
set_option linter.unusedVariables false
set_option linter.unusedSimpArgs false

theorem turn_range {m c : Nat} (hm : 0 < m) : ((List.range m).map (fun j => (j + c) % m)).Perm (List.range m) := by
  have hc : c % m < m := Nat.mod_lt _ hm
  have e1 : (List.range m).map (fun j => (j + c) % m) = (List.range (m - c % m)).map (fun j => c % m + j) ++ List.range (c % m) := by
    refine List.ext_getElem (by simp; omega) (fun j h1 h2 => ?_)
    simp only [List.length_map, List.length_range] at h1
    rw [List.getElem_map, List.getElem_range]
    have hmod : (j + c) % m = (j + c % m) % m := by rw [Nat.add_mod, Nat.mod_eq_of_lt h1]
    by_cases hj : j < m - c % m
    · rw [List.getElem_append_left (by simpa using hj), List.getElem_map, List.getElem_range, hmod, Nat.mod_eq_of_lt (by omega)]
      omega
    · rw [List.getElem_append_right (by simpa using hj), List.getElem_range, hmod, Nat.mod_eq_sub_mod (by omega), Nat.mod_eq_of_lt (by omega)]
      simp
      omega
  have e2 : List.range m = List.range (c % m) ++ (List.range (m - c % m)).map (fun j => c % m + j) := by
    rw [← List.range_add]
    congr 1
    omega
  rw [e1]
  conv => rhs; rw [e2]
  exact List.perm_append_comm
/-- Which fragment goes at the i-th turn. -/
def kOf (n : Nat) (c : Option Nat) (i : Nat) : Nat := if i = 0 then 0 else match c with | none => i | some c => 1 + (i + c) % (n - 1)
theorem kOf_lt {n i : Nat} {c : Option Nat} (hn : 2 ≤ n) (hi : i < n) : kOf n c i < n := by
  unfold kOf
  split
  · omega
  · cases c with
    | none => exact hi
    | some c =>
      show 1 + (i + c) % (n - 1) < n
      have := Nat.mod_lt (i + c) (show 0 < n - 1 by omega)
      omega
theorem kOf_perm {n : Nat} {c : Option Nat} (hn : 2 ≤ n) : ((List.range n).map (kOf n c)).Perm (List.range n) := by
  obtain ⟨m, rfl⟩ : ∃ m, n = m + 1 := ⟨n - 1, by omega⟩
  rw [List.range_succ_eq_map, List.map_cons, List.map_map]
  have h0 : kOf (m + 1) c 0 = 0 := rfl
  rw [h0]
  refine List.Perm.cons 0 ?_
  cases c with
  | none =>
    have : (List.range m).map (kOf (m + 1) none ∘ Nat.succ) = (List.range m).map Nat.succ := List.map_congr_left (fun i _ => rfl)
    rw [this]
  | some c =>
    have : (List.range m).map (kOf (m + 1) (some c) ∘ Nat.succ) = ((List.range m).map (fun j => (j + (c + 1)) % m)).map Nat.succ := by
      rw [List.map_map]
      refine List.map_congr_left (fun i _ => ?_)
      show 1 + (i + 1 + c) % (m + 1 - 1) = (i + (c + 1)) % m + 1
      rw [show i + 1 + c = i + (c + 1) by omega, Nat.add_sub_cancel, Nat.add_comm]
    rw [this]
    exact (turn_range (by omega)).map _
theorem list_of_range {α : Type} (d : α) (P : List α) : (List.range P.length).map (fun k => P.getD k d) = P := by
  refine List.ext_getElem (by simp) (fun j h1 h2 => ?_)
  rw [List.getElem_map, List.getElem_range, List.getD_eq_getElem?_getD, List.getElem?_eq_getElem h2]
  rfl
theorem turns_perm {α : Type} (d : α) {P : List α} {c : Option Nat} (hn : 2 ≤ P.length) : ((List.range P.length).map (fun i => P.getD (kOf P.length c i) d)).Perm P := by
  have h := (kOf_perm (c := c) hn).map (fun k => P.getD k d)
  rw [list_of_range, List.map_map] at h
  exact h
end Go.Proofs.YtofomopdaponbaaGreatDoor
/-
  NatParts, plain: each fragment's way through the nat.
-/
namespace Go.Proofs.YtofomopdaponbaaGreatDoor
set_option linter.unusedVariables false
set_option linter.unusedSimpArgs false

/-- A datagram that is cut: a whole packet of version 4 without options. -/
structure Dgm (p : Pk) (q n : Nat) : Prop where
  ok : okPk p
  rt : rightP p = true
  id : 0 ≤ p.id
  op : p.opts = []
  off : p.off = 0
  more : p.more = false
  proto : p.proto = 17
  q8 : q % 8 = 0
  le8 : 8 ≤ q
  n0 : 0 < n
  nq : n * q < p.data.length
theorem Dgm.laid {p x : Pk} {q n : Nat} (h : Dgm p q n) (hx : x ∈ piecesP p q n) : parseE (packL x) = 0 ∧ parseP (packL x) = x ∧ headL (packL x) = 20 ∧ (packL x).length = 20 + x.data.length :=
  piece_laid h.ok h.rt h.id h.op h.q8 h.le8 h.more h.nq hx
theorem Dgm.qle {p : Pk} {q n : Nat} (h : Dgm p q n) : q < p.data.length := by
  have h1 : 1 * q ≤ n * q := Nat.mul_le_mul_right _ h.n0
  have := h.nq
  omega
theorem Dgm.mem0 {p : Pk} {q n : Nat} (h : Dgm p q n) : pieceP p q 0 ∈ piecesP p q n := by
  unfold piecesP
  exact List.mem_append_left _ (List.mem_map.2 ⟨0, List.mem_range.2 h.n0, rfl⟩)
theorem Dgm.same {p x : Pk} {q n : Nat} (h : Dgm p q n) (hx : x ∈ piecesP p q n) : okPk x ∧ kyP x = kyP p ∧ x.proto = p.proto ∧ x.src = p.src ∧ x.dst = p.dst ∧ x.v = p.v ∧ x.id = p.id ∧ x.opts = p.opts := by
  have := (rgt_of h.rt).len
  exact pieces_same h.ok (by omega) h.nq x hx
theorem Dgm.offs {p : Pk} {q n i : Nat} (h : Dgm p q n) (hi : i < (piecesP p q n).length) (h0 : 0 < i) : 0 < (piecesP p q n)[i].off := by
  have hi' : 1 * q ≤ i * q := Nat.mul_le_mul_right _ h0
  have := h.le8
  rw [pieces_get hi]
  split
  · show (0 : Int) < ((i * q : Nat) : Int); omega
  · have hl : i < n + 1 := by rw [← pieces_len (p := p) (q := q)]; exact hi
    have : i = n := by omega
    subst this
    show (0 : Int) < ((i * q : Nat) : Int); omega
theorem gonePs_zero {k : Nat} {a : Ad} {port : Int} {P : List Pk} (h : 0 < P.length) : (gonePs k a port P)[0]? = some (goneP k a port (P[0])) := by
  cases P with
  | nil => simp at h
  | cons x z => rfl
theorem gonePs_succ {k i : Nat} {a : Ad} {port : Int} {P : List Pk} (h : i < P.length) (h0 : 0 < i) : (gonePs k a port P)[i]? = some (addrP k a P[i]) := by
  cases P with
  | nil => simp at h
  | cons x z =>
    obtain ⟨j, rfl⟩ : ∃ j, i = j + 1 := ⟨i - 1, by omega⟩
    have hj : j < z.length := by simpa using h
    simp [gonePs, hj]
/-- What the nat lays of the i-th fragment. -/
def ansL (k : Nat) (a : Ad) (port : Int) (p : Pk) (q n i : Nat) : List UInt8 := if i = 0 then endL (packL ((piecesP p q n).getD i p)) k a port 20 else addressL (packL ((piecesP p q n).getD i p)) k a
theorem ans_parsed {k i q n : Nat} {a : Ad} {port : Int} {p : Pk} (hk : k = 12 ∨ k = 16) (h : Dgm p q n) (ha : Is4 a) (hi : i < n + 1) :
    parseE (ansL k a port p q n i) = 0 ∧ (gonePs k a port (piecesP p q n))[i]? = some (parseP (ansL k a port p q n i)) := by
  have hl : i < (piecesP p q n).length := by rw [pieces_len]; exact hi
  have hm := List.getElem_mem hl
  obtain ⟨e1, e2, e3, -⟩ := h.laid hm
  have eg : (piecesP p q n).getD i p = (piecesP p q n)[i] := by rw [List.getD_eq_getElem?_getD, List.getElem?_eq_getElem hl]; rfl
  unfold ansL
  rw [eg]
  by_cases h0 : i = 0
  · subst h0
    obtain ⟨f1, f2, f3⟩ := end_fields (port := port) hk e1 e3 e2 ha
    rw [if_pos rfl, gonePs_zero hl]
    refine ⟨f1, congrArg some ?_⟩
    rcases hk with rfl | rfl
    · rw [f2 rfl]; rfl
    · rw [f3 rfl]; rfl
  · obtain ⟨f1, f2, f3⟩ := addr_fields hk e1 e3 e2 ha
    rw [if_neg h0, gonePs_succ hl (by omega)]
    refine ⟨f1, congrArg some ?_⟩
    rcases hk with rfl | rfl
    · rw [f2 rfl]; rfl
    · rw [f3 rfl]; rfl
/-- Out: the first fragment, whatever of the datagram is known; the others once it is. -/
theorem out_frag {p : Pk} {q n i : Nat} {sp : Int} {ms : List Nm} {os is : List Nt} (h : Dgm p q n) (hs : insideA (wideC 255) p.src = true) (hd : outsideA (wideC 255) p.dst = true) (hw : wordL p.data 0 = sp) (hi : i < n + 1)
    (hm : ms = [⟨p.src, sp, 4000, 0⟩] ∨ (i = 0 ∧ ms = [])) (ho : os = [⟨kyP p, p.src, 0⟩] ∨ (i = 0 ∧ os = [])) (his : ∀ x ∈ is, x.from_ = 0) :
    outS (nS ms os is) 0 (packL ((piecesP p q n).getD i p)) = (0, ansL 12 (fourD 192 0 2 1) 4000 p q n i, nS [⟨p.src, sp, 4000, 0⟩] [⟨kyP p, p.src, 0⟩] is) := by
  have hl : i < (piecesP p q n).length := by rw [pieces_len]; exact hi
  have hmm := List.getElem_mem hl
  obtain ⟨e1, e2, e3, -⟩ := h.laid hmm
  obtain ⟨-, s2, s3, s4, s5, -, -, -⟩ := h.same hmm
  have eg : (piecesP p q n).getD i p = (piecesP p q n)[i] := by rw [List.getD_eq_getElem?_getD, List.getElem?_eq_getElem hl]; rfl
  have hmu : ∀ m ∈ ms, m.used = 0 := by rcases hm with rfl | ⟨-, rfl⟩ <;> simp
  have hof : ∀ x ∈ os, x.from_ = 0 := by rcases ho with rfl | ⟨-, rfl⟩ <;> simp
  unfold ansL
  rw [eg, out_nS hmu hof his e1, e2]
  by_cases h0 : i = 0
  · subst h0
    rw [if_pos rfl]
    have hq := h.qle
    have h8 := h.le8
    have hx0 : (piecesP p q n)[0] = pieceP p q 0 := by rw [pieces_get hl, if_pos h.n0]
    have hdx : (piecesP p q n)[0].data = p.data.take q := by rw [hx0]; simp [pieceP]
    have hmo : (piecesP p q n)[0].more = true := by rw [hx0]; rfl
    have hof0 : (piecesP p q n)[0].off = 0 := by rw [hx0]; simp [pieceP]
    have hO := out_head (ms := ms) (os := os) (is := is) (x := (piecesP p q n)[0]) (l := packL (piecesP p q n)[0]) (sp := sp) e3 (s3.trans h.proto) hof0 (by rw [hdx, List.length_take]; omega) (s4 ▸ hs) (s5 ▸ hd) (by rw [hdx, wordL_take (by omega)]; exact hw) (by rw [s4]; rcases hm with h | ⟨-, h⟩; exact .inr h; exact .inl h)
    rw [hO, hmo, if_pos rfl, s2, s4, noted_one (by rcases ho with h | ⟨-, h⟩; exact .inr h; exact .inl h)]
  · rw [if_neg h0]
    rcases hm with rfl | ⟨h, -⟩
    rotate_left
    · exact absurd h h0
    rcases ho with rfl | ⟨h, -⟩
    rotate_left
    · exact absurd h h0
    rw [← s2]
    exact out_tail (s3.trans h.proto) (h.offs hl (by omega)) (s4 ▸ hs) (s5 ▸ hd)
/-- In: the same. -/
theorem came_frag {p : Pk} {q n i : Nat} {sp : Int} {a : Ad} {os is : List Nt} (h : Dgm p q n) (hs : outsideA (wideC 255) p.src = true) (hd : p.dst = fourD 192 0 2 1) (hw : wordL p.data 2 = 4000) (hi : i < n + 1)
    (hi' : is = [⟨kyP p, a, 0⟩] ∨ (i = 0 ∧ is = [])) (hos : ∀ x ∈ os, x.from_ = 0) :
    cameS (nS [⟨a, sp, 4000, 0⟩] os is) 0 (packL ((piecesP p q n).getD i p)) = (0, ansL 16 a sp p q n i, nS [⟨a, sp, 4000, 0⟩] os [⟨kyP p, a, 0⟩]) := by
  have hl : i < (piecesP p q n).length := by rw [pieces_len]; exact hi
  have hmm := List.getElem_mem hl
  obtain ⟨e1, e2, e3, -⟩ := h.laid hmm
  obtain ⟨-, s2, s3, s4, s5, -, -, -⟩ := h.same hmm
  have eg : (piecesP p q n).getD i p = (piecesP p q n)[i] := by rw [List.getD_eq_getElem?_getD, List.getElem?_eq_getElem hl]; rfl
  have hif : ∀ x ∈ is, x.from_ = 0 := by rcases hi' with rfl | ⟨-, rfl⟩ <;> simp
  unfold ansL
  rw [eg, came_nS (by simp) hos hif e1, e2]
  by_cases h0 : i = 0
  · subst h0
    rw [if_pos rfl]
    have hq := h.qle
    have h8 := h.le8
    have hx0 : (piecesP p q n)[0] = pieceP p q 0 := by rw [pieces_get hl, if_pos h.n0]
    have hdx : (piecesP p q n)[0].data = p.data.take q := by rw [hx0]; simp [pieceP]
    have hmo : (piecesP p q n)[0].more = true := by rw [hx0]; rfl
    have hof0 : (piecesP p q n)[0].off = 0 := by rw [hx0]; simp [pieceP]
    have hO := came_head (os := os) (is := is) (x := (piecesP p q n)[0]) (l := packL (piecesP p q n)[0]) (sp := sp) (a := a) e3 (s3.trans h.proto) hof0 (by rw [hdx, List.length_take]; omega) (s4 ▸ hs) (s5.trans hd) (by rw [hdx, wordL_take (by omega)]; exact hw)
    rw [hO, hmo, if_pos rfl, s2, noted_one (by rcases hi' with h | ⟨-, h⟩; exact .inr h; exact .inl h)]
  · rw [if_neg h0]
    rcases hi' with rfl | ⟨h, -⟩
    rotate_left
    · exact absurd h h0
    rw [← s2]
    exact came_tail (s3.trans h.proto) (h.offs hl (by omega)) (s4 ▸ hs) (s5.trans hd)
end Go.Proofs.YtofomopdaponbaaGreatDoor
/-
  NatParts, plain: the fragments that went through, as recut.Join takes them.
-/
namespace Go.Proofs.YtofomopdaponbaaGreatDoor
set_option linter.unusedVariables false
set_option linter.unusedSimpArgs false

theorem kOf_inj {n i j : Nat} {c : Option Nat} (hn : 2 ≤ n) (hi : i < n) (hj : j < n) (h : kOf n c i = kOf n c j) : i = j := by
  have hnd : ((List.range n).map (kOf n c)).Nodup := (kOf_perm (c := c) hn).nodup_iff.2 List.nodup_range
  have key : ∀ a b, a < b → b < n → kOf n c a ≠ kOf n c b := fun a b hab hb => by
    have := List.pairwise_iff_getElem.1 hnd a b (by simp; omega) (by simp; omega) hab
    simpa using this
  rcases Nat.lt_trichotomy i j with h1 | h1 | h1
  · exact absurd h (key i j h1 hj)
  · exact h1
  · exact absurd h.symm (key j i h1 hi)
theorem kOf_ex {n k : Nat} {c : Option Nat} (hn : 2 ≤ n) (hk : k < n) : ∃ e, e < n ∧ kOf n c e = k := by
  have := (kOf_perm (c := c) hn).mem_iff.2 (List.mem_range.2 hk)
  obtain ⟨e, he, h⟩ := List.mem_map.1 this
  exact ⟨e, List.mem_range.1 he, h⟩
theorem gone_get {k i q n : Nat} {a : Ad} {port : Int} {p : Pk} (h : Dgm p q n) (hi : i < n + 1) :
    ∃ g, (gonePs k a port (piecesP p q n))[i]? = some g ∧ g.more = decide (i ≠ n) ∧ g.v = p.v ∧ kyP g = kyP (addrP k a p) ∧ g.off + g.data.length = if i = n then (p.data.length : Int) else ((i * q + q : Nat) : Int) := by
  have hl : i < (piecesP p q n).length := by rw [pieces_len]; exact hi
  have hg := pieces_get hl
  have hnq := h.nq
  have base : ∀ x, x = (piecesP p q n)[i] → x.more = decide (i ≠ n) ∧ x.v = p.v ∧ kyP (addrP k a x) = kyP (addrP k a p) ∧ x.off + x.data.length = if i = n then (p.data.length : Int) else ((i * q + q : Nat) : Int) := by
    intro x hx
    rw [hx, hg]
    by_cases hin : i < n
    · have hle : (i + 1) * q ≤ n * q := Nat.mul_le_mul_right _ hin
      rw [Nat.succ_mul] at hle
      rw [if_pos hin, if_neg (show ¬ i = n by omega)]
      refine ⟨by rw [show (pieceP p q i).more = true from rfl]; simp; omega, rfl, by unfold addrP; split <;> rfl, ?_⟩
      simp only [pieceP, List.length_take, List.length_drop]
      omega
    · obtain rfl : i = n := by omega
      rw [if_neg hin, if_pos rfl]
      refine ⟨by rw [show (lastP p q i).more = p.more from rfl, h.more]; simp, rfl, by unfold addrP; split <;> rfl, ?_⟩
      simp only [lastP, List.length_drop]
      omega
  obtain ⟨b1, b2, b3, b4⟩ := base _ rfl
  have ha := addrP_off (k := k) (a := a) (x := (piecesP p q n)[i])
  by_cases h0 : i = 0
  · subst h0
    refine ⟨_, gonePs_zero hl, ha.2.2.1.trans b1, ha.2.2.2.1.trans b2, b3, ?_⟩
    rw [← b4]
    show (addrP k a _).off + ((turnD _ _ _ _ _).length : Int) = _
    rw [ha.1, turnD_len]
  · refine ⟨_, gonePs_succ hl (by omega), ha.2.2.1.trans b1, ha.2.2.2.1.trans b2, b3, ?_⟩
    rw [← b4, ha.1, ha.2.1]
/-- What recut.Join asks, of all fragments behind the nat in the order of kOf. -/
theorem frags_gone {k q n : Nat} {c : Option Nat} {a : Ad} {port : Int} {p : Pk} {z : List Pl} (hk : k = 12 ∨ k = 16) (h : Dgm p q n) (ha : Is4 a) (hz : z.map (·.p) = (List.range (n + 1)).map (fun i => parseP (ansL k a port p q n (kOf (n + 1) c i)))) :
    ∃ e, ∃ he : e < z.length, z.length = n + 1 ∧ Frags z (kyP (addrP k a p)) e ∧ okKy (kyP (addrP k a p)) ∧ (z.map (·.p)).Perm (gonePs k a port (piecesP p q n)) ∧ z[e].p.off + z[e].p.data.length = p.data.length := by
  have hn2 : 2 ≤ n + 1 := by have := h.n0; omega
  have hzl : z.length = n + 1 := by have := congrArg List.length hz; simpa using this
  have hzi : ∀ i (hi : i < z.length), z[i].p = parseP (ansL k a port p q n (kOf (n + 1) c i)) := fun i hi => by
    have h1 : (z.map (·.p))[i]? = ((List.range (n + 1)).map (fun i => parseP (ansL k a port p q n (kOf (n + 1) c i))))[i]? := by rw [hz]
    have h2 : i < n + 1 := by omega
    simpa [hi, h2] using h1
  have hv4 : p.v = 4 := by
    have := h.rt
    unfold rightP at this
    simp only [Bool.and_eq_true, decide_eq_true_eq] at this
    exact this.1.1.1.1.1.1.1.1.1.1.1
  have each : ∀ i (hi : i < z.length), Parsed (ansL k a port p q n (kOf (n + 1) c i)) ∧ z[i].p.more = decide (kOf (n + 1) c i ≠ n) ∧ z[i].p.v = p.v ∧ kyP z[i].p = kyP (addrP k a p) ∧ z[i].p.off + z[i].p.data.length = if kOf (n + 1) c i = n then (p.data.length : Int) else ((kOf (n + 1) c i * q + q : Nat) : Int) := fun i hi => by
    have hkl := kOf_lt (c := c) hn2 (show i < n + 1 by omega)
    obtain ⟨g, hg, g1, g2, g3, g4⟩ := gone_get (k := k) (a := a) (port := port) h hkl
    obtain ⟨f1, f2⟩ := ans_parsed (port := port) hk h ha hkl
    rw [hg] at f2
    have : g = z[i].p := (Option.some.inj f2).trans (hzi i hi).symm
    subst this
    exact ⟨parse_ok f1, g1, g2, g3, g4⟩
  obtain ⟨e, he, hke⟩ := kOf_ex (c := c) hn2 (show n < n + 1 by omega)
  have he' : e < z.length := by omega
  refine ⟨e, he', hzl, ⟨fun x hx => ?_, fun x hx => ?_, fun x hx => ?_, fun i hi => ?_⟩, ?_, ?_, ?_⟩
  · obtain ⟨i, hi, rfl⟩ := List.getElem_of_mem hx
    exact (each i hi).2.2.1.trans hv4
  · obtain ⟨i, hi, rfl⟩ := List.getElem_of_mem hx
    have hp := (each i hi).1
    have := hp.head
    have := hp.h20
    rw [hzi i hi]
    omega
  · obtain ⟨i, hi, rfl⟩ := List.getElem_of_mem hx
    exact (each i hi).2.2.2.1
  · rw [(each i hi).2.1, decide_eq_decide]
    constructor
    · intro h1 h2
      exact h1 (h2 ▸ hke)
    · intro h1 h2
      exact h1 (kOf_inj hn2 (by omega) he (h2.trans hke.symm))
  · have h1 := (each e he').1.key
    have h2 := (each e he').2.2.2.1
    rw [hzi e he'] at h2
    rwa [h2] at h1
  · rw [hz]
    have hlen : (gonePs k a port (piecesP p q n)).length = n + 1 := by rw [gonePs_len, pieces_len]
    have hp := turns_perm (d := p) (P := gonePs k a port (piecesP p q n)) (c := c) (by omega)
    rw [hlen] at hp
    have e1 : (List.range (n + 1)).map (fun i => parseP (ansL k a port p q n (kOf (n + 1) c i))) = (List.range (n + 1)).map (fun i => (gonePs k a port (piecesP p q n)).getD (kOf (n + 1) c i) p) := by
      refine List.map_congr_left (fun i hi => ?_)
      have hkl := kOf_lt (c := c) hn2 (List.mem_range.1 hi)
      rw [List.getD_eq_getElem?_getD, (ans_parsed (port := port) hk h ha hkl).2]
      rfl
    rw [e1]
    exact hp
  · have := (each e he').2.2.2.2
    rwa [if_pos hke] at this
end Go.Proofs.YtofomopdaponbaaGreatDoor
/-
  NatParts, plain: the fragments that went through, joined, are the packet that went through.
-/
namespace Go.Proofs.YtofomopdaponbaaGreatDoor
set_option linter.unusedVariables false
set_option linter.unusedSimpArgs false

theorem gone_whole {k q n : Nat} {a : Ad} {port : Int} {p : Pk} (h : Dgm p q n) :
    ∀ h0 : 0 < (gonePs k a port (piecesP p q n)).length, goneP k a port p = { (gonePs k a port (piecesP p q n))[0] with more := false, data := turnD (wasP k p) p.data ((k - 12) / 2) a port } := by
  intro h0
  have hl : 0 < (piecesP p q n).length := by rw [pieces_len]; omega
  have hg := gonePs_zero (k := k) (a := a) (port := port) hl
  rw [List.getElem?_eq_getElem h0] at hg
  rw [Option.some.inj hg, pieces_get hl, if_pos h.n0]
  have ho := h.off
  have hm := h.more
  unfold goneP addrP pieceP
  obtain ⟨v, tos, flow, src, dst, proto, ttl, id, df, more, frag, off, opts, data⟩ := p
  dsimp only at ho hm ⊢
  subst ho
  subst hm
  split
  · simp
  · simp
theorem gone_parsed {k q n : Nat} {a : Ad} {port : Int} {p : Pk} {l : List UInt8} (hk : k = 12 ∨ k = 16) (he : parseE l = 0) (hH : headL l = 20) (hx : parseP l = p) (ha : Is4 a) :
    parseE (endL l k a port 20) = 0 ∧ parseP (endL l k a port 20) = goneP k a port p ∧ headP (goneP k a port p) ≠ 0 := by
  obtain ⟨f1, f2, f3⟩ := end_fields (port := port) hk he hH hx ha
  have e : parseP (endL l k a port 20) = goneP k a port p := by
    rcases hk with rfl | rfl
    · rw [f2 rfl]; rfl
    · rw [f3 rfl]; rfl
  have hp := parse_ok f1
  refine ⟨f1, e, ?_⟩
  rw [← e]
  have := hp.head
  have := hp.h20
  omega
end Go.Proofs.YtofomopdaponbaaGreatDoor
/-
  NatParts, plain: the two ways, each in one bundle of facts.
-/
namespace Go.Proofs.YtofomopdaponbaaGreatDoor
set_option linter.unusedVariables false
set_option linter.unusedSimpArgs false

theorem right_id {x : Pk} {j : Int} (h : rightP x = true) (hj : 0 ≤ j ∧ j ≤ 65535) : rightP { x with id := j } = true := by
  unfold rightP at h ⊢
  simp only [Bool.and_eq_true, decide_eq_true_eq] at h ⊢
  obtain ⟨⟨⟨⟨⟨⟨⟨⟨⟨⟨⟨r1, r2⟩, r3⟩, r4⟩, r5⟩, r6⟩, r7⟩, r8⟩, r9⟩, r10⟩, r11⟩, r12⟩ := h
  have hpl : placedP { x with id := j } = placedP x := rfl
  first
    | exact ⟨⟨⟨⟨⟨⟨⟨⟨⟨⟨⟨r1, r2⟩, r3⟩, hj.2⟩, r5⟩, r6⟩, r7⟩, r8⟩, r9⟩, hpl ▸ r10⟩, r11⟩, r12⟩
/-- One way through the nat: the fragments, the whole datagram, a fragment of another one. -/
structure WayP (k : Nat) (a : Ad) (port : Int) (p : Pk) (q n : Nat) (f : NatS → List UInt8 → Int × List UInt8 × NatS) (S0 S1 : NatS) : Prop where
  frag : ∀ i, i < n + 1 → ∀ s, (s = S1 ∨ (i = 0 ∧ s = S0)) → f s (packL ((piecesP p q n).getD i p)) = (0, ansL k a port p q n i, S1)
  whole : f S1 (packL p) = (0, endL (packL p) k a port 20, S1)
  other : f S1 (packL { (piecesP p q n).getD 1 p with id := 79 }) = (301, [], S1)
/-- The other fragment, laid. -/
theorem Dgm.other {p : Pk} {q n : Nat} (h : Dgm p q n) (hid : p.id ≠ 79) : ∃ x, x = { (piecesP p q n).getD 1 p with id := 79 } ∧ okPk x ∧ rightP x = true ∧ x.id = 79 ∧ parseE (packL x) = 0 ∧ parseP (packL x) = x ∧ 0 < x.off ∧ x.proto = 17 ∧ x.src = p.src ∧ x.dst = p.dst ∧ kyP p ≠ kyP x := by
  have hl : 1 < (piecesP p q n).length := by rw [pieces_len]; have := h.n0; omega
  have eg : (piecesP p q n).getD 1 p = (piecesP p q n)[1] := by rw [List.getD_eq_getElem?_getD, List.getElem?_eq_getElem hl]; rfl
  have hm := List.getElem_mem hl
  obtain ⟨s1, s2, s3, s4, s5, -, -, s8⟩ := h.same hm
  have hr := pieces_right h.rt h.q8 h.le8 h.more h.nq _ hm
  have ho := h.offs hl (by omega)
  have hr' := right_id (j := 79) hr (by decide)
  have ok' : okPk { (piecesP p q n)[1] with id := 79 } := ⟨s1.src, s1.dst, s1.off⟩
  obtain ⟨e1, e2, -, -⟩ := pack_any ok' hr' (show (0 : Int) ≤ 79 by decide)
  refine ⟨_, rfl, ?_⟩
  rw [eg]
  exact ⟨ok', hr', rfl, e1, e2, ho, s3.trans h.proto, s4, s5, fun e => hid (congrArg Ky.id e)⟩
theorem way_out {p : Pk} {q n : Nat} {sp : Int} (h : Dgm p q n) (hid : p.id ≠ 79) (hs : insideA (wideC 255) p.src = true) (hd : outsideA (wideC 255) p.dst = true) (hw : wordL p.data 0 = sp) :
    WayP 12 (fourD 192 0 2 1) 4000 p q n (fun s l => outS s 0 l) (nS [] [] []) (nS [⟨p.src, sp, 4000, 0⟩] [⟨kyP p, p.src, 0⟩] []) := by
  have hq := h.qle
  have h8 := h.le8
  refine ⟨fun i hi s hsx => ?_, ?_, ?_⟩
  · rcases hsx with rfl | ⟨rfl, rfl⟩
    · exact out_frag h hs hd hw hi (.inl rfl) (.inl rfl) (by simp)
    · exact out_frag h hs hd hw hi (.inr ⟨rfl, rfl⟩) (.inr ⟨rfl, rfl⟩) (by simp)
  · obtain ⟨e1, e2, e3, -⟩ := pack_any h.ok h.rt h.id
    rw [h.op] at e3
    show outS _ 0 _ = _
    rw [out_nS (by simp) (by simp) (by simp) e1, e2, out_head e3 h.proto h.off (by omega) hs hd hw (.inr rfl), h.more]
    rfl
  · obtain ⟨x, hx, -, -, -, e1, e2, f1, f2, f3, f4, f5⟩ := h.other hid
    rw [← hx]
    show outS _ 0 _ = _
    rw [out_nS (by simp) (by simp) (by simp) e1, e2]
    exact out_other f2 f1 (f3 ▸ hs) (f4 ▸ hd) f5
theorem way_in {p : Pk} {q n : Nat} {sp : Int} {a : Ad} {os : List Nt} (h : Dgm p q n) (hid : p.id ≠ 79) (hs : outsideA (wideC 255) p.src = true) (hd : p.dst = fourD 192 0 2 1) (hw : wordL p.data 2 = 4000) (hos : ∀ x ∈ os, x.from_ = 0) :
    WayP 16 a sp p q n (fun s l => cameS s 0 l) (nS [⟨a, sp, 4000, 0⟩] os []) (nS [⟨a, sp, 4000, 0⟩] os [⟨kyP p, a, 0⟩]) := by
  have hq := h.qle
  have h8 := h.le8
  refine ⟨fun i hi s hsx => ?_, ?_, ?_⟩
  · rcases hsx with rfl | ⟨rfl, rfl⟩
    · exact came_frag h hs hd hw hi (.inl rfl) hos
    · exact came_frag h hs hd hw hi (.inr ⟨rfl, rfl⟩) hos
  · obtain ⟨e1, e2, e3, -⟩ := pack_any h.ok h.rt h.id
    rw [h.op] at e3
    show cameS _ 0 _ = _
    rw [came_nS (by simp) hos (by simp) e1, e2, came_head e3 h.proto h.off (by omega) hs hd hw, h.more]
    rfl
  · obtain ⟨x, hx, -, -, -, e1, e2, f1, f2, f3, f4, f5⟩ := h.other hid
    rw [← hx]
    show cameS _ 0 _ = _
    rw [came_nS (by simp) hos (by simp) e1, e2]
    exact came_other f2 f1 (f3 ▸ hs) (f4.trans hd) f5
theorem okS_nS {ms : List Nm} {os is : List Nt} (hm : ms.length ≤ 1) (ho : os.length ≤ 1) (hi : is.length ≤ 1) (am : ∀ m ∈ ms, okAd m.addr) (ao : ∀ x ∈ os, okKy x.key ∧ okAd x.addr) (ai : ∀ x ∈ is, okKy x.key ∧ okAd x.addr) : okS (nS ms os is) := by
  refine ⟨wideC_ok 9, show (1 : Int) ≤ 4000 by decide, ?_, show (256 : Int) ≤ 256 by decide, show (1 : Int) ≤ 64 ∧ (64 : Int) ≤ 64 by decide, ?_, ?_, ?_, am, ao, ai⟩
  · show 4000 + andI .i64 9 255 ≤ 65535
    have := and255i (x := 9)
    omega
  · show ((ms.length : Nat) : Int) ≤ 256
    omega
  · show ((os.length : Nat) : Int) ≤ 64
    omega
  · show ((is.length : Nat) : Int) ≤ 64
    omega
theorem datagram_is {a b : Ad} {sp dp id : Int} {data : List UInt8} {k : Int} (h1 : 0 ≤ sp ∧ sp ≤ 65535) (h2 : 0 ≤ dp ∧ dp ≤ 65535) (hl : data.length ≤ 65000) :
    ∃ D, datagramL a b sp dp data k id = packL (dgPk a b id D) ∧ D.length = 8 + data.length ∧ wordL D 0 = sp ∧ wordL D 2 = dp :=
  ⟨kindL (datL a b ⟨sp, dp, k == 1, data⟩) k, rfl, by rw [kindL_len]; exact datL_len _ _ _, kindL_words.1.trans (datL_words h1 h2 (by omega)).1, kindL_words.2.trans (datL_words h1 h2 (by omega)).2⟩
theorem ans_len {k i q n : Nat} {a : Ad} {port : Int} {p : Pk} : (ansL k a port p q n i).length = (packL ((piecesP p q n).getD i p)).length := by
  unfold ansL
  split
  · rw [endL_len]
  · rw [addressL_len]
theorem turnD_word {was a : Ad} {d : List UInt8} {j : Nat} {port : Int} (hj : j = 0 ∨ j = 2) (hd : 8 ≤ d.length) (hp : 0 ≤ port ∧ port ≤ 65535) : wordL (turnD was d j a port) j = port := by
  have hpp : p16 port = port := by unfold p16; omega
  unfold turnD udpL
  rw [hpp]
  split
  · rw [wordL_setW (by omega) hp.1 hp.2]
  · rw [wordL_setW_ne (by omega), wordL_setW (by omega) hp.1 hp.2]
theorem ans_data {k i q n : Nat} {a : Ad} {port : Int} {p : Pk} (hk : k = 12 ∨ k = 16) (h : Dgm p q n) (ha : Is4 a) (hi : i < n + 1) :
    0 < (parseP (ansL k a port p q n i)).data.length ∧ (parseP (ansL k a port p q n i)).data.length ≤ 65535 ∧ (i = 0 → 8 ≤ (parseP (ansL k a port p q n i)).data.length ∧ (0 ≤ port ∧ port ≤ 65535 → wordL (parseP (ansL k a port p q n i)).data ((k - 12) / 2) = port)) := by
  have hl : i < (piecesP p q n).length := by rw [pieces_len]; exact hi
  have hm := List.getElem_mem hl
  have hR := rgt_of (pieces_right h.rt h.q8 h.le8 h.more h.nq _ hm)
  have hRl := hR.len
  have hpd : 0 < (piecesP p q n)[i].data.length := by
    rw [pieces_get hl]
    have hnq := h.nq
    have h8 := h.le8
    split
    · rename_i hin
      have : (i + 1) * q ≤ n * q := Nat.mul_le_mul_right _ (by omega)
      rw [Nat.succ_mul] at this
      simp only [pieceP, List.length_take, List.length_drop]
      omega
    · simp only [lastP, List.length_drop]
      omega
  obtain ⟨f1, f2⟩ := ans_parsed (port := port) hk h ha hi
  by_cases h0 : i = 0
  · subst h0
    rw [gonePs_zero hl] at f2
    rw [← Option.some.inj f2]
    have hx0 : (piecesP p q n)[0] = pieceP p q 0 := by rw [pieces_get hl, if_pos h.n0]
    have hdx : (piecesP p q n)[0].data = p.data.take q := by rw [hx0]; simp [pieceP]
    have hq := h.qle
    have h8 := h.le8
    have hl8 : 8 ≤ (piecesP p q n)[0].data.length := by rw [hdx, List.length_take]; omega
    have e : (goneP k a port (piecesP p q n)[0]).data = turnD (wasP k (piecesP p q n)[0]) (piecesP p q n)[0].data ((k - 12) / 2) a port := rfl
    rw [e, turnD_len]
    exact ⟨hpd, by omega, fun _ => ⟨hl8, fun hp => turnD_word (by rcases hk with rfl | rfl; exact .inl rfl; exact .inr rfl) hl8 hp⟩⟩
  · rw [gonePs_succ hl (by omega)] at f2
    rw [← Option.some.inj f2, (addrP_off (k := k) (a := a) (x := (piecesP p q n)[i])).2.1]
    exact ⟨hpd, by omega, fun h => absurd h h0⟩
/-- The datagram of the statement, cut. -/
theorem dgm_of {a b : Ad} {id : Int} {D : List UInt8} {q n : Nat} (ha : Is4 a) (hb : Is4 b) (hp : pairA a b = true) (hoa : okAd a) (hob : okAd b) (hid : 0 ≤ id ∧ id ≤ 65535) (hl : D.length ≤ 65515) (h8 : q % 8 = 0) (hq : 8 ≤ q) (h0 : 0 < n) (hn : n * q < D.length) : Dgm (dgPk a b id D) q n :=
  ⟨⟨hoa, hob, show (-9223372036854775808 : Int) ≤ 0 ∧ (0 : Int) ≤ 9223372036854775807 by decide⟩, dgPk_right hp ha.1 hid.2 hl, hid.1, rfl, rfl, rfl, rfl, h8, hq, h0, hn⟩
end Go.Proofs.YtofomopdaponbaaGreatDoor
