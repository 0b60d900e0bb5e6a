/-
  NatParts, plain: a packet whose address at k is written over, in its fields; what becomes of a datagram's first bytes.
-/
import Derived.Test.YtofomopdaponbaaGreatDoorZl
import Derived.Test.YtofomopdaponbaaGreatDoorYNpg
import Derived.Test.YtofomopdaponbaaGreatDoorZae
import Derived.Test.YtofomopdaponbaaGreatDoorZag
import Derived.Test.YtofomopdaponbaaGreatDoorYNme
namespace Go.Proofs.YtofomopdaponbaaGreatDoor
set_option linter.unusedVariables false
set_option linter.unusedSimpArgs false

theorem kept_any {l l' : List UInt8} {k : Nat} {a : Ad} (hk : k = 12 ∨ k = 16) (he : parseE l = 0) (hH : headL l = 20) (ha : Is4 a) (hK : Kept l l' k a) :
    parseE l' = 0 ∧ headL l' = 20 ∧ (k = 12 → parseP l' = { parseP l with src := a, data := l'.drop 20 }) ∧ (k = 16 → parseP l' = { parseP l with dst := a, data := l'.drop 20 }) := by
  have hf := facts_of he
  obtain ⟨hf', hh, e3, e1, e2⟩ := hK.parse hk hf
  have he' := parse_of hf'
  have hP := parseP_of he'
  have hPl := parseP_of he
  rw [hh, hH] at hP
  rw [hH] at hPl
  have hlen := hf.len
  have had := hK.addr ha (by omega)
  have hb : ∀ j, j < 10 → l'.getD j 0 = l.getD j 0 := fun j hj => hK.keep j (by omega) (by omega)
  have hw : ∀ j, j + 1 < 10 → wordL l' j = wordL l j := fun j hj => by
    unfold wordL
    rw [hb j (by omega), hb (j + 1) hj]
  have hfl : flagF l' = flagF l := hw 6 (by omega)
  rw [hP, hPl]
  refine ⟨he', by rw [hh, hH], fun e => ?_, fun e => ?_⟩
  · subst e
    have h16 := cut_ext (k := 16) (n := 4) hK.len (fun j h1 h2 => hK.keep j (by omega) (by omega))
    unfold readP
    rw [hb 1 (by omega), hb 9 (by omega), hb 8 (by omega), hw 4 (by omega), hfl, h16, had]
    rfl
  · subst e
    have h12 := cut_ext (k := 12) (n := 4) hK.len (fun j h1 h2 => hK.keep j (by omega) (by omega))
    unfold readP
    rw [hb 1 (by omega), hb 9 (by omega), hb 8 (by omega), hw 4 (by omega), hfl, h12, had]
    rfl
/-- What a datagram's first bytes become. -/
def chD (was : Ad) (d : List UInt8) (j : Nat) (a : Ad) (port : Int) : List (Int × Int) := [(wordL was.2 0, wordL a.2 0), (wordL was.2 2, wordL a.2 2), (wordL d j, p16 port)]
def turnD (was : Ad) (d : List UInt8) (j : Nat) (a : Ad) (port : Int) : List UInt8 := udpL (setW d j (p16 port)) 6 (chD was d j a port)
theorem turnD_len {was a : Ad} {d : List UInt8} {j : Nat} {port : Int} : (turnD was d j a port).length = d.length := by
  unfold turnD udpL
  split <;> simp [setW_len]
theorem turnD_drop {was a : Ad} {d : List UInt8} {j n : Nat} {port : Int} (hj : j ≤ 2) (hn : 8 ≤ n) : (turnD was d j a port).drop n = d.drop n := by
  unfold turnD udpL
  split
  · exact setW_drop_lt (by omega)
  · rw [setW_drop_lt (by omega), setW_drop_lt (by omega)]
theorem turnD_take {was a : Ad} {d : List UInt8} {j n : Nat} {port : Int} (hj : j ≤ 2) (hn : 8 ≤ n) : (turnD was d j a port).take n = turnD was (d.take n) j a port := by
  have e1 : wordL (setW (d.take n) j (p16 port)) 6 = wordL (setW d j (p16 port)) 6 := by rw [← setW_take, wordL_take (by omega)]
  have e2 : chD was (d.take n) j a port = chD was d j a port := by unfold chD; rw [wordL_take (by omega)]
  unfold turnD udpL
  rw [e1, e2]
  split
  · exact setW_take
  · rw [setW_take, setW_take]
theorem end_drop {l : List UInt8} {k : Nat} {a : Ad} {port : Int} (hk : k = 12 ∨ k = 16) : (endL l k a port 20).drop 20 = udpL (setW (l.drop 20) ((k - 12) / 2) (p16 port)) 6 (endC l k a port 20) := by
  unfold endL end3L
  rw [udpL_drop, setW_drop, addressL_drop (by omega) (by omega)]
theorem word_of_ad {l : List UInt8} {k i : Nat} (hl : k + 4 ≤ l.length) (hi : i + 2 ≤ 4) : wordL ((l.drop k).take 4 ++ z12) i = wordL l (k + i) := by
  have hln : ((l.drop k).take 4).length = 4 := by rw [List.length_take, List.length_drop]; omega
  have e : ∀ j, j < 4 → ((l.drop k).take 4 ++ z12).getD j 0 = l.getD (k + j) 0 := fun j hj => by
    rw [List.getD_eq_getElem?_getD, List.getElem?_append_left (by omega), ← List.getD_eq_getElem?_getD, getD_take hj, getD_drop]
  unfold wordL
  rw [e i (by omega), e (i + 1) (by omega)]
  rfl
theorem end_turn {l : List UInt8} {k : Nat} {a was : Ad} {port : Int} (hk : k = 12 ∨ k = 16) (hl : 20 ≤ l.length) (hw : was = (4, (l.drop k).take 4 ++ z12)) :
    (endL l k a port 20).drop 20 = turnD was (l.drop 20) ((k - 12) / 2) a port := by
  rw [end_drop hk]
  have e1 : endC l k a port 20 = chD was (l.drop 20) ((k - 12) / 2) a port := by
    subst hw
    unfold endC addrAtC chD
    rw [show (wordL (addressL l k a) (20 + (k - 12) / 2)) = wordL (l.drop 20) ((k - 12) / 2) by
      rw [← wordL_drop, addressL_drop (by omega) (by omega)]]
    have h1 : wordL (setW l k (wordL a.2 0)) (k + 2) = wordL l (k + 2) := by
      unfold wordL
      rw [setW_getD (by omega) (by omega), setW_getD (by omega) (by omega)]
    rw [h1]
    show _ = [(wordL ((l.drop k).take 4 ++ z12) 0, _), (wordL ((l.drop k).take 4 ++ z12) 2, _), _]
    rw [word_of_ad (by omega) (by omega), word_of_ad (by omega) (by omega)]
    rfl
  rw [e1]
  rfl
/-- A datagram (or the first fragment of one) that goes through: its fields behind. -/
theorem end_fields {l : List UInt8} {k : Nat} {a : Ad} {port : Int} {x : Pk} (hk : k = 12 ∨ k = 16) (he : parseE l = 0) (hH : headL l = 20) (hx : parseP l = x) (ha : Is4 a) :
    parseE (endL l k a port 20) = 0 ∧ (k = 12 → parseP (endL l k a port 20) = { x with src := a, data := turnD x.src x.data 0 a port }) ∧ (k = 16 → parseP (endL l k a port 20) = { x with dst := a, data := turnD x.dst x.data 2 a port }) := by
  have hf := facts_of he
  have hK : Kept l (endL l k a port 20) k a := by
    have := end_kept (a := a) (port := port) hk hf
    rwa [hH] at this
  obtain ⟨h1, -, h2, h3⟩ := kept_any hk he hH ha hK
  have hlen := hf.len
  have hPl := parseP_of he
  rw [hH] at hPl
  have hd : x.data = l.drop 20 := by rw [← hx, hPl]; rfl
  have hs : x.src = (4, (l.drop 12).take 4 ++ z12) := by rw [← hx, hPl]; rfl
  have ht : x.dst = (4, (l.drop 16).take 4 ++ z12) := by rw [← hx, hPl]; rfl
  refine ⟨h1, fun e => ?_, fun e => ?_⟩
  · rw [h2 e, hx]
    subst e
    rw [end_turn (.inl rfl) (by omega) hs, hd]
  · rw [h3 e, hx]
    subst e
    rw [end_turn (.inr rfl) (by omega) ht, hd]
/-- A later fragment. -/
theorem addr_fields {l : List UInt8} {k : Nat} {a : Ad} {x : Pk} (hk : k = 12 ∨ k = 16) (he : parseE l = 0) (hH : headL l = 20) (hx : parseP l = x) (ha : Is4 a) :
    parseE (addressL l k a) = 0 ∧ (k = 12 → parseP (addressL l k a) = { x with src := a }) ∧ (k = 16 → parseP (addressL l k a) = { x with dst := a }) := by
  have hf := facts_of he
  have hK := address_kept (a := a) hk hf
  obtain ⟨h1, -, h2, h3⟩ := kept_any hk he hH ha hK
  have hPl := parseP_of he
  rw [hH] at hPl
  have hd : x.data = l.drop 20 := by rw [← hx, hPl]; rfl
  have e20 : (addressL l k a).drop 20 = x.data := by rw [addressL_drop (by omega) (by omega), hd]
  refine ⟨h1, fun e => ?_, fun e => ?_⟩
  · rw [h2 e, hx, e20]
  · rw [h3 e, hx, e20]
end Go.Proofs.YtofomopdaponbaaGreatDoor
/-
  NatParts, plain: the pieces of a packet are right, and in order; so are the pieces that went through.
-/
namespace Go.Proofs.YtofomopdaponbaaGreatDoor
set_option linter.unusedVariables false
set_option linter.unusedSimpArgs false

def piecesP (p : Pk) (q n : Nat) : List Pk := (List.range n).map (pieceP p q) ++ [lastP p q n]
theorem pieces_len {p : Pk} {q n : Nat} : (piecesP p q n).length = n + 1 := by simp [piecesP]
theorem front_data {p : Pk} {q : Nat} : ∀ i, ((List.range i).map (pieceP p q)).flatMap (·.data) = p.data.take (i * q)
  | 0 => by simp
  | i + 1 => by
    rw [List.range_succ, List.map_append, List.flatMap_append, front_data i, Nat.succ_mul, List.take_add]
    simp [pieceP]
theorem pieces_get {p : Pk} {q n i : Nat} (h : i < (piecesP p q n).length) : (piecesP p q n)[i] = if i < n then pieceP p q i else lastP p q n := by
  have hl : i < n + 1 := by rw [← pieces_len (p := p) (q := q)]; exact h
  apply Option.some.inj
  rw [← List.getElem?_eq_getElem h]
  unfold piecesP
  by_cases hi : i < n
  · rw [if_pos hi, List.getElem?_append_left (by simpa using hi)]
    simp [hi]
  · obtain rfl : i = n := by omega
    rw [if_neg hi, List.getElem?_append_right (by simp)]
    simp
theorem pieces_chain {p : Pk} {q n : Nat} (hq : 0 < q) (hn : n * q < p.data.length) : Chain (piecesP p q n) p.data where
  off i h := by
    have hl : i < n + 1 := by rw [← pieces_len (p := p) (q := q)]; exact h
    have ht : ((piecesP p q n).take i) = (List.range i).map (pieceP p q) := by
      unfold piecesP
      rw [List.take_append_of_le_length (by simp; omega), ← List.map_take, List.take_range, Nat.min_eq_left (by omega)]
    have hle : i * q ≤ n * q := Nat.mul_le_mul_right _ (by omega)
    rw [ht, front_data, List.length_take, Nat.min_eq_left (by omega), pieces_get h]
    split
    · rfl
    · have : i = n := by omega
      subst this
      rfl
  ne x hx := by
    obtain ⟨i, h, rfl⟩ := List.getElem_of_mem hx
    have hl : i < n + 1 := by rw [← pieces_len (p := p) (q := q)]; exact h
    rw [pieces_get h]
    split
    · rename_i hi
      have hle : (i + 1) * q ≤ n * q := Nat.mul_le_mul_right _ hi
      rw [Nat.succ_mul] at hle
      simp only [pieceP, List.length_take, List.length_drop]
      omega
    · simp only [lastP, List.length_drop]
      omega
  all := by
    unfold piecesP
    rw [List.flatMap_append, front_data, List.flatMap_singleton]
    exact List.take_append_drop _ _
theorem Chain.like {P P' : List Pk} {D : List UInt8} (h : Chain P D) (hl : P'.length = P.length) (ho : ∀ i (h : i < P.length), (P'[i]'(by omega)).off = P[i].off ∧ (P'[i]'(by omega)).data.length = P[i].data.length) : Chain P' (P'.flatMap (·.data)) := by
  have hs : ∀ i, i ≤ P.length → ((P'.take i).flatMap (·.data)).length = ((P.take i).flatMap (·.data)).length := by
    intro i
    induction i with
    | zero => intro _; simp
    | succ i ih =>
      intro hi
      rw [flat_take_succ (by omega), flat_take_succ (P := P) (by omega), List.length_append, List.length_append, ih (by omega), (ho i (by omega)).2]
  refine ⟨fun i hi => ?_, fun x hx => ?_, rfl⟩
  · rw [(ho i (by omega)).1, h.off i (by omega), hs i (by omega)]
  · obtain ⟨i, hi, rfl⟩ := List.getElem_of_mem hx
    rw [(ho i (by omega)).2]
    exact h.ne _ (List.getElem_mem (by omega))
/-- A packet whose address at 12 or 16 is another. -/
def addrP (k : Nat) (a : Ad) (x : Pk) : Pk := if k = 12 then { x with src := a } else { x with dst := a }
def wasP (k : Nat) (x : Pk) : Ad := if k = 12 then x.src else x.dst
def goneP (k : Nat) (a : Ad) (port : Int) (x : Pk) : Pk := { addrP k a x with data := turnD (wasP k x) x.data ((k - 12) / 2) a port }
def gonePs (k : Nat) (a : Ad) (port : Int) : List Pk → List Pk
  | [] => []
  | x :: z => goneP k a port x :: z.map (addrP k a)
theorem addrP_off {k : Nat} {a : Ad} {x : Pk} : (addrP k a x).off = x.off ∧ (addrP k a x).data = x.data ∧ (addrP k a x).more = x.more ∧ (addrP k a x).v = x.v ∧ (addrP k a x).opts = x.opts := by
  unfold addrP
  split <;> exact ⟨rfl, rfl, rfl, rfl, rfl⟩
theorem gonePs_len {k : Nat} {a : Ad} {port : Int} (P : List Pk) : (gonePs k a port P).length = P.length := by
  cases P <;> simp [gonePs]
theorem gone_chain {p : Pk} {q n k : Nat} {a : Ad} {port : Int} (hk : k = 12 ∨ k = 16) (hq : 8 ≤ q) (h0 : 0 < n) (hn : n * q < p.data.length) :
    Chain (gonePs k a port (piecesP p q n)) (turnD (wasP k p) p.data ((k - 12) / 2) a port) := by
  have hc := pieces_chain (p := p) (q := q) (n := n) (by omega) hn
  obtain ⟨m, rfl⟩ : ∃ m, n = m + 1 := ⟨n - 1, by omega⟩
  obtain ⟨x, z, hz⟩ : ∃ x z, piecesP p q (m + 1) = x :: z := by
    cases h : piecesP p q (m + 1) with
    | nil => have := congrArg List.length h; rw [pieces_len] at this; simp at this
    | cons x z => exact ⟨x, z, rfl⟩
  have hx : x = pieceP p q 0 := by
    have h1 := pieces_get (p := p) (q := q) (n := m + 1) (i := 0) (by rw [pieces_len]; omega)
    rw [if_pos (by omega)] at h1
    simpa [hz] using h1
  have hall := hc.all
  rw [hz] at hc hall ⊢
  have hch := hc.like (P' := gonePs k a port (x :: z)) (gonePs_len _) (fun i hi => by
    cases i with
    | zero => exact ⟨addrP_off.1, turnD_len⟩
    | succ i =>
      simp only [gonePs, List.getElem_cons_succ, List.getElem_map]
      exact ⟨addrP_off.1, by rw [addrP_off.2.1]⟩)
  have hd : (gonePs k a port (x :: z)).flatMap (·.data) = turnD (wasP k p) p.data ((k - 12) / 2) a port := by
    have hm : ∀ z : List Pk, (z.map (addrP k a)).flatMap (·.data) = z.flatMap (·.data) := fun z => by
      induction z with
      | nil => rfl
      | cons y z ih => rw [List.map_cons, List.flatMap_cons, List.flatMap_cons, ih, addrP_off.2.1]
    rw [gonePs, List.flatMap_cons, hm]
    have hxd : x.data = p.data.take q := by rw [hx]; simp [pieceP]
    have hw : wasP k x = wasP k p := by rw [hx]; unfold wasP; split <;> rfl
    have hzd : z.flatMap (·.data) = p.data.drop q := by
      rw [List.flatMap_cons, hxd] at hall
      have h2 := List.take_append_drop q p.data
      exact List.append_cancel_left (hall.trans h2.symm)
    show turnD (wasP k x) x.data _ a port ++ _ = _
    rw [hw, hxd, hzd, ← turnD_take (by omega) hq, ← turnD_drop (was := wasP k p) (a := a) (j := (k - 12) / 2) (port := port) (d := p.data) (n := q) (by omega) hq]
    exact List.take_append_drop _ _
  rwa [hd] at hch
end Go.Proofs.YtofomopdaponbaaGreatDoor
/-
  NatParts, plain: the pieces are right packets.
-/
namespace Go.Proofs.YtofomopdaponbaaGreatDoor
set_option linter.unusedVariables false
set_option linter.unusedSimpArgs false

theorem placed_of {p : Pk} (h1 : 0 ≤ p.off ∧ p.off ≤ 65528) (h2 : p.off % 8 = 0) (h3 : p.off + p.data.length ≤ 65535) (h4 : 0 < p.data.length) (h5 : p.more = true → p.data.length % 8 = 0) : placedP p = true := by
  have e1 : withinI p.off 65528 = true := by unfold withinI; simp; omega
  have e2 : (!(p.more && (decide (p.data.length = 0) || decide (p.data.length % 8 ≠ 0)))) = true := by
    cases hm : p.more with
    | false => rfl
    | true =>
      have := h5 hm
      rw [decide_eq_false (show ¬ p.data.length = 0 by omega), decide_eq_false (show ¬ p.data.length % 8 ≠ 0 by omega)]
      rfl
  unfold placedP
  rw [e1, e2, decide_eq_true h2, decide_eq_true h3, decide_eq_true h4]
  simp
theorem right_like {p x : Pk} (hr : rightP p = true) (hv : x.v = p.v) (hf : x.flow = p.flow) (hg : x.frag = p.frag) (hi : x.id = p.id) (hs : x.src = p.src) (hd : x.dst = p.dst) (ht : x.tos = p.tos) (hp : x.proto = p.proto) (hl : x.ttl = p.ttl) (ho : x.opts = p.opts)
    (hpl : placedP x = true) (hle : x.data.length ≤ p.data.length) : rightP x = true := by
  unfold rightP at hr ⊢
  simp only [Bool.and_eq_true, decide_eq_true_eq] at hr ⊢
  obtain ⟨⟨⟨⟨⟨⟨⟨⟨⟨⟨⟨r1, r2⟩, r3⟩, r4⟩, r5⟩, r6⟩, r7⟩, r8⟩, r9⟩, r10⟩, r11⟩, r12⟩ := hr
  rw [hv, hf, hg, hi, hs, hd, ht, hp, hl, ho]
  exact ⟨⟨⟨⟨⟨⟨⟨⟨⟨⟨⟨r1, r2⟩, r3⟩, r4⟩, r5⟩, r6⟩, r7⟩, r8⟩, r9⟩, hpl⟩, r11⟩, by omega⟩
theorem mul8 {q i : Nat} (h : q % 8 = 0) : (i * q) % 8 = 0 := by
  rw [Nat.mul_mod, h, Nat.mul_zero, Nat.zero_mod]
theorem piece_right {p : Pk} {q i : Nat} (hr : rightP p = true) (h8 : q % 8 = 0) (hq : 8 ≤ q) (h : (i + 1) * q ≤ p.data.length) : rightP (pieceP p q i) = true := by
  have hR := (rgt_of hr).len
  have hm := mul8 (i := i) h8
  rw [Nat.succ_mul] at h
  have hdl : (pieceP p q i).data.length = q := by simp only [pieceP, List.length_take, List.length_drop]; omega
  refine right_like hr rfl rfl rfl rfl rfl rfl rfl rfl rfl rfl ?_ (by rw [hdl]; omega)
  have ho : (pieceP p q i).off = ((i * q : Nat) : Int) := rfl
  refine placed_of (by rw [ho]; omega) (by rw [ho]; omega) (by rw [ho, hdl]; omega) (by omega) (fun _ => by rw [hdl]; exact h8)
theorem last_right {p : Pk} {q i : Nat} (hr : rightP p = true) (h8 : q % 8 = 0) (hm : p.more = false) (h : i * q < p.data.length) : rightP (lastP p q i) = true := by
  have hR := (rgt_of hr).len
  have hm8 := mul8 (i := i) h8
  have hdl : (lastP p q i).data.length = p.data.length - i * q := by simp only [lastP, List.length_drop]
  refine right_like hr rfl rfl rfl rfl rfl rfl rfl rfl rfl rfl ?_ (by rw [hdl]; omega)
  have ho : (lastP p q i).off = ((i * q : Nat) : Int) := rfl
  have hmo : (lastP p q i).more = false := hm
  refine placed_of (by rw [ho]; omega) (by rw [ho]; omega) (by rw [ho, hdl]; omega) (by omega) (fun h => by rw [hmo] at h; exact Bool.noConfusion h)
theorem pieces_right {p : Pk} {q n : Nat} (hr : rightP p = true) (h8 : q % 8 = 0) (hq : 8 ≤ q) (hm : p.more = false) (h : n * q < p.data.length) : ∀ x ∈ piecesP p q n, rightP x = true := by
  intro x hx
  unfold piecesP at hx
  rcases List.mem_append.1 hx with hx | hx
  · obtain ⟨i, hi, rfl⟩ := List.mem_map.1 hx
    have hle : (i + 1) * q ≤ n * q := Nat.mul_le_mul_right _ (List.mem_range.1 hi)
    exact piece_right hr h8 hq (by omega)
  · obtain rfl := List.mem_singleton.1 hx
    exact last_right hr h8 hm h
/-- What the pieces share. -/
theorem pieces_same {p : Pk} {q n : Nat} (ok : okPk p) (hR : p.data.length ≤ 65535) (h : n * q < p.data.length) : ∀ x ∈ piecesP p q n, okPk x ∧ kyP x = kyP p ∧ x.proto = p.proto ∧ x.src = p.src ∧ x.dst = p.dst ∧ x.v = p.v ∧ x.id = p.id ∧ x.opts = p.opts := by
  intro x hx
  unfold piecesP at hx
  rcases List.mem_append.1 hx with hx | hx
  · obtain ⟨i, hi, rfl⟩ := List.mem_map.1 hx
    have hle : i * q ≤ n * q := Nat.mul_le_mul_right _ (Nat.le_of_lt (List.mem_range.1 hi))
    exact ⟨⟨ok.src, ok.dst, by dsimp only [pieceP]; omega⟩, rfl, rfl, rfl, rfl, rfl, rfl, rfl⟩
  · obtain rfl := List.mem_singleton.1 hx
    exact ⟨⟨ok.src, ok.dst, by dsimp only [lastP]; omega⟩, rfl, rfl, rfl, rfl, rfl, rfl, rfl⟩
/-- A piece, laid, is taken apart into itself. -/
theorem piece_laid {p x : Pk} {q n : Nat} (ok : okPk p) (hr : rightP p = true) (hi : 0 ≤ p.id) (h0 : p.opts = []) (h8 : q % 8 = 0) (hq : 8 ≤ q) (hm : p.more = false) (h : n * q < p.data.length) (hx : x ∈ piecesP p q n) :
    parseE (packL x) = 0 ∧ parseP (packL x) = x ∧ headL (packL x) = 20 ∧ (packL x).length = 20 + x.data.length := by
  have hR := (rgt_of hr).len
  obtain ⟨h1, -, -, -, -, -, h2, h3⟩ := pieces_same ok (by omega) h x hx
  obtain ⟨e1, e2, e3, e4⟩ := pack_any h1 (pieces_right hr h8 hq hm h x hx) (by rw [h2]; exact hi)
  have hol : x.opts.length = 0 := by rw [h3, h0]; rfl
  rw [hol] at e3 e4
  exact ⟨e1, e2, e3, e4⟩
end Go.Proofs.YtofomopdaponbaaGreatDoor
/-
  NatParts, plain: what a nat answers to the fragments of one datagram, all at time 0.
-/
namespace Go.Proofs.YtofomopdaponbaaGreatDoor
set_option linter.unusedVariables false
set_option linter.unusedSimpArgs false

def nS (ms : List Nm) (os is : List Nt) : NatS := ⟨wideC 9, 0, ms, os, is⟩
theorem aged0 {n : Int} (h : 0 < n) : aged 0 0 n = false := by
  unfold aged
  rw [wi_id (by omega) (by omega)]
  exact decide_eq_false (by omega)
theorem passes_nS {ms : List Nm} {os is : List Nt} (hm : ∀ m ∈ ms, m.used = 0) (ho : ∀ x ∈ os, x.from_ = 0) (hi : ∀ x ∈ is, x.from_ = 0) : passesS (nS ms os is) 0 = (true, nS ms os is) := by
  have e1 : ms.filter (fun m => !aged 0 m.used (wideC 9).life) = ms := List.filter_eq_self.2 (fun m h => by rw [hm m h, aged0 (by decide)]; rfl)
  have e2 : ∀ z : List Nt, (∀ x ∈ z, x.from_ = 0) → z.filter (fun x => !aged 0 x.from_ (wideC 9).hold) = z := fun z hz => List.filter_eq_self.2 (fun m h => by rw [hz m h, aged0 (by decide)]; rfl)
  unfold passesS
  rw [if_pos (show betweenI 0 (nS ms os is).now 1099511627776 = true from (by decide : betweenI 0 0 1099511627776 = true))]
  show (true, (⟨wideC 9, 0, ms.filter (fun m => !aged 0 m.used (wideC 9).life), os.filter (fun x => !aged 0 x.from_ (wideC 9).hold), is.filter (fun x => !aged 0 x.from_ (wideC 9).hold)⟩ : NatS)) = _
  rw [e1, e2 os ho, e2 is hi]
  rfl
theorem out_nS {ms : List Nm} {os is : List Nt} {l : List UInt8} (hm : ∀ m ∈ ms, m.used = 0) (ho : ∀ x ∈ os, x.from_ = 0) (hi : ∀ x ∈ is, x.from_ = 0) (he : parseE l = 0) : outS (nS ms os is) 0 l = outR (nS ms os is) (parseP l) l := by
  have hp := passes_nS hm ho hi
  unfold outS beginE
  rw [hp, if_pos rfl, if_neg (by rw [he]; decide)]
theorem came_nS {ms : List Nm} {os is : List Nt} {l : List UInt8} (hm : ∀ m ∈ ms, m.used = 0) (ho : ∀ x ∈ os, x.from_ = 0) (hi : ∀ x ∈ is, x.from_ = 0) (he : parseE l = 0) : cameS (nS ms os is) 0 l = cameR (nS ms os is) (parseP l) l := by
  have hp := passes_nS hm ho hi
  unfold cameS beginE
  rw [hp, if_pos rfl, if_neg (by rw [he]; decide)]
theorem noted_one {k : Ky} {a : Ad} {z : List Nt} (h : z = [] ∨ z = [⟨k, a, 0⟩]) : notedL (wideC 9).parts 0 z k a = [⟨k, a, 0⟩] := by
  have hp : (wideC 9).parts = 64 := rfl
  rcases h with rfl | rfl
  · unfold notedL
    rw [hp]
    simp
  · unfold notedL
    rw [hp]
    simp
theorem rec_one {k : Ky} {a : Ad} : recA k [⟨k, a, 0⟩] = (a, true) := by simp [recA]
theorem rec_no {k k' : Ky} {a : Ad} (h : k ≠ k') : (recA k' [⟨k, a, 0⟩]).2 = false := by simp [recA, h]
/-- A datagram goes out, or the first fragment of one. -/
theorem out_head {ms : List Nm} {os is : List Nt} {x : Pk} {l : List UInt8} {sp : Int} (hH : headL l = 20) (hp : x.proto = 17) (h0 : x.off = 0) (h8 : 8 ≤ x.data.length) (hs : insideA (wideC 255) x.src = true) (hd : outsideA (wideC 255) x.dst = true) (hw : wordL x.data 0 = sp)
    (hm : ms = [] ∨ ms = [⟨x.src, sp, 4000, 0⟩]) :
    outR (nS ms os is) x l = (0, endL l 12 (fourD 192 0 2 1) 4000 20, nS [⟨x.src, sp, 4000, 0⟩] (if x.more = true then notedL (wideC 9).parts 0 os (kyP x) x.src else os) is) := by
  have hmp : mappedS (nS ms os is) x.src sp = (((0 : Nat) : Int), [⟨x.src, sp, 4000, 0⟩]) := by
    rcases hm with rfl | rfl
    · exact mapped_new rfl rfl
    · exact mapped_one rfl
  have hin : insideA (nS ms os is).cf x.src = true := hs
  have hou : outsideA (nS ms os is).cf x.dst = true := hd
  have hneg : ¬ ((0 : Nat) : Int) < 0 := by decide
  unfold outR
  rw [hin, hou, if_neg (by decide), if_pos hp, if_neg (show ¬ x.off > 0 by omega), if_neg (show ¬ x.data.length < 8 by omega), hw, hmp, if_neg hneg, hH]
  rfl
theorem out_tail {ms : List Nm} {is : List Nt} {x : Pk} {l : List UInt8} {a : Ad} (hp : x.proto = 17) (h0 : 0 < x.off) (hs : insideA (wideC 255) x.src = true) (hd : outsideA (wideC 255) x.dst = true) :
    outR (nS ms [⟨kyP x, a, 0⟩] is) x l = (0, addressL l 12 (fourD 192 0 2 1), nS ms [⟨kyP x, a, 0⟩] is) := by
  have hin : insideA (nS ms [⟨kyP x, a, 0⟩] is).cf x.src = true := hs
  have hou : outsideA (nS ms [⟨kyP x, a, 0⟩] is).cf x.dst = true := hd
  unfold outR
  rw [hin, hou, if_neg (by decide), if_pos hp, if_pos (show x.off > 0 by omega), if_neg (by rw [show (nS ms [⟨kyP x, a, 0⟩] is).outs = [⟨kyP x, a, 0⟩] from rfl, rec_one]; exact fun h => Bool.noConfusion h)]
  rfl
theorem out_other {ms : List Nm} {is : List Nt} {x : Pk} {l : List UInt8} {a : Ad} {K : Ky} (hp : x.proto = 17) (h0 : 0 < x.off) (hs : insideA (wideC 255) x.src = true) (hd : outsideA (wideC 255) x.dst = true) (hK : K ≠ kyP x) :
    outR (nS ms [⟨K, a, 0⟩] is) x l = (301, [], nS ms [⟨K, a, 0⟩] is) := by
  have hin : insideA (nS ms [⟨K, a, 0⟩] is).cf x.src = true := hs
  have hou : outsideA (nS ms [⟨K, a, 0⟩] is).cf x.dst = true := hd
  unfold outR
  rw [hin, hou, if_neg (by decide), if_pos hp, if_pos (show x.off > 0 by omega), if_pos (show (recA (kyP x) (nS ms [⟨K, a, 0⟩] is).outs).2 = false from rec_no hK)]
/-- The same, in. -/
theorem came_head {os is : List Nt} {x : Pk} {l : List UInt8} {sp : Int} {a : Ad} (hH : headL l = 20) (hp : x.proto = 17) (h0 : x.off = 0) (h8 : 8 ≤ x.data.length) (hs : outsideA (wideC 255) x.src = true) (hd : x.dst = fourD 192 0 2 1) (hw : wordL x.data 2 = 4000) :
    cameR (nS [⟨a, sp, 4000, 0⟩] os is) x l = (0, endL l 16 a sp 20, nS [⟨a, sp, 4000, 0⟩] os (if x.more = true then notedL (wideC 9).parts 0 is (kyP x) a else is)) := by
  have hou : outsideA (nS [⟨a, sp, 4000, 0⟩] os is).cf x.src = true := hs
  have hdd : decide (x.dst = (nS [⟨a, sp, 4000, 0⟩] os is).cf.outside) = true := decide_eq_true hd
  have hf : (nS [⟨a, sp, 4000, 0⟩] os is).maps.find? (outIs 4000) = some ⟨a, sp, 4000, 0⟩ := rfl
  unfold cameR
  rw [hou, hdd, if_neg (by decide), if_pos hp, if_neg (show ¬ x.off > 0 by omega), if_neg (show ¬ x.data.length < 8 by omega), hw, hf, hH]
  rfl
theorem came_tail {ms : List Nm} {os : List Nt} {x : Pk} {l : List UInt8} {a : Ad} (hp : x.proto = 17) (h0 : 0 < x.off) (hs : outsideA (wideC 255) x.src = true) (hd : x.dst = fourD 192 0 2 1) :
    cameR (nS ms os [⟨kyP x, a, 0⟩]) x l = (0, addressL l 16 a, nS ms os [⟨kyP x, a, 0⟩]) := by
  have hou : outsideA (nS ms os [⟨kyP x, a, 0⟩]).cf x.src = true := hs
  have hdd : decide (x.dst = (nS ms os [⟨kyP x, a, 0⟩]).cf.outside) = true := decide_eq_true hd
  unfold cameR
  rw [hou, hdd, if_neg (by decide), if_pos hp, if_pos (show x.off > 0 by omega), show (nS ms os [⟨kyP x, a, 0⟩]).ins = [⟨kyP x, a, 0⟩] from rfl, rec_one, if_neg (show ¬ (a, true).2 = false from fun h => Bool.noConfusion h)]
theorem came_other {ms : List Nm} {os : List Nt} {x : Pk} {l : List UInt8} {a : Ad} {K : Ky} (hp : x.proto = 17) (h0 : 0 < x.off) (hs : outsideA (wideC 255) x.src = true) (hd : x.dst = fourD 192 0 2 1) (hK : K ≠ kyP x) :
    cameR (nS ms os [⟨K, a, 0⟩]) x l = (301, [], nS ms os [⟨K, a, 0⟩]) := by
  have hou : outsideA (nS ms os [⟨K, a, 0⟩]).cf x.src = true := hs
  have hdd : decide (x.dst = (nS ms os [⟨K, a, 0⟩]).cf.outside) = true := decide_eq_true hd
  unfold cameR
  rw [hou, hdd, if_neg (by decide), if_pos hp, if_pos (show x.off > 0 by omega), if_pos (show (recA (kyP x) (nS ms os [⟨K, a, 0⟩]).ins).2 = false from rec_no hK)]
end Go.Proofs.YtofomopdaponbaaGreatDoor
