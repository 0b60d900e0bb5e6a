/-
  A datagram of an inside end goes out, an answer comes in: what the nat makes of them. Plain: no program in sight.
-/
import Derived.Test.YtofomopdaponbaaGreatDoorZm
import Derived.Test.YtofomopdaponbaaGreatDoorYNwd
import Derived.Test.YtofomopdaponbaaGreatDoorYNsh
namespace Go.Proofs.YtofomopdaponbaaGreatDoor
open Go.RowKit
set_option linter.unusedVariables false
set_option linter.unusedSimpArgs false

theorem idxI_pos {α : Type} {p : α → Bool} {z : List α} (h : idxI p z ≥ 0) : ∃ i, ∃ hi : i < z.length, idxI p z = (i : Nat) ∧ p z[i] = true := by
  rcases find_idx p z with ⟨h1, -⟩ | ⟨i, hi, h1, h2⟩
  · omega
  · exact ⟨i, hi, h1, (List.find?_eq_some_iff_getElem.1 h2).1⟩
theorem idxI_lt {α : Type} {p : α → Bool} {z : List α} : idxI p z < 0 ↔ ∀ x ∈ z, p x = false := by
  constructor
  · intro h
    exact idxI_none (by omega)
  · intro h
    rw [idx_none h]
    decide
theorem free_filter {z : List Nm} {o : Int} : ∀ (n : Nat) (out : Int), o < out → freeFrom (z.filter (fun m => decide (m.out ≠ o))) out n = freeFrom z out n
  | 0, _, _ => rfl
  | n + 1, out, h => by
    have e : (idxI (fun m : Nm => m.out == out) (z.filter (fun m => decide (m.out ≠ o))) < 0) ↔ (idxI (fun m : Nm => m.out == out) z < 0) := by
      rw [idxI_lt, idxI_lt]
      constructor
      · intro hx m hm
        by_cases ho : m.out = o
        · simp; omega
        · exact hx m (List.mem_filter.2 ⟨hm, decide_eq_true ho⟩)
      · intro hx m hm
        exact hx m (List.mem_filter.1 hm).1
    unfold freeFrom
    rw [free_filter n (out + 1) (by omega)]
    simp only [e]
theorem free_full : ∀ (n : Nat) (z : List Nm) (out : Int), freeFrom z out n = none → n ≤ z.length
  | 0, _, _, _ => Nat.zero_le _
  | n + 1, z, out, h => by
    unfold freeFrom at h
    split at h
    · exact absurd h (by simp)
    rename_i hi
    obtain ⟨i, hi2, -, hp⟩ := idxI_pos (p := fun m : Nm => m.out == out) (z := z) (by omega)
    have h2 := free_full n (z.filter (fun m => decide (m.out ≠ out))) (out + 1) (by rw [free_filter n (out + 1) (by omega)]; exact h)
    have h3 : (z.filter (fun m => decide (m.out ≠ out))).length < z.length := by
      refine List.length_filter_lt_length_iff_exists.2 ⟨z[i], List.getElem_mem hi2, ?_⟩
      have : z[i].out = out := by simpa using hp
      simp [this]
    omega
theorem mapped_ok {s : NatS} {a : Ad} {port : Int} (hm : (s.maps.length : Int) < s.cf.maps) (hr : s.maps.length < (s.cf.last + 1 - s.cf.first).toNat) :
    ∃ i, ∃ hi : i < (mappedS s a port).2.length, (mappedS s a port).1 = (i : Nat) ∧ (mappedS s a port).2[i].addr = a ∧ (mappedS s a port).2[i].port = port ∧ (∀ m ∈ s.maps, m ∈ (mappedS s a port).2) ∧ (mappedS s a port).2.length ≤ s.maps.length + 1 := by
  by_cases h0 : idxI (endIs a port) s.maps ≥ 0
  · have e : mappedS s a port = (idxI (endIs a port) s.maps, s.maps) := if_pos h0
    obtain ⟨i, hi, h1, h2⟩ := idxI_pos h0
    rw [e]
    have h2 : s.maps[i].addr = a ∧ s.maps[i].port = port := by simpa [endIs] using h2
    exact ⟨i, hi, h1, h2.1, h2.2, fun m h => h, Nat.le_succ _⟩
  · cases hf : freeFrom s.maps s.cf.first (s.cf.last + 1 - s.cf.first).toNat with
    | none => exact absurd (free_full _ _ _ hf) (by omega)
    | some out =>
      have e : mappedS s a port = ((s.maps.length : Int), s.maps ++ [⟨a, port, out, 0⟩]) := by
        unfold mappedS
        rw [if_neg h0, if_neg (by omega), hf]
      rw [e]
      refine ⟨s.maps.length, by simp, rfl, by simp, by simp, fun m h => List.mem_append_left _ h, by simp⟩
/-- What is asked of a datagram that goes out. -/
structure Goes (s : NatS) (l : List UInt8) (a b : Ad) (port : Int) : Prop where
  e0 : parseE l = 0
  src : (parseP l).src = a
  dst : (parseP l).dst = b
  proto : (parseP l).proto = 17
  off : (parseP l).off = 0
  more : (parseP l).more = false
  len : 8 ≤ (parseP l).data.length
  head : headL l = 20
theorem pack_goes {s : NatS} {a b : Ad} {id : Int} {d : List UInt8} (ha : Is4 a) (hb : Is4 b) (hid : 0 ≤ id ∧ id ≤ 65535) (hd0 : 8 ≤ d.length) (hd : d.length ≤ 65515) : Goes s (packL (dgPk a b id d)) a b (wordL d 0) := by
  obtain ⟨h1, h2, h3, h4⟩ := pack_facts ha hb hid (by omega) hd
  exact ⟨h1, by rw [h2]; rfl, by rw [h2]; rfl, by rw [h2]; rfl, by rw [h2]; rfl, by rw [h2]; rfl, by rw [h2]; exact hd0, h3⟩
theorem out_goes {s : NatS} {l : List UInt8} {a b : Ad} {port : Int} (hI : Inv 0 s) (hg : Goes s l a b port) (hw : wordL (parseP l).data 0 = port) (hin : insideA s.cf a = true) (hout : outsideA s.cf b = true) (hm : (s.maps.length : Int) < s.cf.maps) (hr : s.maps.length < (s.cf.last + 1 - s.cf.first).toNat) (h0 : ∀ m ∈ s.maps, m.used = 0) (hnow : s.now = 0) :
    ∃ out z, outR s (parseP l) l = (0, endL l 12 s.cf.outside out 20, ⟨s.cf, s.now, z, s.outs, s.ins⟩) ∧ z.length ≤ s.maps.length + 1 ∧ (∀ m ∈ s.maps, m ∈ z) ∧ (∃ m ∈ z, m.addr = a ∧ m.port = port ∧ m.out = out) := by
  obtain ⟨i, hi, k1, k2, k3, k4, k5⟩ := mapped_ok (s := s) (a := a) (port := port) hm hr
  have hoff : ¬ (parseP l).off > 0 := by rw [hg.off]; decide
  have h8 : ¬ (parseP l).data.length < 8 := by have := hg.len; omega
  have hneg : ¬ ((i : Nat) : Int) < 0 := by omega
  unfold outR
  rw [hg.src, hg.dst, hin, hout, if_neg (by decide), if_pos hg.proto, if_neg hoff, if_neg h8, hw, k1, if_neg hneg, hg.more, hg.head, portOf_nat hi, useM_nat hi, hnow]
  refine ⟨_, _, rfl, by simp; exact k5, fun m h => ?_, ?_⟩
  · obtain ⟨j, hj, hjm⟩ := List.getElem_of_mem (k4 m h)
    by_cases hij : i = j
    · subst hij
      have hm0 := h0 m h
      have e : { (mappedS s a port).2[i] with used := 0 } = m := by
        rw [hjm]
        obtain ⟨x1, x2, x3, x4⟩ := m
        dsimp only at hm0
        rw [hm0]
      rw [e]
      exact List.mem_iff_getElem.2 ⟨i, by simpa using hi, by simp⟩
    · exact List.mem_iff_getElem.2 ⟨j, by simpa using hj, by rw [List.getElem_set_ne hij]; exact hjm⟩
  · exact ⟨{ (mappedS s a port).2[i] with used := 0 }, List.mem_iff_getElem.2 ⟨i, by simpa using hi, by simp⟩, k2, k3, rfl⟩
theorem nodup_inj {α β : Type} {f : α → β} : ∀ {z : List α} {x y : α}, (z.map f).Nodup → x ∈ z → y ∈ z → f x = f y → x = y
  | [], _, _, _, hx, _, _ => by cases hx
  | c :: z, x, y, h, hx, hy, e => by
    rw [List.map_cons, List.nodup_cons] at h
    rcases List.mem_cons.1 hx with e1 | hx2
    · rcases List.mem_cons.1 hy with e2 | hy2
      · rw [e1, e2]
      · exact absurd (e1 ▸ e ▸ List.mem_map_of_mem hy2) h.1
    · rcases List.mem_cons.1 hy with e2 | hy2
      · exact absurd (e2 ▸ e ▸ List.mem_map_of_mem hx2) h.1
      · exact nodup_inj h.2 hx2 hy2 e
theorem passes_yes {s : NatS} {n t : Int} (hI : Inv n s) (h1 : n ≤ t) (h2 : t ≤ 1099511627776) : passesS s t = (true, ⟨s.cf, t, s.maps.filter (fun m => !aged t m.used s.cf.life), s.outs.filter (fun x => !aged t x.from_ s.cf.hold), s.ins.filter (fun x => !aged t x.from_ s.cf.hold)⟩) := by
  have hb : betweenI t s.now 1099511627776 = true := by
    unfold betweenI
    rw [hI.at_, decide_eq_true (show t ≥ n by omega), decide_eq_true h2]
    rfl
  exact if_pos hb
theorem aged_0 {t life : Int} (h0 : 0 ≤ t) (h1 : t ≤ 1099511627776) : aged t 0 life = decide (t ≥ life) := by
  unfold aged
  rw [Int.sub_zero, wi_id (by omega) (by omega)]
theorem passes_live {s : NatS} {n t : Int} (hI : Inv n s) (h1 : n ≤ t) (h2 : t ≤ 1099511627776) (hl : t < s.cf.life) (h0 : ∀ m ∈ s.maps, m.used = 0) : (passesS s t).2.maps = s.maps := by
  have hn := hI.n0
  rw [passes_yes hI h1 h2]
  refine List.filter_eq_self.2 fun m hm => ?_
  rw [h0 m hm, aged_0 (by omega) h2, decide_eq_false (by omega)]
  rfl
theorem passes_dead {s : NatS} {n t : Int} (hI : Inv n s) (h1 : n ≤ t) (h2 : t ≤ 1099511627776) (hl : s.cf.life ≤ t) (h0 : ∀ m ∈ s.maps, m.used = 0) : (passesS s t).2.maps = [] := by
  have hn := hI.n0
  rw [passes_yes hI h1 h2]
  refine List.filter_eq_nil_iff.2 fun m hm => ?_
  rw [h0 m hm, aged_0 (by omega) h2, decide_eq_true (by omega)]
  decide
theorem passes_used {s : NatS} {t : Int} (h0 : ∀ m ∈ s.maps, m.used = 0) : ∀ m ∈ (passesS s t).2.maps, m.used = 0 := by
  unfold passesS
  split
  · exact fun m hm => h0 m (List.mem_filter.1 hm).1
  · exact h0
theorem came_eq {s : NatS} {n t : Int} {l : List UInt8} (hI : Inv n s) (h1 : n ≤ t) (h2 : t ≤ 1099511627776) (he : parseE l = 0) : cameS s t l = cameR (passesS s t).2 (parseP l) l := by
  have hp := (hI.passes h1 h2).1
  have hb : beginE s t l = 0 := (if_pos hp).trans he
  exact if_neg (fun h => h hb)
theorem out_eq {s : NatS} {n t : Int} {l : List UInt8} (hI : Inv n s) (h1 : n ≤ t) (h2 : t ≤ 1099511627776) (he : parseE l = 0) : outS s t l = outR (passesS s t).2 (parseP l) l := by
  have hp := (hI.passes h1 h2).1
  have hb : beginE s t l = 0 := (if_pos hp).trans he
  exact if_neg (fun h => h hb)
theorem came_comes {s : NatS} {n : Int} {l : List UInt8} {a b : Ad} {port out : Int} {m : Nm} (hI : Inv n s) (hg : Goes s l a b port) (hw : wordL (parseP l).data 2 = out) (hb : b = s.cf.outside) (ha : outsideA s.cf a = true) (hm : m ∈ s.maps) (hmo : m.out = out) :
    cameR s (parseP l) l = (0, endL l 16 m.addr m.port 20, s) := by
  have hoff : ¬ (parseP l).off > 0 := by rw [hg.off]; decide
  have h8 : ¬ (parseP l).data.length < 8 := by have := hg.len; omega
  have hf : s.maps.find? (outIs out) = some m := by
    cases hx : s.maps.find? (outIs out) with
    | none => exact absurd (show outIs out m = true by simp [outIs, hmo]) (by simpa using List.find?_eq_none.1 hx m hm)
    | some y =>
      have hy := List.mem_of_find?_eq_some hx
      have ho : y.out = out := by simpa [outIs] using List.find?_some hx
      rw [nodup_inj hI.outs hy hm (ho.trans hmo.symm)]
  unfold cameR
  rw [hg.dst, hg.src, ha, decide_eq_true hb, if_neg (by decide), if_pos hg.proto, if_neg hoff, if_neg h8, hw, hf]
  simp only [hg.more, hg.head]
  rfl
theorem came_gone {s : NatS} {l : List UInt8} {a b : Ad} {port : Int} (hg : Goes s l a b port) (hm : s.maps = []) : (cameR s (parseP l) l).1 ≠ 0 ∧ (cameR s (parseP l) l).2.1 = [] ∧ (cameR s (parseP l) l).2.2 = s := by
  have hoff : ¬ (parseP l).off > 0 := by rw [hg.off]; decide
  have h8 : ¬ (parseP l).data.length < 8 := by have := hg.len; omega
  have e : cameR s (parseP l) l = (300, [], s) ∨ cameR s (parseP l) l = (301, [], s) := by
    unfold cameR
    by_cases h : (decide ((parseP l).dst = s.cf.outside) && outsideA s.cf (parseP l).src) = false
    · rw [if_pos h]
      exact .inl rfl
    · rw [if_neg h, if_pos hg.proto, if_neg hoff, if_neg h8, hm]
      exact .inr rfl
  rcases e with e | e
  · rw [e]
    exact ⟨show (300 : Int) ≠ 0 by decide, rfl, rfl⟩
  · rw [e]
    exact ⟨show (301 : Int) ≠ 0 by decide, rfl, rfl⟩
end Go.Proofs.YtofomopdaponbaaGreatDoor
/-
  The fields of what goes out and of what comes in. Plain: no program in sight.
-/
namespace Go.Proofs.YtofomopdaponbaaGreatDoor
open Go.RowKit
set_option linter.unusedVariables false
set_option linter.unusedSimpArgs false

theorem end_words {l : List UInt8} {k : Nat} {a : Ad} {port : Int} (hk : k = 12 ∨ k = 16) (h8 : 8 ≤ (l.drop 20).length) (hp : 0 ≤ port ∧ port ≤ 65535) :
    ((endL l k a port 20).drop 20).length = (l.drop 20).length ∧ wordL ((endL l k a port 20).drop 20) ((k - 12) / 2) = port ∧ wordL ((endL l k a port 20).drop 20) (2 - (k - 12) / 2) = wordL (l.drop 20) (2 - (k - 12) / 2) ∧
      ((endL l k a port 20).drop 20).drop 8 = (l.drop 20).drop 8 ∧ (wordL ((endL l k a port 20).drop 20) 6 = 0 ↔ wordL (l.drop 20) 6 = 0) := by
  have hd : (endL l k a port 20).drop 20 = udpL (setW (l.drop 20) ((k - 12) / 2) (p16 port)) 6 (endC l k a port 20) := by
    unfold endL end3L
    rw [udpL_drop, setW_drop, addressL_drop (by omega) (by omega)]
  have hpp : p16 port = port := by unfold p16; omega
  rw [hd, hpp]
  have w6 : wordL (setW (l.drop 20) ((k - 12) / 2) port) 6 = wordL (l.drop 20) 6 := wordL_setW_ne (by omega)
  have wd : wordL (setW (l.drop 20) ((k - 12) / 2) port) ((k - 12) / 2) = port := wordL_setW (by omega) hp.1 hp.2
  have wo : wordL (setW (l.drop 20) ((k - 12) / 2) port) (2 - (k - 12) / 2) = wordL (l.drop 20) (2 - (k - 12) / 2) := wordL_setW_ne (by omega)
  have w8 : (setW (l.drop 20) ((k - 12) / 2) port).drop 8 = (l.drop 20).drop 8 := setW_drop_lt (by omega)
  have wl : (setW (l.drop 20) ((k - 12) / 2) port).length = (l.drop 20).length := setW_len _ _ _
  refine ⟨by rw [udpL_len, wl], ?_⟩
  unfold udpL
  rw [w6]
  by_cases hc : wordL (l.drop 20) 6 = 0
  · rw [if_pos hc]
    exact ⟨wd, wo, w8, by rw [w6]⟩
  rw [if_neg hc]
  have okc : ∀ c ∈ endC l k a port 20, okCh c := by
    intro c hc
    have q0 := wordL_bd l k
    have q1 := wordL_bd a.2 0
    have q2 := wordL_bd (setW l k (wordL a.2 0)) (k + 2)
    have q3 := wordL_bd a.2 2
    have q4 := wordL_bd (addressL l k a) (20 + (k - 12) / 2)
    simp only [endC, addrAtC, List.cons_append, List.nil_append, List.mem_cons, List.not_mem_nil, or_false] at hc
    rcases hc with rfl | rfl | rfl
    · exact ⟨q0.1, q0.2, q1.1, q1.2⟩
    · exact ⟨q2.1, q2.2, q3.1, q3.2⟩
    · exact ⟨q4.1, q4.2, by rw [hpp]; exact hp.1, by rw [hpp]; exact hp.2⟩
  have hb := patchL_bd okc (wordL_bd (l.drop 20) 6)
  have hu : 1 ≤ udpS (wordL (l.drop 20) 6) (endC l k a port 20) ∧ udpS (wordL (l.drop 20) 6) (endC l k a port 20) ≤ 65535 := by
    unfold udpS
    split <;> omega
  generalize udpS (wordL (l.drop 20) 6) (endC l k a port 20) = u at *
  have v6 : wordL (setW (setW (l.drop 20) ((k - 12) / 2) port) 6 u) 6 = u := wordL_setW (by omega) (by omega) hu.2
  refine ⟨(wordL_setW_ne (by omega)).trans wd, (wordL_setW_ne (by omega)).trans wo, (setW_drop_lt (by omega)).trans w8, ?_⟩
  rw [v6]
  constructor
  · intro h; omega
  · intro h; exact absurd h hc
theorem end_parsed {l : List UInt8} {k : Nat} {a : Ad} {port : Int} (hk : k = 12 ∨ k = 16) (he : parseE l = 0) (hH : headL l = 20) (ha : Is4 a) (h8 : 8 ≤ (l.drop 20).length) :
    parseE (endL l k a port 20) = 0 ∧ (parseP (endL l k a port 20)).data = (endL l k a port 20).drop 20 ∧
      (k = 12 → (parseP (endL l k a port 20)).src = a ∧ (parseP (endL l k a port 20)).dst = (parseP l).dst) ∧ (k = 16 → (parseP (endL l k a port 20)).dst = a ∧ (parseP (endL l k a port 20)).src = (parseP l).src) := by
  have hf := facts_of he
  have hK : Kept l (endL l k a port 20) k a := by
    have := end_kept (a := a) (port := port) hk hf
    rwa [hH] at this
  obtain ⟨hf', hh, -, -, -⟩ := hK.parse hk hf
  have he' := parse_of hf'
  have hP := parseP_of he'
  have hPl := parseP_of he
  rw [hh, hH] at hP
  rw [hH] at hPl
  have hlen := hf.len
  have had := hK.addr ha (by omega)
  have hdl : (l.drop 20).length = l.length - 20 := List.length_drop
  rw [hP, hPl]
  refine ⟨he', rfl, fun e => ⟨?_, ?_⟩, fun e => ⟨?_, ?_⟩⟩
  · subst e
    exact had
  · subst e
    show ((4, ((endL l 12 a port 20).drop 16).take 4 ++ z12) : Ad) = (4, (l.drop 16).take 4 ++ z12)
    rw [cut_ext hK.len (fun j h1 h2 => hK.keep j (by omega) (by omega))]
  · subst e
    exact had
  · subst e
    show ((4, ((endL l 16 a port 20).drop 12).take 4 ++ z12) : Ad) = (4, (l.drop 12).take 4 ++ z12)
    rw [cut_ext hK.len (fun j h1 h2 => hK.keep j (by omega) (by omega))]
/-- A datagram that was laid is taken just if its sum was not made wrong. -/
theorem datagram_valid {a b : Ad} {sp dp id : Int} {data : List UInt8} {k : Nat} (ha : Is4 a) (hb : Is4 b) (hp : pairA a b = true) (h1 : 0 ≤ sp ∧ sp ≤ 65535) (h2 : 0 ≤ dp ∧ dp ≤ 65535) (hid : 0 ≤ id ∧ id ≤ 65535) (hl : data.length ≤ 65000) (hk : k ≤ 3) :
    validB (datagramL a b sp dp data (k : Int) id) = decide (k < 2) := by
  have hdl : (datL a b ⟨sp, dp, (k : Int) == 1, data⟩).length = 8 + data.length := datL_len _ _ _
  have hkl := kindL_len (datL a b ⟨sp, dp, (k : Int) == 1, data⟩) (k : Int)
  obtain ⟨e1, e2, e3, e4⟩ := pack_facts (id := id) (d := kindL (datL a b ⟨sp, dp, (k : Int) == 1, data⟩) (k : Int)) ha hb hid (by omega) (by omega)
  have hR := datL_right (d := ⟨sp, dp, (k : Int) == 1, data⟩) hp ha.1 h1 h2 (by dsimp only; omega)
  unfold validB datagramL
  rw [decide_eq_true e1, e2, Bool.true_and]
  show decide (udpE a b (kindL (datL a b ⟨sp, dp, (k : Int) == 1, data⟩) (k : Int)) = 0) = _
  by_cases hk2 : k < 2
  · rw [kindL_low _ (by omega), hR.1, decide_eq_true hk2]
    rfl
  · have hns : ((k : Int) == 1) = false := by
      rw [beq_eq_false_iff_ne]
      omega
    rw [decide_eq_false hk2, decide_eq_false]
    exact kindL_wrong (by omega) hp ha.1 (by omega) (hR.2.2 hns).2
end Go.Proofs.YtofomopdaponbaaGreatDoor
/-
  One turn out, one turn in. Plain: no program in sight.
-/
namespace Go.Proofs.YtofomopdaponbaaGreatDoor
open Go.RowKit
set_option linter.unusedVariables false
set_option linter.unusedSimpArgs false

theorem kindL_words {d : List UInt8} {k : Int} : wordL (kindL d k) 0 = wordL d 0 ∧ wordL (kindL d k) 2 = wordL d 2 := by
  have key : ∀ (x : List UInt8) (v : UInt8), wordL (x.set 6 v) 0 = wordL x 0 ∧ wordL (x.set 6 v) 2 = wordL x 2 := fun x v => by
    unfold wordL
    simp [List.getD_eq_getElem?_getD, List.getElem?_set_ne]
  unfold kindL
  split
  · split
    · exact ⟨((key _ _).1).trans (key _ _).1, ((key _ _).2).trans (key _ _).2⟩
    · exact key _ _
  · exact ⟨rfl, rfl⟩
theorem datL_words {a b : Ad} {sp dp : Int} {ns : Bool} {data : List UInt8} (h1 : 0 ≤ sp ∧ sp ≤ 65535) (h2 : 0 ≤ dp ∧ dp ≤ 65535) (hl : data.length ≤ 65507) :
    wordL (datL a b ⟨sp, dp, ns, data⟩) 0 = sp ∧ wordL (datL a b ⟨sp, dp, ns, data⟩) 2 = dp := by
  obtain ⟨w0, w2, -, -, -⟩ := dat0_words h1 h2 hl
  unfold datL
  split
  · exact ⟨w0, w2⟩
  · exact ⟨(wordL_setW_ne (by omega)).trans w0, (wordL_setW_ne (by omega)).trans w2⟩
/-- What is known of a datagram that was laid. -/
structure Laid (a b : Ad) (sp dp : Int) (data : List UInt8) (k : Nat) (l : List UInt8) : Prop where
  e0 : parseE l = 0
  head : headL l = 20
  src : (parseP l).src = a
  dst : (parseP l).dst = b
  proto : (parseP l).proto = 17
  off : (parseP l).off = 0
  more : (parseP l).more = false
  dat : (parseP l).data = l.drop 20
  dlen : (l.drop 20).length = 8 + data.length
  len : l.length = 28 + data.length
  w0 : wordL (l.drop 20) 0 = sp
  w2 : wordL (l.drop 20) 2 = dp
  valid : validB l = decide (k < 2)
  low : k < 2 → (l.drop 20).drop 8 = data ∧ (wordL (l.drop 20) 6 = 0 ↔ k = 1)
theorem laid_of {a b : Ad} {sp dp id : Int} {data : List UInt8} {k : Nat} (ha : Is4 a) (hb : Is4 b) (hp : pairA a b = true) (h1 : 0 ≤ sp ∧ sp ≤ 65535) (h2 : 0 ≤ dp ∧ dp ≤ 65535) (hid : 0 ≤ id ∧ id ≤ 65535) (hl : data.length ≤ 65000) (hk : k ≤ 3) :
    Laid a b sp dp data k (datagramL a b sp dp data (k : Int) id) := by
  have hdl : (datL a b ⟨sp, dp, (k : Int) == 1, data⟩).length = 8 + data.length := datL_len _ _ _
  have hkl := kindL_len (datL a b ⟨sp, dp, (k : Int) == 1, data⟩) (k : Int)
  obtain ⟨e1, e2, e3, e4⟩ := pack_facts (id := id) (d := kindL (datL a b ⟨sp, dp, (k : Int) == 1, data⟩) (k : Int)) ha hb hid (by omega) (by omega)
  have hR := datL_right (d := ⟨sp, dp, (k : Int) == 1, data⟩) hp ha.1 h1 h2 (by dsimp only; omega)
  have hw := datL_words (a := a) (b := b) (ns := (k : Int) == 1) h1 h2 (show data.length ≤ 65507 by omega)
  have hkw := kindL_words (d := datL a b ⟨sp, dp, (k : Int) == 1, data⟩) (k := (k : Int))
  have hv := datagram_valid (id := id) ha hb hp h1 h2 hid hl hk
  have hll : datagramL a b sp dp data (k : Int) id = packL (dgPk a b id (kindL (datL a b ⟨sp, dp, (k : Int) == 1, data⟩) (k : Int))) := rfl
  have hlow : k < 2 → kindL (datL a b ⟨sp, dp, (k : Int) == 1, data⟩) (k : Int) = datL a b ⟨sp, dp, (k : Int) == 1, data⟩ := fun h => kindL_low _ (by omega)
  rw [hll] at hv ⊢
  clear hll
  generalize kindL (datL a b ⟨sp, dp, (k : Int) == 1, data⟩) (k : Int) = D at *
  generalize packL (dgPk a b id D) = L at *
  have hP := parseP_of e1
  rw [e3] at hP
  have hdr : L.drop 20 = D := congrArg Pk.data (hP.symm.trans e2)
  refine ⟨e1, e3, by rw [e2]; rfl, by rw [e2]; rfl, by rw [e2]; rfl, by rw [e2]; rfl, by rw [e2]; rfl, by rw [hdr, e2]; rfl, by rw [hdr, hkl, hdl], by rw [e4, hkl, hdl]; omega, by rw [hdr, hkw.1]; exact hw.1, by rw [hdr, hkw.2]; exact hw.2, hv, fun hk2 => ?_⟩
  rw [hdr, hlow hk2]
  have hE := hR.2.1
  unfold udpP at hE
  rw [if_pos hR.1] at hE
  have hd8 : (datL a b ⟨sp, dp, (k : Int) == 1, data⟩).drop 8 = data := congrArg Dg.data hE
  have hns : decide (wordL (datL a b ⟨sp, dp, (k : Int) == 1, data⟩) 6 = 0) = ((k : Int) == 1) := congrArg Dg.nosum hE
  refine ⟨hd8, ?_⟩
  constructor
  · intro h
    rw [decide_eq_true h] at hns
    have := beq_iff_eq.1 hns.symm
    omega
  · intro h
    refine of_decide_eq_true (hns.trans (beq_iff_eq.2 (by omega)))
theorem Laid.goes {a b : Ad} {sp dp : Int} {data : List UInt8} {k : Nat} {l : List UInt8} (h : Laid a b sp dp data k l) (s : NatS) (port : Int) : Goes s l a b port :=
  ⟨h.e0, h.src, h.dst, h.proto, h.off, h.more, by rw [h.dat, h.dlen]; omega, h.head⟩
/-- What is known of a datagram that went out. -/
structure Went (s s' : NatS) (a b : Ad) (sp dp : Int) (data : List UInt8) (k : Nat) (l o : List UInt8) (out : Int) : Prop where
  inv : Inv 0 s'
  cf : s'.cf = s.cf
  num : s'.maps.length ≤ s.maps.length + 1
  keep : ∀ m ∈ s.maps, m ∈ s'.maps
  has : ∃ m ∈ s'.maps, m.addr = a ∧ m.port = sp ∧ m.out = out
  bd : 4000 ≤ out ∧ out ≤ 4255
  len : o.length = l.length
  src : (parseP o).src = fourD 192 0 2 1
  dst : (parseP o).dst = b
  valid : validB o = decide (k < 2)
  dlen : (parseP o).data.length = 8 + data.length
  w0 : wordL (parseP o).data 0 = out
  low : k < 2 → validD o = ⟨out, dp, decide (k = 1), data⟩
theorem used0 {s : NatS} (h : Inv 0 s) : ∀ m ∈ s.maps, m.used = 0 := fun m hm => by
  have := h.each m hm
  omega
theorem wide_last : (wideC 255).last = 4255 := by kernel_rfl
theorem out_turn {s : NatS} {a b : Ad} {sp dp : Int} {data : List UInt8} {k : Nat} {l : List UInt8} (hI : Inv 0 s) (hcf : s.cf = wideC 255) (hn : s.maps.length ≤ 20) (hL : Laid a b sp dp data k l) (ha : insideA (wideC 255) a = true) (hb : outsideA (wideC 255) b = true) :
    ∃ out, (outS s 0 l).1 = 0 ∧ Went s (outS s 0 l).2.2 a b sp dp data k l (outS s 0 l).2.1 out := by
  have hl0 : (0 : Int) ≤ 0 := Int.le_refl _
  have hx : ExCf s.cf := by rw [hcf]; exact ⟨rfl, rfl, rfl⟩
  have hlast := wide_last
  have hpm := passes_live hI hl0 (by decide) (by rw [hcf]; decide) (used0 hI)
  have hpI := (hI.passes hl0 (by decide)).2
  have hpc := passes_cf s 0
  have heq := out_eq hI hl0 (by decide) hL.e0
  have hfin := hI.outS hl0 (by decide) l
  obtain ⟨out, z, k1, k2, k3, k4⟩ := out_goes (s := (passesS s 0).2) (port := sp) hpI (hL.goes _ sp) (by rw [hL.dat]; exact hL.w0) (by rw [hpc, hcf]; exact ha) (by rw [hpc, hcf]; exact hb) (by rw [hpm, hpc, hcf]; show (s.maps.length : Int) < 256; omega) (by rw [hpm, hpc, hcf, hlast]; show s.maps.length < (4255 + 1 - 4000 : Int).toNat; omega) (by rw [hpm]; exact used0 hI) hpI.at_
  rw [← heq] at k1
  rw [hpm] at k2 k3
  have hR := out_right (s := (passesS s 0).2) (by rw [hpc]; exact hx) hL.e0 (by rw [← heq, k1])
  rw [← heq] at hR
  rw [k1] at hfin hR ⊢
  have ho4 : (passesS s 0).2.cf.outside = fourD 192 0 2 1 := by rw [hpc, hcf]; rfl
  rw [ho4] at hR ⊢
  obtain ⟨m, hm1, hm2, hm3, hm4⟩ := k4
  have hbd := hfin.each m hm1
  dsimp only at hbd
  rw [hpc, hcf, hm4, hlast] at hbd
  have hbd : 4000 ≤ out ∧ out ≤ 4255 := ⟨hbd.1, hbd.2.1⟩
  obtain ⟨w1, w2, w3, w4, w5⟩ := end_words (l := l) (k := 12) (a := fourD 192 0 2 1) (port := out) (.inl rfl) (by rw [hL.dlen]; omega) (by omega)
  obtain ⟨p1, p2, p3, -⟩ := end_parsed (l := l) (k := 12) (a := fourD 192 0 2 1) (port := out) (.inl rfl) hL.e0 hL.head (is4_four _ _ _ _) (by rw [hL.dlen]; omega)
  have hv : validB (endL l 12 (fourD 192 0 2 1) out 20) = decide (k < 2) := (hR.valid hL.proto hL.off hL.more).symm.trans hL.valid
  refine ⟨out, rfl, hfin, hpc, k2, k3, ⟨m, hm1, hm2, hm3, hm4⟩, hbd, hR.len, (p3 rfl).1, (p3 rfl).2.trans hL.dst, hv, by rw [p2, w1, hL.dlen], by rw [p2]; exact w2, fun hk => ?_⟩
  obtain ⟨q1, q2⟩ := hL.low hk
  rw [decide_eq_true hk] at hv
  have hud : udpE (parseP (endL l 12 (fourD 192 0 2 1) out 20)).src (parseP (endL l 12 (fourD 192 0 2 1) out 20)).dst (parseP (endL l 12 (fourD 192 0 2 1) out 20)).data = 0 := by
    unfold validB at hv
    simp only [Bool.and_eq_true, decide_eq_true_eq] at hv
    exact hv.2
  have w3 : wordL ((endL l 12 (fourD 192 0 2 1) out 20).drop 20) 2 = wordL (l.drop 20) 2 := w3
  unfold validD
  rw [if_pos p1]
  unfold udpP
  rw [if_pos hud, p2, show wordL ((endL l 12 (fourD 192 0 2 1) out 20).drop 20) 0 = out from w2, w3, hL.w2, w4, q1]
  rw [show decide (wordL ((endL l 12 (fourD 192 0 2 1) out 20).drop 20) 6 = 0) = decide (k = 1) from decide_eq_decide.2 (w5.trans q2)]
/-- What is known of an answer that came in. -/
structure Came (s s' : NatS) (t : Int) (a b : Ad) (sp port : Int) (data : List UInt8) (k : Nat) (l o : List UInt8) : Prop where
  len : o.length = l.length
  src : (parseP o).src = a
  dst : (parseP o).dst = b
  valid : validB o = decide (k < 2)
  dlen : (parseP o).data.length = 8 + data.length
  w2 : wordL (parseP o).data 2 = port
  low : k < 2 → validD o = ⟨sp, port, decide (k = 1), data⟩
theorem in_live {s : NatS} {a : Ad} {sp out n t : Int} {data : List UInt8} {k : Nat} {l : List UInt8} {m : Nm} (hI : Inv n s) (hnt : n ≤ t) (ht : t < 100) (hcf : s.cf = wideC 255) (h0 : ∀ m ∈ s.maps, m.used = 0) (hL : Laid a (fourD 192 0 2 1) sp out data k l) (ha : outsideA (wideC 255) a = true) (hm : m ∈ s.maps) (hmo : m.out = out) :
    (cameS s t l).1 = 0 ∧ Came s (cameS s t l).2.2 t a m.addr sp m.port data k l (cameS s t l).2.1 ∧ (cameS s t l).2.2.maps = s.maps ∧ (cameS s t l).2.2.cf = s.cf ∧ Inv t (cameS s t l).2.2 := by
  have h2 : t ≤ 1099511627776 := by omega
  have hpm := passes_live hI hnt h2 (by rw [hcf]; exact ht) h0
  have hpI := (hI.passes hnt h2).2
  have hpc := passes_cf s t
  have heq := came_eq hI hnt h2 hL.e0
  have hx : ExCf (passesS s t).2.cf := by rw [hpc, hcf]; exact ⟨rfl, rfl, rfl⟩
  have ho4 : (passesS s t).2.cf.outside = fourD 192 0 2 1 := by rw [hpc, hcf]; rfl
  have hm' : m ∈ (passesS s t).2.maps := by rw [hpm]; exact hm
  have hc := came_comes (s := (passesS s t).2) (port := 0) hpI (hL.goes _ 0) (by rw [hL.dat]; exact hL.w2) ho4.symm (by rw [hpc, hcf]; exact ha) hm' hmo
  have hin := hx.inside (hpI.ok.maps m hm') (hpI.each m hm').2.2.1
  have hfin := hI.cameS hnt h2 l
  rw [heq, hc] at hfin ⊢
  have hoff : ¬ (parseP l).off > 0 := by rw [hL.off]; decide
  have h8 : ¬ (parseP l).data.length < 8 := by rw [hL.dat, hL.dlen]; omega
  have hR := right_end (cf := wideC 255) (inn := true) (port := m.port) hL.e0 hin.1 (fun h => Bool.noConfusion h) (fun _ => hin.2) hoff hL.proto h8
  rw [hL.head] at hR
  have hR : Right (wideC 255) true l (endL l 16 m.addr m.port 20) := hR
  have hpb := (hpI.each m hm').2.2.2.2.2.2
  obtain ⟨w1, w2, w3, w4, w5⟩ := end_words (l := l) (k := 16) (a := m.addr) (port := m.port) (.inr rfl) (by rw [hL.dlen]; omega) (by omega)
  obtain ⟨p1, p2, -, p3⟩ := end_parsed (l := l) (k := 16) (a := m.addr) (port := m.port) (.inr rfl) hL.e0 hL.head hin.1 (by rw [hL.dlen]; omega)
  have hv : validB (endL l 16 m.addr m.port 20) = decide (k < 2) := (hR.valid hL.proto hL.off hL.more).symm.trans hL.valid
  have w2 : wordL ((endL l 16 m.addr m.port 20).drop 20) 2 = m.port := w2
  have w3 : wordL ((endL l 16 m.addr m.port 20).drop 20) 0 = wordL (l.drop 20) 0 := w3
  refine ⟨rfl, ⟨hR.len, (p3 rfl).2.trans hL.src, (p3 rfl).1, hv, by rw [p2, w1, hL.dlen], by rw [p2]; exact w2, fun hk => ?_⟩, hpm, hpc, hfin⟩
  obtain ⟨q1, q2⟩ := hL.low hk
  rw [decide_eq_true hk] at hv
  have hud : udpE (parseP (endL l 16 m.addr m.port 20)).src (parseP (endL l 16 m.addr m.port 20)).dst (parseP (endL l 16 m.addr m.port 20)).data = 0 := by
    unfold validB at hv
    simp only [Bool.and_eq_true, decide_eq_true_eq] at hv
    exact hv.2
  unfold validD
  rw [if_pos p1]
  unfold udpP
  rw [if_pos hud, p2, w2, w3, hL.w0, w4, q1]
  rw [show decide (wordL ((endL l 16 m.addr m.port 20).drop 20) 6 = 0) = decide (k = 1) from decide_eq_decide.2 (w5.trans q2)]
theorem in_dead {s : NatS} {a b : Ad} {sp out n t : Int} {data : List UInt8} {k : Nat} {l : List UInt8} (hI : Inv n s) (hnt : n ≤ t) (ht : 100 ≤ t) (ht2 : t ≤ 127) (hcf : s.cf = wideC 255) (h0 : ∀ m ∈ s.maps, m.used = 0) (hL : Laid a b sp out data k l) :
    (cameS s t l).1 ≠ 0 ∧ (cameS s t l).2.1 = [] ∧ (∀ m ∈ (cameS s t l).2.2.maps, m.used = 0) ∧ (cameS s t l).2.2.cf = s.cf ∧ Inv t (cameS s t l).2.2 := by
  have h2 : t ≤ 1099511627776 := by omega
  have hpm := passes_dead hI hnt h2 (by rw [hcf]; exact ht) h0
  have hpc := passes_cf s t
  have heq := came_eq hI hnt h2 hL.e0
  have hfin := hI.cameS hnt h2 l
  obtain ⟨g1, g2, g3⟩ := came_gone (s := (passesS s t).2) (hL.goes _ 0) hpm
  rw [heq] at hfin ⊢
  refine ⟨g1, g2, ?_, by rw [g3]; exact hpc, hfin⟩
  rw [g3, hpm]
  exact fun m hm => by cases hm
end Go.Proofs.YtofomopdaponbaaGreatDoor
/-
  The addresses of the laws' ends and peers lie inside and outside. Plain: no program in sight.
-/
namespace Go.Proofs.YtofomopdaponbaaGreatDoor
open Go.RowKit
set_option linter.unusedVariables false
set_option linter.unusedSimpArgs false

theorem cases8 {x : Int} (h : 0 ≤ x ∧ x ≤ 7) : x = 0 ∨ x = 1 ∨ x = 2 ∨ x = 3 ∨ x = 4 ∨ x = 5 ∨ x = 6 ∨ x = 7 := by omega
theorem cases16 {x : Int} (h : 0 ≤ x ∧ x ≤ 15) : x = 0 ∨ x = 1 ∨ x = 2 ∨ x = 3 ∨ x = 4 ∨ x = 5 ∨ x = 6 ∨ x = 7 ∨ x = 8 ∨ x = 9 ∨ x = 10 ∨ x = 11 ∨ x = 12 ∨ x = 13 ∨ x = 14 ∨ x = 15 := by omega
theorem host_inside (h : Int) : insideA (wideC 255) (hostA h) = true := by
  unfold hostA
  rcases cases8 (and7n (x := h)) with e | e | e | e | e | e | e | e <;> rw [e] <;> kernel_rfl
theorem peer_outside (k : Int) : outsideA (wideC 255) (peerA k) = true := by
  unfold peerA
  rcases cases16 (and15n (x := k)) with e | e | e | e | e | e | e | e | e | e | e | e | e | e | e | e <;> rw [e] <;> kernel_rfl
theorem pair_hp (h k : Int) : pairA (hostA h) (peerA k) = true := pair4 (x := [10, 0, 0, byteB (1 + andI .i64 h 7)]) (y := [198, 51, 100, byteB (1 + andI .i64 k 15)]) rfl rfl
theorem pair_po (k : Int) : pairA (peerA k) (fourD 192 0 2 1) = true := pair4 (x := [198, 51, 100, byteB (1 + andI .i64 k 15)]) (y := [192, 0, 2, 1]) rfl rfl
theorem host_ok (h : Int) : okAd (hostA h) := fourD_ok _ _ _ _
theorem peer_ok (k : Int) : okAd (peerA k) := fourD_ok _ _ _ _
theorem host_is4 (h : Int) : Is4 (hostA h) := is4_four _ _ _ _
theorem peer_is4 (k : Int) : Is4 (peerA k) := is4_four _ _ _ _
theorem peerP_bd (k : Int) : 0 ≤ peerP k ∧ peerP k ≤ 65535 := by
  have := and1023n (x := k / 16)
  unfold peerP
  omega
/-- The mappings that the ends have got. -/
def Known (s : NatS) (z : List (Int × Int)) (outs : List Int) : Prop := outs.length ≤ z.length ∧ ∀ (j : Nat) (e : Int × Int) (o : Int), z[j]? = some e → outs[j]? = some o → ∃ m ∈ s.maps, m.addr = hostA e.1 ∧ m.port = andI .i64 e.2 65535 ∧ m.out = o
theorem Known.same {s : NatS} {n : Int} {z : List (Int × Int)} {outs : List Int} (h : Known s z outs) (hI : Inv n s) {j : Nat} {e e' : Int × Int} {o o' : Int} (hj : z[j]? = some e) (hoj : outs[j]? = some o) (hm : ∃ m ∈ s.maps, m.addr = hostA e'.1 ∧ m.port = andI .i64 e'.2 65535 ∧ m.out = o') :
    (o = o') ↔ (hostA e.1 = hostA e'.1 ∧ andI .i64 e.2 65535 = andI .i64 e'.2 65535) := by
  obtain ⟨m, hm1, a1, a2, a3⟩ := h.2 j e o hj hoj
  obtain ⟨m', hm2, b1, b2, b3⟩ := hm
  constructor
  · intro ho
    have := nodup_inj hI.outs hm1 hm2 (by rw [a3, b3, ho])
    subst this
    exact ⟨a1.symm.trans b1, a2.symm.trans b2⟩
  · intro ⟨h1, h2⟩
    have := nodup_inj hI.ends hm1 hm2 (by rw [a1, a2, b1, b2, h1, h2])
    subst this
    exact a3.symm.trans b3
end Go.Proofs.YtofomopdaponbaaGreatDoor
