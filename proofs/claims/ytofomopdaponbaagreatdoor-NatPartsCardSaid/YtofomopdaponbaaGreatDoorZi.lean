/-
  What stays true of a Nat's state, whatever goes out and comes in. Plain: no program in sight.
-/
import Derived.Test.YtofomopdaponbaaGreatDoorZh
namespace Go.Proofs.YtofomopdaponbaaGreatDoor
open Go.RowKit
set_option linter.unusedVariables false
set_option linter.unusedSimpArgs false

structure Inv (now : Int) (s : NatS) : Prop where
  ok : okS s
  at_ : s.now = now
  n0 : 0 ≤ now
  n1 : now ≤ 1099511627776
  life : 1 ≤ s.cf.life
  outs : (s.maps.map (·.out)).Nodup
  ends : (s.maps.map (fun m => (m.addr, m.port))).Nodup
  each : ∀ m ∈ s.maps, s.cf.first ≤ m.out ∧ m.out ≤ s.cf.last ∧ insideA s.cf m.addr = true ∧ 0 ≤ m.used ∧ m.used ≤ now ∧ now - m.used < s.cf.life ∧ 0 ≤ m.port ∧ m.port ≤ 65535
theorem Nodup.map_filter {α β : Type} {f : α → β} {p : α → Bool} {z : List α} (h : (z.map f).Nodup) : ((z.filter p).map f).Nodup := h.sublist (List.filter_sublist.map f)
theorem wrap_sub {a b : Int} (ha : 0 ≤ a) (ha' : a ≤ 1099511627776) (hb : 0 ≤ b) (hb' : b ≤ 1099511627776) : IntKind.i64.wrap (a - b) = a - b := wi_id (by omega) (by omega)
theorem Inv.passes {now now' : Int} {s : NatS} (h : Inv now s) (h1 : now ≤ now') (h2 : now' ≤ 1099511627776) : (passesS s now').1 = true ∧ Inv now' (passesS s now').2 := by
  have hb : betweenI now' s.now 1099511627776 = true := by
    unfold betweenI
    rw [h.at_, decide_eq_true (show now' ≥ now by omega), decide_eq_true h2]
    rfl
  have hok := passes_ok h.ok now'
  have e : passesS s now' = (true, ⟨s.cf, now', s.maps.filter (fun m => !aged now' m.used s.cf.life), s.outs.filter (fun x => !aged now' x.from_ s.cf.hold), s.ins.filter (fun x => !aged now' x.from_ s.cf.hold)⟩) := if_pos hb
  rw [e] at hok ⊢
  have n0 := h.n0
  refine ⟨rfl, hok, rfl, by omega, h2, h.life, Nodup.map_filter h.outs, Nodup.map_filter h.ends, fun m hm => ?_⟩
  obtain ⟨hm1, hm2⟩ := List.mem_filter.1 hm
  obtain ⟨k1, k2, k3, k4, k5, k6, k7⟩ := h.each m hm1
  have hage : ¬ now' - m.used ≥ s.cf.life := by
    intro hc
    unfold aged at hm2
    rw [wrap_sub (by omega) h2 k4 (by omega), decide_eq_true hc] at hm2
    exact Bool.noConfusion hm2
  exact ⟨k1, k2, k3, k4, by show m.used ≤ now'; omega, by show now' - m.used < s.cf.life; omega, k7⟩
theorem notedL_len {parts now : Int} {z : List Nt} {k : Ky} {a : Ad} (h : (z.length : Int) ≤ parts) : ((notedL parts now z k a).length : Int) ≤ parts := by
  have h1 := List.length_filter_le (fun x : Nt => !decide (x.key = k)) z
  have h2 : notedL parts now z k a = if (((z.filter (fun x => !decide (x.key = k)) ++ [(⟨k, a, now⟩ : Nt)]).length : Nat) : Int) > parts then (z.filter (fun x => !decide (x.key = k)) ++ [(⟨k, a, now⟩ : Nt)]).drop 1 else z.filter (fun x => !decide (x.key = k)) ++ [(⟨k, a, now⟩ : Nt)] := rfl
  rw [h2]
  split
  · rw [List.length_drop, List.length_append]
    simp only [List.length_singleton]
    omega
  · omega
theorem notedL_mem {parts now : Int} {z : List Nt} {k : Ky} {a : Ad} {x : Nt} (h : x ∈ notedL parts now z k a) : x ∈ z ∨ x = ⟨k, a, now⟩ := by
  have h2 : notedL parts now z k a = if (((z.filter (fun x => !decide (x.key = k)) ++ [(⟨k, a, now⟩ : Nt)]).length : Nat) : Int) > parts then (z.filter (fun x => !decide (x.key = k)) ++ [(⟨k, a, now⟩ : Nt)]).drop 1 else z.filter (fun x => !decide (x.key = k)) ++ [(⟨k, a, now⟩ : Nt)] := rfl
  rw [h2] at h
  have h3 : x ∈ z.filter (fun x => !decide (x.key = k)) ++ [(⟨k, a, now⟩ : Nt)] := by
    split at h
    · exact List.mem_of_mem_drop h
    · exact h
  rcases List.mem_append.1 h3 with h3 | h3
  · exact .inl (List.mem_filter.1 h3).1
  · exact .inr (List.mem_singleton.1 h3)
theorem notedL_ok {parts now : Int} {z : List Nt} {k : Ky} {a : Ad} (h : ∀ x ∈ z, okKy x.key ∧ okAd x.addr) (hk : okKy k) (ha : okAd a) : ∀ x ∈ notedL parts now z k a, okKy x.key ∧ okAd x.addr := fun x hx => by
  rcases notedL_mem hx with hx | rfl
  · exact h x hx
  · exact ⟨hk, ha⟩
theorem freeFrom_some {z : List Nm} : ∀ {n : Nat} {out r : Int}, freeFrom z out n = some r → out ≤ r ∧ r < out + n ∧ ∀ m ∈ z, m.out ≠ r
  | 0, out, r, h => by cases h
  | n + 1, out, r, h => by
    unfold freeFrom at h
    split at h
    · rename_i hi
      obtain rfl : out = r := Option.some.inj h
      refine ⟨by omega, by omega, fun m hm e => ?_⟩
      unfold idxI at hi
      split at hi
      · omega
      · rename_i hn
        have := List.findIdx?_eq_none_iff.1 hn m hm
        simp [e] at this
    · obtain ⟨h1, h2, h3⟩ := freeFrom_some h
      exact ⟨by omega, by omega, h3⟩
theorem idxI_none {α : Type} {p : α → Bool} {z : List α} (h : ¬ idxI p z ≥ 0) : ∀ x ∈ z, p x = false := by
  intro x hx
  unfold idxI at h
  split at h
  · omega
  · rename_i hn
    exact List.findIdx?_eq_none_iff.1 hn x hx
/-- What mapped leaves: the mappings as they were, or one more. -/
theorem mapped_cases {now : Int} {s : NatS} (h : Inv now s) (a : Ad) (port : Int) : (mappedS s a port).2 = s.maps ∨
    ((mappedS s a port).1 = s.maps.length ∧ ∃ out, (mappedS s a port).2 = s.maps ++ [⟨a, port, out, 0⟩] ∧ s.cf.first ≤ out ∧ out ≤ s.cf.last ∧ (s.maps.length : Int) < s.cf.maps ∧ (∀ m ∈ s.maps, m.out ≠ out) ∧ ∀ m ∈ s.maps, ¬ (m.addr = a ∧ m.port = port)) := by
  unfold mappedS
  split
  · exact .inl rfl
  · rename_i h1
    split
    · exact .inl rfl
    · rename_i h2
      split
      · rename_i out hout
        obtain ⟨k1, k2, k3⟩ := freeFrom_some hout
        refine .inr ⟨rfl, out, rfl, k1, by omega, by omega, k3, fun m hm hc => ?_⟩
        have := idxI_none h1 m hm
        unfold endIs at this
        rw [hc.1, hc.2] at this
        simp at this
      · exact .inl rfl
theorem nodup_snoc {α : Type} {z : List α} {x : α} (h : z.Nodup) (hx : x ∉ z) : (z ++ [x]).Nodup := by
  rw [List.nodup_append]
  exact ⟨h, by simp, fun a ha b hb => by
    obtain rfl : b = x := List.mem_singleton.1 hb
    exact fun e => hx (e ▸ ha)⟩
theorem useM_map {β : Type} (f : Nm → β) (hf : ∀ m u, f { m with used := u } = f m) (z : List Nm) (i now : Int) : (useM z i now).map f = z.map f := by
  unfold useM
  rw [List.map_set, hf]
  apply List.ext_getElem?
  intro j
  by_cases hj : i.toNat = j
  · subst hj
    rw [List.getElem?_set]
    simp only [if_true, List.length_map, List.getElem?_map]
    by_cases hl : i.toNat < z.length
    · rw [if_pos hl]
      simp [List.getD_eq_getElem?_getD, List.getElem?_eq_getElem hl]
    · rw [if_neg hl, List.getElem?_eq_none (by omega)]
      rfl
  · rw [List.getElem?_set_ne hj]
theorem useM_mem {z : List Nm} {i now : Int} {m : Nm} (h : m ∈ useM z i now) : m ∈ z ∨ (i.toNat < z.length ∧ m = { z.getD i.toNat nm0 with used := now } ∧ z.getD i.toNat nm0 ∈ z) := by
  unfold useM at h
  by_cases hl : i.toNat < z.length
  · rcases List.mem_or_eq_of_mem_set h with h | h
    · exact .inl h
    · refine .inr ⟨hl, h, ?_⟩
      simp [List.getD_eq_getElem?_getD, List.getElem?_eq_getElem hl]
  · rw [List.set_eq_of_length_le (by omega)] at h
    exact .inl h
/-- Mappings and notes of the way out written over. -/
theorem Inv.out1 {now : Int} {s : NatS} (h : Inv now s) {a : Ad} {port : Int} (ha : okAd a) (hi : insideA s.cf a = true) (hp : 0 ≤ port ∧ port ≤ 65535) {os : List Nt} (ho : (os.length : Int) ≤ s.cf.parts) (hok : ∀ x ∈ os, okKy x.key ∧ okAd x.addr) (hneg : ¬ (mappedS s a port).1 < 0) :
    Inv now ⟨s.cf, s.now, useM (mappedS s a port).2 (mappedS s a port).1 s.now, os, s.ins⟩ := by
  have n0 := h.n0
  have hlife := h.life
  have hidx := mapped_idx hneg
  generalize hr1 : (mappedS s a port).1 = r at *
  have hc := mapped_cases h a port
  rw [hr1] at hc
  generalize (mappedS s a port).2 = z at *
  have hz : (z.map (·.out)).Nodup ∧ (z.map (fun m => (m.addr, m.port))).Nodup ∧ (z.length : Int) ≤ s.cf.maps ∧ ∀ m ∈ z, okAd m.addr ∧ s.cf.first ≤ m.out ∧ m.out ≤ s.cf.last ∧ insideA s.cf m.addr = true ∧ 0 ≤ m.port ∧ m.port ≤ 65535 ∧ ((0 ≤ m.used ∧ m.used ≤ now ∧ now - m.used < s.cf.life) ∨ (r = s.maps.length ∧ z = s.maps ++ [m])) := by
    rcases hc with rfl | ⟨hr, out, rfl, k1, k2, k3, k4, k5⟩
    · exact ⟨h.outs, h.ends, h.ok.nmaps, fun m hm => by
        obtain ⟨e1, e2, e3, e4, e5, e6, e7, e8⟩ := h.each m hm
        exact ⟨h.ok.maps m hm, e1, e2, e3, e7, e8, .inl ⟨e4, e5, e6⟩⟩⟩
    · refine ⟨?_, ?_, by simp only [List.length_append, List.length_singleton]; omega, fun m hm => ?_⟩
      · rw [List.map_append]
        exact nodup_snoc h.outs (fun hm => by
          obtain ⟨m, hm, e⟩ := List.mem_map.1 hm
          exact k4 m hm e)
      · rw [List.map_append]
        exact nodup_snoc h.ends (fun hm => by
          obtain ⟨m, hm, e⟩ := List.mem_map.1 hm
          injection e with e1 e2
          exact k5 m hm ⟨e1, e2⟩)
      · rcases List.mem_append.1 hm with hm | hm
        · obtain ⟨e1, e2, e3, e4, e5, e6, e7, e8⟩ := h.each m hm
          exact ⟨h.ok.maps m hm, e1, e2, e3, e7, e8, .inl ⟨e4, e5, e6⟩⟩
        · obtain rfl := List.mem_singleton.1 hm
          exact ⟨ha, k1, k2, hi, hp.1, hp.2, .inr ⟨hr, rfl⟩⟩
  obtain ⟨z1, z2, z3, z4⟩ := hz
  obtain ⟨i, hil, hie⟩ := hidx
  have hnow := h.at_
  refine ⟨⟨h.ok.cf, h.ok.first, h.ok.last, h.ok.cmaps, h.ok.cparts, ?_, ho, h.ok.nins, fun m hm => ?_, hok, h.ok.ins⟩, h.at_, n0, h.n1, hlife, ?_, ?_, fun m hm => ?_⟩
  · show ((useM z r s.now).length : Int) ≤ s.cf.maps
    rw [useM_len]
    exact z3
  · rcases useM_mem hm with hm2 | ⟨-, rfl, hm2⟩
    · exact (z4 m hm2).1
    · exact (z4 _ hm2).1
  · show ((useM z r s.now).map (·.out)).Nodup
    rw [useM_map _ (fun _ _ => rfl)]
    exact z1
  · show ((useM z r s.now).map (fun m => (m.addr, m.port))).Nodup
    rw [useM_map _ (fun _ _ => rfl)]
    exact z2
  · have hm : m ∈ useM z r s.now := hm
    show s.cf.first ≤ m.out ∧ _
    by_cases e : m = { z.getD r.toNat nm0 with used := s.now } ∧ z.getD r.toNat nm0 ∈ z
    · obtain ⟨rfl, hm2⟩ := e
      obtain ⟨-, e1, e2, e3, e4, e5, -⟩ := z4 _ hm2
      exact ⟨e1, e2, e3, by show 0 ≤ s.now; omega, by show s.now ≤ now; omega, by show now - s.now < s.cf.life; omega, e4, e5⟩
    · rcases useM_mem hm with hm0 | ⟨-, rfl, hm0⟩
      · obtain ⟨-, e1, e2, e3, e4, e5, e6⟩ := z4 m hm0
        rcases e6 with ⟨e6, e7, e8⟩ | ⟨e6, e7⟩
        · exact ⟨e1, e2, e3, e6, e7, e8, e4, e5⟩
        · exfalso
          -- the new mapping is the one that is written over
          subst e7
          have hri : r.toNat = s.maps.length := by omega
          unfold useM at hm
          rw [hri, List.set_append_right _ _ (Nat.le_refl _), Nat.sub_self, List.set_cons_zero] at hm
          rcases List.mem_append.1 hm with hm | hm
          · have k := (h.each m hm)
            -- m lies among the elder ones and is the last one: two with one port
            have : ((s.maps ++ [m]).map (·.out)).Nodup := z1
            rw [List.map_append, List.nodup_append] at this
            exact this.2.2 m.out (List.mem_map_of_mem hm) m.out (by simp) rfl
          · refine e ⟨?_, ?_⟩
            · rw [hri]
              exact List.mem_singleton.1 hm
            · rw [hri]
              simp
      · exact (e ⟨rfl, hm0⟩).elim
theorem Inv.out {now : Int} {s : NatS} (h : Inv now s) {l : List UInt8} (hP : Parsed l) : Inv now (outR s (parseP l) l).2.2 := by
  have hk := hP.key
  have hw := wordL_bd (parseP l).data 0
  unfold outR
  split
  · exact h
  rename_i hin
  have hin : insideA s.cf (parseP l).src = true := by
    cases hi : insideA s.cf (parseP l).src with
    | true => rfl
    | false => rw [hi] at hin; simp at hin
  split
  · split
    · split <;> exact h
    · split
      · exact h
      · split
        · rename_i hneg
          have : (mappedS s (parseP l).src (wordL (parseP l).data 0)).2 = s.maps := by
            rcases mapped_cases h (parseP l).src (wordL (parseP l).data 0) with h1 | ⟨h1, -⟩
            · exact h1
            · omega
          show Inv now ⟨s.cf, s.now, (mappedS s (parseP l).src (wordL (parseP l).data 0)).2, s.outs, s.ins⟩
          rw [this]
          exact h
        · rename_i hneg
          split
          · exact h.out1 hk.src hin hw (notedL_len h.ok.nouts) (notedL_ok h.ok.outs hk hk.src) hneg
          · exact h.out1 hk.src hin hw h.ok.nouts h.ok.outs hneg
  · split
    · exact h
    · split <;> exact h
theorem Inv.came {now : Int} {s : NatS} (h : Inv now s) {l : List UInt8} (hP : Parsed l) : Inv now (cameR s (parseP l) l).2.2 := by
  have hk := hP.key
  unfold cameR
  split
  · exact h
  split
  · split
    · split <;> exact h
    · split
      · exact h
      · split
        · exact h
        · rename_i m hm
          split
          · exact ⟨⟨h.ok.cf, h.ok.first, h.ok.last, h.ok.cmaps, h.ok.cparts, h.ok.nmaps, h.ok.nouts, notedL_len h.ok.nins, h.ok.maps, h.ok.outs, notedL_ok h.ok.ins hk (h.ok.maps m (List.mem_of_find?_eq_some hm))⟩, h.at_, h.n0, h.n1, h.life, h.outs, h.ends, h.each⟩
          · exact h
  · split
    · exact h
    · split <;> exact h
theorem begin_parsed {s : NatS} {now : Int} {l : List UInt8} (h : ¬ beginE s now l ≠ 0) : Parsed l := by
  have h : beginE s now l = 0 := Classical.not_not.1 h
  unfold beginE at h
  split at h
  · exact parse_ok h
  · exact absurd h (by decide)
theorem Inv.outS {now now' : Int} {s : NatS} (h : Inv now s) (h1 : now ≤ now') (h2 : now' ≤ 1099511627776) (l : List UInt8) : Inv now' (outS s now' l).2.2 := by
  have hp := (h.passes h1 h2).2
  unfold Go.Proofs.YtofomopdaponbaaGreatDoor.outS
  split
  · exact hp
  · rename_i he
    exact hp.out (begin_parsed he)
theorem Inv.cameS {now now' : Int} {s : NatS} (h : Inv now s) (h1 : now ≤ now') (h2 : now' ≤ 1099511627776) (l : List UInt8) : Inv now' (cameS s now' l).2.2 := by
  have hp := (h.passes h1 h2).2
  unfold Go.Proofs.YtofomopdaponbaaGreatDoor.cameS
  split
  · exact hp
  · rename_i he
    exact hp.came (begin_parsed he)
end Go.Proofs.YtofomopdaponbaaGreatDoor
/-
  NatShares: what is looked at, in plain words.
-/
namespace Go.Proofs.YtofomopdaponbaaGreatDoor
open Go.RowKit
set_option linter.unusedVariables false
set_option linter.unusedSimpArgs false

theorem and255 (c : UInt8) : c &&& 255 = c := by
  apply UInt8.toNat_inj.1
  rw [UInt8.toNat_and]
  show c.toNat &&& 255 = c.toNat
  rw [show (255 : Nat) = 2 ^ 8 - 1 from rfl, Nat.and_two_pow_sub_one_eq_mod]
  have := c.toNat_lt
  omega
/-- What lies inside the document's example. -/
theorem inside10 {c : Cf} {a : Ad} (hn : c.net = fourD 10 0 0 0) (hb : c.bits = 8) (ha : okAd a) (h : insideA c a = true) : a.1 = 4 ∧ a.2.getD 0 0 = 10 := by
  unfold insideA at h
  simp only [Bool.and_eq_true] at h
  have h := h.2
  rw [hn, hb] at h
  unfold withinA at h
  simp only [Bool.and_eq_true, decide_eq_true_eq] at h
  obtain ⟨⟨h1, h2⟩, h3⟩ := h
  unfold maskA at h3
  rw [if_pos h1, if_pos h2] at h3
  obtain ⟨v, l⟩ := a
  obtain ⟨-, -, hl⟩ := ha
  simp only [Prod.mk.injEq] at h3
  refine ⟨h3.1, ?_⟩
  have h4 := congrArg (fun x => x.getD 0 0) h3.2
  have hl0 : 0 < l.length := by simp at hl; omega
  have e1 : (mskL 8 l).getD 0 0 = l.getD 0 0 := by
    have hm : mskB 8 0 = 255 := by decide
    unfold mskL
    simp only [List.getD_eq_getElem?_getD, List.getElem?_mapIdx, List.getElem?_eq_getElem hl0, Option.map_some, Option.getD_some, hm, and255]
  have e2 : (mskL 8 (fourD 10 0 0 0).2).getD 0 0 = 10 := by decide
  rw [e1, e2] at h4
  exact h4
/-- The configuration that NatShares draws. -/
def shC (a b : Int) : Cf := ⟨fourD 10 0 0 0, 8, fourD 192 0 2 1, 4000, a, 100, b, 4, 30⟩
theorem shC_ok (a b : Int) : okCf (shC a b) := ⟨fourD_ok _ _ _ _, fourD_ok _ _ _ _⟩
theorem shC_may {a b : Int} (h1 : 4000 ≤ a) (h2 : a ≤ 65535) (h3 : 1 ≤ b) (h4 : b ≤ 256) : mayB (shC a b) = true := by
  have e : mayB (shC a b) = (decide (a ≤ 65535) && decide ((4000 : Int) ≤ a) && betweenI b 1 256) := by
    unfold mayB
    have k1 : decide ((shC a b).net.1 = 4) = true := rfl
    have k2 : decide (maskE (shC a b).net (shC a b).bits = 0) = true := by kernel_rfl
    have k3 : decide (maskA (shC a b).net (shC a b).bits = (shC a b).net) = true := by kernel_rfl
    have k4 : decide ((shC a b).outside.1 = 4) = true := rfl
    have k5 : decide (kindA (shC a b).outside = 5) = true := by kernel_rfl
    have k6 : withinA (shC a b).outside (shC a b).net (shC a b).bits = false := by kernel_rfl
    have k7 : decide (1 ≤ (shC a b).first) = true := by kernel_rfl
    have k8 : betweenI (shC a b).life 1 1099511627776 = true := by kernel_rfl
    have k9 : betweenI (shC a b).hold 1 1099511627776 = true := by kernel_rfl
    have k10 : betweenI (shC a b).parts 1 64 = true := by kernel_rfl
    rw [k1, k2, k3, k4, k5, k6, k7, k8, k9, k10]
    simp only [shC, Bool.true_and, Bool.not_false, Bool.and_true]
    rfl
  rw [e, decide_eq_true h2, decide_eq_true h1]
  unfold betweenI
  rw [decide_eq_true (show b ≥ 1 by omega), decide_eq_true h4]
  rfl
theorem new_inv {c : Cf} (ok : okCf c) (h : mayB c = true) : Inv 0 (newS c) := by
  have hl : 1 ≤ c.life := by
    unfold mayB betweenI at h
    simp only [Bool.and_eq_true, decide_eq_true_eq] at h
    exact h.1.1.1.2.1
  exact ⟨new_ok ok h, rfl, Int.le_refl _, by decide, hl, by simp [newS], by simp [newS], by simp [newS]⟩
/-- The mappings in order: the ports climb, no end is there twice. -/
theorem climbs {z z' : List Nm} (hp : z'.Perm z) (hs : Sorted z' 0 z'.length) (ho : (z.map (·.out)).Nodup) {i j : Nat} (hj : j < z'.length) (hij : i < j) : (z'[i]'(by omega)).out < z'[j].out := by
  have h1 := hs i j hj hij (Nat.zero_le _) hj
  have h2 : (z'[i]'(by omega)).out ≠ z'[j].out := by
    intro e
    have hn : (z'.map (·.out)).Nodup := ((hp.map _).nodup_iff).2 ho
    refine List.pairwise_iff_getElem.1 hn i j (by rw [List.length_map]; omega) (by rw [List.length_map]; exact hj) hij ?_
    rw [List.getElem_map, List.getElem_map]
    exact e
  omega
theorem apart_ends {z z' : List Nm} (hp : z'.Perm z) (he : (z.map (fun m => (m.addr, m.port))).Nodup) {i j : Nat} (hj : j < z'.length) (hij : i < j) : ¬ ((z'[i]'(by omega)).addr = z'[j].addr ∧ (z'[i]'(by omega)).port = z'[j].port) := by
  rintro ⟨e1, e2⟩
  have hn : (z'.map (fun m => (m.addr, m.port))).Nodup := ((hp.map _).nodup_iff).2 he
  refine List.pairwise_iff_getElem.1 hn i j (by rw [List.length_map]; omega) (by rw [List.length_map]; exact hj) hij ?_
  rw [List.getElem_map, List.getElem_map, e1, e2]
end Go.Proofs.YtofomopdaponbaaGreatDoor
