/-
  A region that draws its order: what is read until a first store is listed (class C), and what is read at any time (class S). No program in sight.
-/
import Derived.Test.YtofomopdaponbaaGreatDoorZa
namespace Go.Proofs.YtofomopdaponbaaGreatDoor
set_option linter.unusedVariables false
set_option linter.unusedSimpArgs false

section
variable {P : Program} {md : Region.Mode} {ops : Array Oper} {Q : Exit → Act → World → Prop}
/-- Whatever order is picked: S holds behind every operation, C as long as number m is not listed. -/
def wpAnyE (P : Program) (md : Region.Mode) (ops : Array Oper) (Q : Exit → Act → World → Prop) (m : Nat) (S C : World → Prop) : Nat → Array Bool → Act → World → Prop
  | 0, listed, a, w => Region.ready md ops listed = [] ∧ Q .normal a w
  | fuel + 1, listed, a, w =>
    (Region.ready md ops listed = [] → Q .normal a w) ∧
    ∀ i ∈ Region.ready md ops listed, wpOp P ops Q i (fun a' w' => (S w' ∧ ((listed.setIfInBounds i true).getD m true = false → C w')) ∧ wpAnyE P md ops Q m S C fuel (listed.setIfInBounds i true) a' w') a w
theorem wpAny_of_e {m : Nat} {S C : World → Prop} : ∀ (fuel : Nat) (listed : Array Bool) (a : Act) (w : World), wpAnyE P md ops Q m S C fuel listed a w → wpAny P md ops Q fuel listed a w
  | 0, _, _, _, h => h
  | fuel + 1, _, _, _, h => ⟨h.1, fun i hi => wpOp_mono (fun a' w' h' => wpAny_of_e fuel _ a' w' h'.2) (h.2 i hi)⟩
/-- May a read stand so: either at any time, or as long as m, which waits for it, is not listed? -/
def Stands (P : Program) (md : Region.Mode) (ops : Array Oper) (m : Nat) (S C : World → Prop) (i : Nat) (o : Oper) (v : Value) (a : Act) : Prop :=
  YieldsIf P ops S o v a ∨ (YieldsIf P ops (fun w => S w ∧ C w) o v a ∧ ∃ om, ops[m]? = some om ∧ ∃ e ∈ om.after, Region.binds md e = true ∧ e.on = i)
theorem wpAnyE_first {m i : Nat} {S C : World → Prop} {oi : Oper} {v : Value} (hi : ops[i]? = some oi) (hsel : ∀ (j : Nat) (o : Oper) cs b, ops[j]? = some o → o.op ≠ .select cs b)
    (hQ : ∀ c a w, Q (.panic c) (a.put oi.dst v) w → Q (.panic c) a w) (hmi : m ≠ i) :
    ∀ (fuel : Nat) (listed : Array Bool) (a : Act) (w : World),
      (∀ j oj, ops[j]? = some oj → j ≠ i → listed.getD j true = false → (∀ e ∈ oj.after, Region.binds md e = true → e.on ≠ i) → oi.apart ops oj = true) →
      i ∈ Region.ready md ops listed → Stands P md ops m S C i oi v a → S w → (listed.getD m true = false → C w) → ((∃ om, ops[m]? = some om ∧ ∃ e ∈ om.after, Region.binds md e = true ∧ e.on = i) → listed.getD m true = false) →
      wpAnyE P md ops Q m S C fuel (listed.setIfInBounds i true) (a.put oi.dst v) w → wpAnyE P md ops Q m S C (fuel + 1) listed a w := by
  intro fuel
  induction fuel with
  | zero =>
    intro listed a w _ hr hy hS hC hmw H
    refine ⟨fun h => (by rw [h] at hr; cases hr), fun j hj => ?_⟩
    by_cases hji : j = i
    · subst hji
      have hk : (S w ∧ ((listed.setIfInBounds j true).getD m true = false → C w)) := ⟨hS, fun h => hC (by rwa [getD_set_ne true (Ne.symm hmi)] at h)⟩
      rcases hy with hy | ⟨hy, hd⟩
      · exact hy.wpOp hi hS ⟨hk, H⟩
      · exact hy.wpOp hi ⟨hS, hC (hmw hd)⟩ ⟨hk, H⟩
    · have := ready_mono hj hji
      rw [H.1] at this
      cases this
  | succ fuel ih =>
    intro listed a w hfree hr hy hS hC hmw H
    refine ⟨fun h => (by rw [h] at hr; cases hr), fun j hj => ?_⟩
    by_cases hji : j = i
    · subst hji
      have hk : (S w ∧ ((listed.setIfInBounds j true).getD m true = false → C w)) := ⟨hS, fun h => hC (by rwa [getD_set_ne true (Ne.symm hmi)] at h)⟩
      rcases hy with hy | ⟨hy, hd⟩
      · exact hy.wpOp hi hS ⟨hk, H⟩
      · exact hy.wpOp hi ⟨hS, hC (hmw hd)⟩ ⟨hk, H⟩
    · have h1 := H.2 j (ready_mono hj hji)
      obtain ⟨hjun, oj, hoj, hall⟩ := mem_ready.1 hj
      have hnot : ∀ e ∈ oj.after, Region.binds md e = true → e.on ≠ i := fun e he hb heq => by
        have h1 := hall e he hb
        have h0 := (mem_ready.1 hr).1
        rw [heq] at h1
        rcases Nat.lt_or_ge i listed.size with h' | h'
        · simp [h'] at h0 h1; rw [h0] at h1; cases h1
        · simp [Array.getElem?_eq_none h'] at h1
      have hfree' : ∀ k ok, ops[k]? = some ok → k ≠ i → (listed.setIfInBounds j true).getD k true = false →
          (∀ e ∈ ok.after, Region.binds md e = true → e.on ≠ i) → oi.apart ops ok = true := fun k ok hk hki hun hno => by
        refine hfree k ok hk hki ?_ hno
        by_cases hjk : j = k
        · subst hjk; exact hjun
        · rw [getD_set_ne true hjk] at hun; exact hun
      have hmw' : (∃ om, ops[m]? = some om ∧ ∃ e ∈ om.after, Region.binds md e = true ∧ e.on = i) → (listed.setIfInBounds j true).getD m true = false := fun hd => by
        have hjm : j ≠ m := by
          rintro rfl
          obtain ⟨om, hom, e, he, hb, hon⟩ := hd
          rw [hoj] at hom
          cases hom
          exact hnot e he hb hon
        rw [getD_set_ne true hjm]
        exact hmw hd
      have go : ∀ a' w', Stands P md ops m S C i oi v a' → (S w' ∧ (((listed.setIfInBounds i true).setIfInBounds j true).getD m true = false → C w')) → wpAnyE P md ops Q m S C fuel ((listed.setIfInBounds i true).setIfInBounds j true) (a'.put oi.dst v) w' →
          (S w' ∧ ((listed.setIfInBounds j true).getD m true = false → C w')) ∧ wpAnyE P md ops Q m S C (fuel + 1) (listed.setIfInBounds j true) a' w' := fun a' w' hy' hk' H' => by
        have hC' : (listed.setIfInBounds j true).getD m true = false → C w' := fun h => hk'.2 (by rw [Array.setIfInBounds_comm _ _ (Ne.symm hji), getD_set_ne true (Ne.symm hmi)]; exact h)
        refine ⟨⟨hk'.1, hC'⟩, ih (listed.setIfInBounds j true) a' w' hfree' (ready_mono hr (Ne.symm hji)) hy' hk'.1 hC' hmw' ?_⟩
        rw [Array.setIfInBounds_comm _ _ hji]
        exact H'
      rcases hy with hy | ⟨hy, hd⟩
      · have h2 := wpOp_putIf hoj (hfree j oj hoj hji hjun hnot) (fun cs b => hsel i oi cs b hi) (fun cs b => hsel j oj cs b hoj) hQ hy h1
        exact wpOp_mono (fun a' w' h3 => go a' w' (.inl h3.1) h3.2.1 h3.2.2) h2
      · have h2 := wpOp_putIf hoj (hfree j oj hoj hji hjun hnot) (fun cs b => hsel i oi cs b hi) (fun cs b => hsel j oj cs b hoj) hQ hy h1
        exact wpOp_mono (fun a' w' h3 => go a' w' (.inr ⟨h3.1, hd⟩) h3.2.1 h3.2.2) h2
/-- Does number m wait for number i? -/
def waitsB (l : List Oper) (m i : Nat) : Bool :=
  match l[m]? with
  | some om => om.after.toList.any (fun e => Region.binds .any e && Nat.beq e.on i)
  | none => false
theorem waitsB_spec {m i : Nat} (h : waitsB ops.toList m i = true) : ∃ om, ops[m]? = some om ∧ ∃ e ∈ om.after, Region.binds .any e = true ∧ e.on = i := by
  unfold waitsB at h
  split at h
  · rename_i om ho
    rw [Array.getElem?_toList] at ho
    obtain ⟨e, he, hb⟩ := List.any_eq_true.1 h
    simp only [Bool.and_eq_true] at hb
    exact ⟨om, ho, e, by simpa using he, hb.1, Nat.eq_of_beq_eq_true hb.2⟩
  · exact Bool.noConfusion h
theorem waitsB_of {m i : Nat} (h : ∃ om, ops[m]? = some om ∧ ∃ e ∈ om.after, Region.binds .any e = true ∧ e.on = i) : waitsB ops.toList m i = true := by
  obtain ⟨om, ho, e, he, hb, hon⟩ := h
  unfold waitsB
  rw [← Array.getElem?_toList] at ho
  simp only [ho]
  refine List.any_eq_true.2 ⟨e, by simpa using he, ?_⟩
  simp [hb, hon]
theorem wpAnyE_done {m : Nat} {S C : World → Prop} {listed : Array Bool} {a : Act} {w : World} (hr : Region.ready md ops listed = []) (h : Q .normal a w) : ∀ fuel, wpAnyE P md ops Q m S C fuel listed a w
  | 0 => ⟨hr, h⟩
  | _ + 1 => ⟨fun _ => h, by rw [hr]; simp⟩
end

def schedE (ops : Array Oper) (m : Nat) : List Nat → Array Bool → Bool
  | [], listed => (Region.ready .any ops listed).isEmpty
  | i :: r, listed => ((((ops[i]?).any fun o => readsOnly o.op) && (Region.ready .any ops listed).contains i && Region.free .any ops listed i && !(Nat.beq i m)) || decide (Region.ready .any ops listed = [i])) && (!(waitsB ops.toList m i) || !(listed.getD m true)) && schedE ops m r (listed.setIfInBounds i true)
/-- The operations in a given order: what reads, reads the same in every world of the class; what writes leaves S, and C as long as m is not listed (d: it is). -/
def vcSchE (P : Program) (l : List Oper) (m : Nat) (S C : World → Prop) (N : Fr → World → Prop) : List Nat → Bool → Fr → World → Prop
  | [], _, ρ, w => N ρ w
  | i :: r, d, ρ, w =>
    match l[i]? with
    | none => False
    | some o =>
      let d' := d || Nat.beq i m
      let go := bif readsOnly o.op then
          bif waitsB l m i then vQ P (fun w => S w ∧ C w) o (ev ρ) (fun v => splitB (isGuard i l) v (fun v => vcSchE P l m S C N r d' (up ρ o.dst v) w))
          else vQ P S o (ev ρ) (fun v => splitB (isGuard i l) v (fun v => vcSchE P l m S C N r d' (up ρ o.dst v) w))
        else vOp P o (ev ρ) w (fun v w' => (S w' ∧ (d' = false → C w')) ∧ splitB (isGuard i l) v (fun v => vcSchE P l m S C N r d' (up ρ o.dst v) w'))
      match o.guard with
      | none => go
      | some (g, want) =>
        match yl l ρ g with
        | none => vcSchE P l m S C N r d' (up ρ o.dst undef) w
        | some b =>
          match want with
          | true => VIf b go (vcSchE P l m S C N r d' (up ρ o.dst undef) w)
          | false => VIf b (vcSchE P l m S C N r d' (up ρ o.dst undef) w) go
theorem vcSchE_sound {P : Program} {n m : Nat} {ops : Array Oper} {S C : World → Prop} (hok : okOps n ops.toList = true) (hsel : Region.noSelect ops = true) {N : Fr → World → Prop} {Q : Exit → Act → World → Prop} {ρ0 : Fr}
    (hQ : ∀ a' w', a'.tmps.size = n → a'.defers = [] → agree (dstsOf ops.toList) (fr a') ρ0 → N (fr a') w' → Q .normal a' w') (hp : ∀ c a w, ¬ Q (.panic c) a w) :
    ∀ (sch : List Nat) (fuel : Nat) (listed : Array Bool) (d : Bool), sch.length ≤ fuel → schedE ops m sch listed = true → (d = false ↔ listed.getD m true = false) → ∀ (a : Act) (w : World), a.tmps.size = n → a.defers = [] → agree (dstsOf ops.toList) (fr a) ρ0 → S w → (d = false → C w) → vcSchE P ops.toList m S C N sch d (fr a) w →
      wpAnyE P .any ops Q m S C fuel listed a w
  | [], fuel, listed, d, _, hB, _, a, w, hn, hd, hag, hS, hC, h => wpAnyE_done (by simpa [schedE] using hB) (hQ a w hn hd hag h) fuel
  | i :: r, 0, listed, d, hle, _, _, a, w, hn, hd, hag, hS, hC, h => by simp at hle
  | i :: r, fuel + 1, listed, d, hle, hB, hdl, a, w, hn, hd, hag, hS, hC, h => by
    unfold schedE at hB
    simp only [Bool.and_eq_true] at hB
    obtain ⟨⟨hB1, hBw⟩, hB2⟩ := hB
    unfold vcSchE at h
    cases ho : ops.toList[i]? with
    | none => simp [ho] at h
    | some o =>
      simp only [ho] at h
      have ho' : ops[i]? = some o := by rw [Array.getElem?_toList] at ho; exact ho
      have hmem : o ∈ ops.toList := List.mem_of_getElem? ho
      have hdst := dstOk_spec (okOps_mem hok o hmem)
      have hput : ∀ v, fr (a.put o.dst v) = up (fr a) o.dst v := fun v => fr_put hn hdst
      have hready : i ∈ Region.ready .any ops listed := by
        rcases Bool.or_eq_true _ _ ▸ hB1 with hB1 | hB1
        · simp only [Bool.and_eq_true] at hB1
          simpa using hB1.1.1.2
        · rw [of_decide_eq_true hB1]
          simp
      have hun : listed.getD i true = false := (mem_ready.1 hready).1
      have hisz : i < listed.size := by
        rcases Nat.lt_or_ge i listed.size with h | h
        · exact h
        · simp [Array.getElem?_eq_none h] at hun
      have hd' : (d || Nat.beq i m) = false ↔ (listed.setIfInBounds i true).getD m true = false := by
        by_cases e : i = m
        · subst e
          simp [hisz]
        · have hne : Nat.beq i m = false := by
            cases hb : Nat.beq i m with
            | false => rfl
            | true => exact (e (Nat.eq_of_beq_eq_true hb)).elim
          rw [hne, Bool.or_false, getD_set_ne true e]
          exact hdl
      have hkeep : ∀ w', ((d || Nat.beq i m) = false → C w') → ((listed.setIfInBounds i true).getD m true = false → C w') := fun w' h1 h2 => h1 (hd'.2 h2)
      have ih : ∀ v w', S w' → ((d || Nat.beq i m) = false → C w') → vcSchE P ops.toList m S C N r (d || Nat.beq i m) (up (fr a) o.dst v) w' → wpAnyE P .any ops Q m S C fuel (listed.setIfInBounds i true) (a.put o.dst v) w' := fun v w' hS' hC' hv =>
        vcSchE_sound hok hsel hQ hp r fuel _ _ (by simp only [List.length_cons] at hle; omega) hB2 hd' (a.put o.dst v) w' (by rw [size_put, hn]) (by rw [defers_put, hd]) (by
          rw [hput]
          exact (agree_up _ _ _ _ (mem_dsts hmem)).trans hag) hS' hC' (by rw [hput]; exact hv)
      have hany : (ops[i]?).any (fun o => readsOnly o.op) = readsOnly o.op := by rw [ho']; rfl
      have hpan : ∀ v c a' w', Q (.panic c) (a'.put o.dst v) w' → Q (.panic c) a' w' := fun v c a' w' hq => (hp _ _ _ hq).elim
      have hCd : (d || Nat.beq i m) = false → C w := fun h => hC (by cases d with | false => rfl | true => simp at h)
      have hwm : waitsB ops.toList m i = true → listed.getD m true = false := fun h => by
        rw [h] at hBw
        simpa using hBw
      -- an operation that yields
      have take : ∀ v, Stands P .any ops m S C i o v a → vcSchE P ops.toList m S C N r (d || Nat.beq i m) (up (fr a) o.dst v) w → (readsOnly o.op = true ∨ Region.wanted o (yielded ops a.tmps) = false) → wpAnyE P .any ops Q m S C (fuel + 1) listed a w := by
        intro v hy hv hro
        rcases Bool.or_eq_true _ _ ▸ hB1 with hB1 | hB1
        · simp only [Bool.and_eq_true] at hB1
          obtain ⟨⟨⟨-, hc⟩, hf⟩, hne⟩ := hB1
          have hmi : m ≠ i := fun e => by subst e; simp at hne
          refine wpAnyE_first ho' (Region.noSelect_spec hsel) (hpan v) hmi fuel listed a w (Region.free_spec ho' hf) (by simpa using hc) hy hS (fun h => hC (hdl.2 h)) (fun h => hwm (waitsB_of h)) (ih v w hS hCd hv)
        · have hr1 := of_decide_eq_true hB1
          refine ⟨fun h0 => (by rw [h0] at hr1; cases hr1), ?_⟩
          intro k hk
          obtain rfl : k = i := by rw [hr1] at hk; simpa using hk
          have hres : (S w ∧ ((listed.setIfInBounds k true).getD m true = false → C w)) ∧ wpAnyE P .any ops Q m S C fuel (listed.setIfInBounds k true) (a.put o.dst v) w := ⟨⟨hS, hkeep w hCd⟩, ih v w hS hCd hv⟩
          rcases hy with hy | ⟨hy, hd⟩
          · exact hy.wpOp ho' hS hres
          · exact hy.wpOp ho' ⟨hS, hC (hdl.2 (hwm (waitsB_of hd)))⟩ hres
      have act : Region.wanted o (yielded ops a.tmps) = true → readsOnly o.op = false → vOp P o (ev (fr a)) w (fun v w' => (S w' ∧ ((d || Nat.beq i m) = false → C w')) ∧ splitB (isGuard i ops.toList) v (fun v => vcSchE P ops.toList m S C N r (d || Nat.beq i m) (up (fr a) o.dst v) w')) → wpAnyE P .any ops Q m S C (fuel + 1) listed a w := by
        intro hw hro hv
        rw [hany, hro] at hB1
        simp only [Bool.false_and, Bool.false_or] at hB1
        have hr1 := of_decide_eq_true hB1
        refine ⟨fun h0 => (by rw [h0] at hr1; cases hr1), ?_⟩
        intro k hk
        obtain rfl : k = i := by rw [hr1] at hk; simpa using hk
        unfold wpOp
        simp only [ho', hw, if_true]
        have := vOp_spec hv
        rw [ev_fr] at this
        exact .inl (this.wp fun v w' hk => ⟨⟨hk.1.1, hkeep w' hk.1.2⟩, ih v w' hk.1.1 hk.1.2 (splitB_elim hk.2)⟩)
      generalize hgo : (bif readsOnly o.op then
          bif waitsB ops.toList m i then vQ P (fun w => S w ∧ C w) o (ev (fr a)) (fun v => splitB (isGuard i ops.toList) v (fun v => vcSchE P ops.toList m S C N r (d || Nat.beq i m) (up (fr a) o.dst v) w))
          else vQ P S o (ev (fr a)) (fun v => splitB (isGuard i ops.toList) v (fun v => vcSchE P ops.toList m S C N r (d || Nat.beq i m) (up (fr a) o.dst v) w))
        else vOp P o (ev (fr a)) w (fun v w' => (S w' ∧ ((d || Nat.beq i m) = false → C w')) ∧ splitB (isGuard i ops.toList) v (fun v => vcSchE P ops.toList m S C N r (d || Nat.beq i m) (up (fr a) o.dst v) w'))) = go at h
      have run : Region.wanted o (yielded ops a.tmps) = true → go → wpAnyE P .any ops Q m S C (fuel + 1) listed a w := by
        intro hw hv
        rw [← hgo] at hv
        cases hro : readsOnly o.op with
        | true =>
          simp only [hro, cond_true] at hv
          rw [ev_fr] at hv
          cases hwt : waitsB ops.toList m i with
          | true =>
            simp only [hwt, cond_true] at hv
            obtain ⟨v, hy, hk⟩ := vQ_yields hro hw hv
            exact take v (.inr ⟨hy, waitsB_spec hwt⟩) (splitB_elim hk) (.inl hro)
          | false =>
            simp only [hwt, cond_false] at hv
            obtain ⟨v, hy, hk⟩ := vQ_yields hro hw hv
            exact take v (.inl hy) (splitB_elim hk) (.inl hro)
        | false =>
          simp only [hro, cond_false] at hv
          exact act hw hro hv
      have skip : Region.wanted o (yielded ops a.tmps) = false → vcSchE P ops.toList m S C N r (d || Nat.beq i m) (up (fr a) o.dst undef) w → wpAnyE P .any ops Q m S C (fuel + 1) listed a w :=
        fun hw hv => take undef (.inl (.inr ⟨hw, rfl⟩)) hv (.inr hw)
      split at h
      · rename_i hg
        exact run (by simp [Region.wanted, hg]) h
      · rename_i g want hg
        rw [yl_fr] at h
        split at h
        · rename_i hy
          exact skip (by simp [Region.wanted, hg, hy]) h
        · rename_i b hy
          split at h
          · rcases VIf.elim h with ⟨rfl, h⟩ | ⟨rfl, h⟩
            · exact run (by simp [Region.wanted, hg, hy]) h
            · exact skip (by simp [Region.wanted, hg, hy]) h
          · rcases VIf.elim h with ⟨rfl, h⟩ | ⟨rfl, h⟩
            · exact skip (by simp [Region.wanted, hg, hy]) h
            · exact run (by simp [Region.wanted, hg, hy]) h
/-- A region that draws its order, of which one order serves: S holds all along, C until the operation number m is carried out, which waits for whatever reads by C. -/
theorem VDraw.ahead {P : Program} {n : Nat} {ops : Array Oper} {N : Fr → World → Prop} {ρ : Fr} {w : World} (m : Nat) (S C : World → Prop) (sch : List Nat) (hm : P.follows .mixedOrders = true)
    (hB : (Region.noSelect ops && schedE ops m sch (Array.replicate ops.size false) && okOps n ops.toList && Nat.ble sch.length ops.size && Nat.blt m ops.size) = true)
    (hS : S w.drew) (hC : C w.drew) (h : vcSchE P ops.toList m S C N sch false ρ w.drew) : VDraw P n ops N ρ w := by
  simp only [Bool.and_eq_true] at hB
  obtain ⟨⟨⟨⟨h1, h2⟩, h3⟩, h4⟩, h5⟩ := hB
  refine ⟨fun id a Q hn hd hfr hN => ?_⟩
  subst hfr
  refine wp_region_noPanic (wp_region_any hm (wpAny_of_e (m := m) (S := S) (C := C) _ _ _ _ ?_))
  refine vcSchE_sound h3 h1 ?_ ?_ sch ops.size _ false (Nat.le_of_ble_eq_true h4) h2 ?_ a w.drew hn hd (agree.refl _ _) hS (fun _ => hC) h
  · intro a' w' k1 k2 k3 k4
    exact NoPanic.normal (hN a' w' k1 k2 k3 k4)
  · intro c a' w' hq
    exact hq
  · have : m < ops.size := Nat.le_of_ble_eq_true h5
    simp [this]
end Go.Proofs.YtofomopdaponbaaGreatDoor
