/-
  A region that draws its order, walked along a tree of orders: where two operations that write may come up, both are walked. No program in sight.
-/
import Derived.Test.YtofomopdaponbaaGreatDoorYHe
namespace Go.Proofs.YtofomopdaponbaaGreatDoor
set_option linter.unusedVariables false
set_option linter.unusedSimpArgs false

inductive Sc where
  | done
  | one (i : Nat) (t : Sc)
  | two (i : Nat) (t : Sc) (j : Nat) (u : Sc)
def Sc.fits : Sc → Nat → Bool
  | .done, _ => true
  | .one _ t, n => match n with | 0 => false | n + 1 => t.fits n
  | .two _ t _ u, n => match n with | 0 => false | n + 1 => t.fits n && u.fits n
def schedT (ops : Array Oper) (m : Nat) : Sc → Array Bool → Bool
  | .done, listed => (Region.ready .any ops listed).isEmpty
  | .one i t, listed => ((((ops[i]?).any fun o => readsOnly o.op) && (Region.ready .any ops listed).contains i && Region.free .any ops listed i && !(Nat.beq i m)) || decide (Region.ready .any ops listed = [i])) && (!(waitsB ops.toList m i) || !(listed.getD m true)) && schedT ops m t (listed.setIfInBounds i true)
  | .two i t j u, listed => decide (Region.ready .any ops listed = [i, j]) && (!(waitsB ops.toList m i) || !(listed.getD m true)) && (!(waitsB ops.toList m j) || !(listed.getD m true)) && schedT ops m t (listed.setIfInBounds i true) && schedT ops m u (listed.setIfInBounds j true)
/-- One operation: what reads, reads the same in every world of the class; what writes leaves S, and C as long as m is not listed. -/
def stepE (P : Program) (l : List Oper) (m : Nat) (S C : World → Prop) (i : Nat) (d : Bool) (ρ : Fr) (w : World) (K : Bool → Fr → World → Prop) : Prop :=
  match l[i]? with
  | none => False
  | some o =>
    match o.guard with
    | none => bif readsOnly o.op then
          bif waitsB l m i then vQ P (fun w => S w ∧ C w) o (ev ρ) (fun v => splitB (isGuard i l) v (fun v => K (d || Nat.beq i m) (up ρ o.dst v) w))
          else vQ P S o (ev ρ) (fun v => splitB (isGuard i l) v (fun v => K (d || Nat.beq i m) (up ρ o.dst v) w))
        else vOp P o (ev ρ) w (fun v w' => (S w' ∧ ((d || Nat.beq i m) = false → C w')) ∧ splitB (isGuard i l) v (fun v => K (d || Nat.beq i m) (up ρ o.dst v) w'))
    | some (g, want) =>
      match yl l ρ g with
      | none => K (d || Nat.beq i m) (up ρ o.dst undef) w
      | some b =>
        match want with
        | true => VIf b (bif readsOnly o.op then
          bif waitsB l m i then vQ P (fun w => S w ∧ C w) o (ev ρ) (fun v => splitB (isGuard i l) v (fun v => K (d || Nat.beq i m) (up ρ o.dst v) w))
          else vQ P S o (ev ρ) (fun v => splitB (isGuard i l) v (fun v => K (d || Nat.beq i m) (up ρ o.dst v) w))
        else vOp P o (ev ρ) w (fun v w' => (S w' ∧ ((d || Nat.beq i m) = false → C w')) ∧ splitB (isGuard i l) v (fun v => K (d || Nat.beq i m) (up ρ o.dst v) w'))) (K (d || Nat.beq i m) (up ρ o.dst undef) w)
        | false => VIf b (K (d || Nat.beq i m) (up ρ o.dst undef) w) (bif readsOnly o.op then
          bif waitsB l m i then vQ P (fun w => S w ∧ C w) o (ev ρ) (fun v => splitB (isGuard i l) v (fun v => K (d || Nat.beq i m) (up ρ o.dst v) w))
          else vQ P S o (ev ρ) (fun v => splitB (isGuard i l) v (fun v => K (d || Nat.beq i m) (up ρ o.dst v) w))
        else vOp P o (ev ρ) w (fun v w' => (S w' ∧ ((d || Nat.beq i m) = false → C w')) ∧ splitB (isGuard i l) v (fun v => K (d || Nat.beq i m) (up ρ o.dst v) w')))
def vcTr (P : Program) (l : List Oper) (m : Nat) (S C : World → Prop) (N : Fr → World → Prop) : Sc → Bool → Fr → World → Prop
  | .done, _, ρ, w => N ρ w
  | .one i t, d, ρ, w => stepE P l m S C i d ρ w (fun d ρ w => vcTr P l m S C N t d ρ w)
  | .two i t j u, d, ρ, w => stepE P l m S C i d ρ w (fun d ρ w => vcTr P l m S C N t d ρ w) ∧ stepE P l m S C j d ρ w (fun d ρ w => vcTr P l m S C N u d ρ w)
section
variable {P : Program} {n m : Nat} {ops : Array Oper} {S C : World → Prop} {Q : Exit → Act → World → Prop} {ρ0 : Fr}
theorem stepE_sound (hok : okOps n ops.toList = true) (hsel : Region.noSelect ops = true) (hp : ∀ c a w, ¬ Q (.panic c) a w) {i : Nat} {fuel : Nat} {listed : Array Bool} {d : Bool} {a : Act} {w : World} {K : Bool → Fr → World → Prop}
    (hready : i ∈ Region.ready .any ops listed) (hw : (!(waitsB ops.toList m i) || !(listed.getD m true)) = true) (hdl : d = false ↔ listed.getD m true = false) (hn : a.tmps.size = n) (hd : a.defers = []) (hag : agree (dstsOf ops.toList) (fr a) ρ0) (hS : S w) (hC : d = false → C w)
    (ih : ∀ (d' : Bool) (a' : Act) (w' : World), (d' = false ↔ (listed.setIfInBounds i true).getD m true = false) → a'.tmps.size = n → a'.defers = [] → agree (dstsOf ops.toList) (fr a') ρ0 → S w' → (d' = false → C w') → K d' (fr a') w' → wpAnyE P .any ops Q m S C fuel (listed.setIfInBounds i true) a' w')
    (h : stepE P ops.toList m S C i d (fr a) w K) :
    wpOp P ops Q i (fun a' w' => (S w' ∧ ((listed.setIfInBounds i true).getD m true = false → C w')) ∧ wpAnyE P .any ops Q m S C fuel (listed.setIfInBounds i true) a' w') a w ∧
      ((((ops[i]?).any fun o => readsOnly o.op) && Region.free .any ops listed i && !(Nat.beq i m)) = true → wpAnyE P .any ops Q m S C (fuel + 1) listed a w) := by
  unfold stepE at h
  cases ho : ops.toList[i]? with
  | none => simp [ho] at h
  | some o =>
    simp only [ho] at h
    have ho' : ops[i]? = some o := by rw [Array.getElem?_toList] at ho; exact ho
    have hmem : o ∈ ops.toList := List.mem_of_getElem? ho
    have hdst := dstOk_spec (okOps_mem hok o hmem)
    have hput : ∀ v, fr (a.put o.dst v) = up (fr a) o.dst v := fun v => fr_put hn hdst
    have hun : listed.getD i true = false := (mem_ready.1 hready).1
    have hisz : i < listed.size := by
      rcases Nat.lt_or_ge i listed.size with h | h
      · exact h
      · simp [Array.getElem?_eq_none h] at hun
    have hd' : (d || Nat.beq i m) = false ↔ (listed.setIfInBounds i true).getD m true = false := by
      by_cases e : i = m
      · subst e
        simp [hisz]
      · have hne : Nat.beq i m = false := by
          cases hb : Nat.beq i m with
          | false => rfl
          | true => exact (e (Nat.eq_of_beq_eq_true hb)).elim
        rw [hne, Bool.or_false, getD_set_ne true e]
        exact hdl
    have hkeep : ∀ w', ((d || Nat.beq i m) = false → C w') → ((listed.setIfInBounds i true).getD m true = false → C w') := fun w' h1 h2 => h1 (hd'.2 h2)
    have ih : ∀ v w', S w' → ((d || Nat.beq i m) = false → C w') → K (d || Nat.beq i m) (up (fr a) o.dst v) w' → wpAnyE P .any ops Q m S C fuel (listed.setIfInBounds i true) (a.put o.dst v) w' := fun v w' hS' hC' hv =>
      ih _ (a.put o.dst v) w' hd' (by rw [size_put, hn]) (by rw [defers_put, hd]) (by
        rw [hput]
        exact (agree_up _ _ _ _ (mem_dsts hmem)).trans hag) hS' hC' (by rw [hput]; exact hv)
    have hany : (ops[i]?).any (fun o => readsOnly o.op) = readsOnly o.op := by rw [ho']; rfl
    have hpan : ∀ v c a' w', Q (.panic c) (a'.put o.dst v) w' → Q (.panic c) a' w' := fun v c a' w' hq => (hp _ _ _ hq).elim
    have hCd : (d || Nat.beq i m) = false → C w := fun h => hC (by cases d with | false => rfl | true => simp at h)
    have hwm : waitsB ops.toList m i = true → listed.getD m true = false := fun h => by
      rw [h] at hw
      simpa using hw
    -- an operation that yields
    have take : ∀ v, Stands P .any ops m S C i o v a → K (d || Nat.beq i m) (up (fr a) o.dst v) w → wpOp P ops Q i (fun a' w' => (S w' ∧ ((listed.setIfInBounds i true).getD m true = false → C w')) ∧ wpAnyE P .any ops Q m S C fuel (listed.setIfInBounds i true) a' w') a w ∧
        ((((ops[i]?).any fun o => readsOnly o.op) && Region.free .any ops listed i && !(Nat.beq i m)) = true → wpAnyE P .any ops Q m S C (fuel + 1) listed a w) := by
      intro v hy hv
      constructor
      · have hres : (S w ∧ ((listed.setIfInBounds i true).getD m true = false → C w)) ∧ wpAnyE P .any ops Q m S C fuel (listed.setIfInBounds i true) (a.put o.dst v) w := ⟨⟨hS, hkeep w hCd⟩, ih v w hS hCd hv⟩
        rcases hy with hy | ⟨hy, hd⟩
        · exact hy.wpOp ho' hS hres
        · exact hy.wpOp ho' ⟨hS, hC (hdl.2 (hwm (waitsB_of hd)))⟩ hres
      · intro hB
        simp only [Bool.and_eq_true] at hB
        obtain ⟨⟨-, hf⟩, hne⟩ := hB
        have hmi : m ≠ i := fun e => by subst e; simp at hne
        exact wpAnyE_first ho' (Region.noSelect_spec hsel) (hpan v) hmi fuel listed a w (Region.free_spec ho' hf) hready hy hS (fun h => hC (hdl.2 h)) (fun h => hwm (waitsB_of h)) (ih v w hS hCd hv)
    generalize hgo : (bif readsOnly o.op then
        bif waitsB ops.toList m i then vQ P (fun w => S w ∧ C w) o (ev (fr a)) (fun v => splitB (isGuard i ops.toList) v (fun v => K (d || Nat.beq i m) (up (fr a) o.dst v) w))
        else vQ P S o (ev (fr a)) (fun v => splitB (isGuard i ops.toList) v (fun v => K (d || Nat.beq i m) (up (fr a) o.dst v) w))
      else vOp P o (ev (fr a)) w (fun v w' => (S w' ∧ ((d || Nat.beq i m) = false → C w')) ∧ splitB (isGuard i ops.toList) v (fun v => K (d || Nat.beq i m) (up (fr a) o.dst v) w'))) = go at h
    have run : Region.wanted o (yielded ops a.tmps) = true → go → wpOp P ops Q i (fun a' w' => (S w' ∧ ((listed.setIfInBounds i true).getD m true = false → C w')) ∧ wpAnyE P .any ops Q m S C fuel (listed.setIfInBounds i true) a' w') a w ∧
        ((((ops[i]?).any fun o => readsOnly o.op) && Region.free .any ops listed i && !(Nat.beq i m)) = true → wpAnyE P .any ops Q m S C (fuel + 1) listed a w) := by
      intro hw hv
      rw [← hgo] at hv
      cases hro : readsOnly o.op with
      | true =>
        simp only [hro, cond_true] at hv
        rw [ev_fr] at hv
        cases hwt : waitsB ops.toList m i with
        | true =>
          simp only [hwt, cond_true] at hv
          obtain ⟨v, hy, hk⟩ := vQ_yields hro hw hv
          exact take v (.inr ⟨hy, waitsB_spec hwt⟩) (splitB_elim hk)
        | false =>
          simp only [hwt, cond_false] at hv
          obtain ⟨v, hy, hk⟩ := vQ_yields hro hw hv
          exact take v (.inl hy) (splitB_elim hk)
      | false =>
        simp only [hro, cond_false] at hv
        refine ⟨?_, fun hB => ?_⟩
        · unfold wpOp
          simp only [ho', hw, if_true]
          have := vOp_spec hv
          rw [ev_fr] at this
          exact .inl (this.wp fun v w' hk => ⟨⟨hk.1.1, hkeep w' hk.1.2⟩, ih v w' hk.1.1 hk.1.2 (splitB_elim hk.2)⟩)
        · rw [hany, hro] at hB
          simp at hB
    have skip := fun (hw : Region.wanted o (yielded ops a.tmps) = false) (hv : K (d || Nat.beq i m) (up (fr a) o.dst undef) w) => take undef (.inl (.inr ⟨hw, rfl⟩)) hv
    split at h
    · rename_i hg
      exact run (by simp [Region.wanted, hg]) h
    · rename_i g want hg
      rw [yl_fr] at h
      split at h
      · rename_i hy
        exact skip (by simp [Region.wanted, hg, hy]) h
      · rename_i b hy
        split at h
        · rcases VIf.elim h with ⟨rfl, h⟩ | ⟨rfl, h⟩
          · exact run (by simp [Region.wanted, hg, hy]) h
          · exact skip (by simp [Region.wanted, hg, hy]) h
        · rcases VIf.elim h with ⟨rfl, h⟩ | ⟨rfl, h⟩
          · exact skip (by simp [Region.wanted, hg, hy]) h
          · exact run (by simp [Region.wanted, hg, hy]) h
theorem vcTr_sound (hok : okOps n ops.toList = true) (hsel : Region.noSelect ops = true) {N : Fr → World → Prop}
    (hQ : ∀ a' w', a'.tmps.size = n → a'.defers = [] → agree (dstsOf ops.toList) (fr a') ρ0 → N (fr a') w' → Q .normal a' w') (hp : ∀ c a w, ¬ Q (.panic c) a w) :
    ∀ (t : Sc) (fuel : Nat) (listed : Array Bool) (d : Bool), t.fits fuel = true → schedT ops m t listed = true → (d = false ↔ listed.getD m true = false) → ∀ (a : Act) (w : World), a.tmps.size = n → a.defers = [] → agree (dstsOf ops.toList) (fr a) ρ0 → S w → (d = false → C w) → vcTr P ops.toList m S C N t d (fr a) w →
      wpAnyE P .any ops Q m S C fuel listed a w
  | .done, fuel, listed, d, _, hB, _, a, w, hn, hd, hag, hS, hC, h => wpAnyE_done (by simpa [schedT] using hB) (hQ a w hn hd hag h) fuel
  | .one i t, 0, listed, d, hle, _, _, a, w, hn, hd, hag, hS, hC, h => by simp [Sc.fits] at hle
  | .two i t j u, 0, listed, d, hle, _, _, a, w, hn, hd, hag, hS, hC, h => by simp [Sc.fits] at hle
  | .one i t, fuel + 1, listed, d, hle, hB, hdl, a, w, hn, hd, hag, hS, hC, h => by
    unfold schedT at hB
    simp only [Bool.and_eq_true] at hB
    obtain ⟨⟨hB1, hBw⟩, hB2⟩ := hB
    have hready : i ∈ Region.ready .any ops listed := by
      rcases Bool.or_eq_true _ _ ▸ hB1 with hB1 | hB1
      · simp only [Bool.and_eq_true] at hB1
        simpa using hB1.1.1.2
      · rw [of_decide_eq_true hB1]
        simp
    have key := stepE_sound (fuel := fuel) hok hsel hp hready hBw hdl hn hd hag hS hC (fun d' a' w' k1 k2 k3 k4 k5 k6 k7 => vcTr_sound hok hsel hQ hp t fuel _ d' (by simpa [Sc.fits] using hle) hB2 k1 a' w' k2 k3 k4 k5 k6 k7) h
    rcases Bool.or_eq_true _ _ ▸ hB1 with hB1 | hB1
    · simp only [Bool.and_eq_true] at hB1
      exact key.2 (by simp only [Bool.and_eq_true]; exact ⟨⟨hB1.1.1.1, hB1.1.2⟩, hB1.2⟩)
    · have hr1 := of_decide_eq_true hB1
      refine ⟨fun h0 => (by rw [h0] at hr1; cases hr1), fun k hk => ?_⟩
      obtain rfl : k = i := by rw [hr1] at hk; simpa using hk
      exact key.1
  | .two i t j u, fuel + 1, listed, d, hle, hB, hdl, a, w, hn, hd, hag, hS, hC, h => by
    unfold schedT at hB
    simp only [Bool.and_eq_true] at hB
    obtain ⟨⟨⟨⟨hB1, hBi⟩, hBj⟩, hBt⟩, hBu⟩ := hB
    have hr1 := of_decide_eq_true hB1
    have hle : t.fits fuel = true ∧ u.fits fuel = true := by simpa [Sc.fits] using hle
    have ki := stepE_sound (fuel := fuel) hok hsel hp (i := i) (by rw [hr1]; simp) hBi hdl hn hd hag hS hC (fun d' a' w' k1 k2 k3 k4 k5 k6 k7 => vcTr_sound hok hsel hQ hp t fuel _ d' hle.1 hBt k1 a' w' k2 k3 k4 k5 k6 k7) h.1
    have kj := stepE_sound (fuel := fuel) hok hsel hp (i := j) (by rw [hr1]; simp) hBj hdl hn hd hag hS hC (fun d' a' w' k1 k2 k3 k4 k5 k6 k7 => vcTr_sound hok hsel hQ hp u fuel _ d' hle.2 hBu k1 a' w' k2 k3 k4 k5 k6 k7) h.2
    refine ⟨fun h0 => (by rw [h0] at hr1; cases hr1), fun k hk => ?_⟩
    rw [hr1] at hk
    simp only [List.mem_cons, List.not_mem_nil, or_false] at hk
    rcases hk with rfl | rfl
    · exact ki.1
    · exact kj.1
end
/-- A region that draws its order, along a tree of orders: S holds all along, C until the operation number m is carried out. -/
theorem VDraw.tree {P : Program} {n : Nat} {ops : Array Oper} {N : Fr → World → Prop} {ρ : Fr} {w : World} (m : Nat) (S C : World → Prop) (t : Sc) (hm : P.follows .mixedOrders = true)
    (hB : (Region.noSelect ops && schedT ops m t (Array.replicate ops.size false) && okOps n ops.toList && t.fits ops.size && Nat.blt m ops.size) = true)
    (hS : S w.drew) (hC : C w.drew) (h : vcTr P ops.toList m S C N t false ρ w.drew) : VDraw P n ops N ρ w := by
  simp only [Bool.and_eq_true] at hB
  obtain ⟨⟨⟨⟨h1, h2⟩, h3⟩, h4⟩, h5⟩ := hB
  refine ⟨fun id a Q hn hd hfr hN => ?_⟩
  subst hfr
  refine wp_region_noPanic (wp_region_any hm (wpAny_of_e (m := m) (S := S) (C := C) _ _ _ _ ?_))
  refine vcTr_sound h3 h1 ?_ ?_ t ops.size _ false h4 h2 ?_ a w.drew hn hd (agree.refl _ _) hS (fun _ => hC) h
  · intro a' w' k1 k2 k3 k4
    exact NoPanic.normal (hN a' w' k1 k2 k3 k4)
  · intro c a' w' hq
    exact hq
  · have : m < ops.size := Nat.le_of_ble_eq_true h5
    simp [this]
end Go.Proofs.YtofomopdaponbaaGreatDoor
