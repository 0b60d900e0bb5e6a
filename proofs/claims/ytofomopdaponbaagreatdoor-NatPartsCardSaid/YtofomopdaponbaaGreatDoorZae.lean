/-
  Packets (package api's Packet) in lists: how they lie; append, and whether it was in place.
-/
import Derived.Test.YtofomopdaponbaaGreatDoorZc
import Derived.Test.YtofomopdaponbaaGreatDoorYNid
import Derived.Deep.DeepAppendRoom
import Derived.Test.YtofomopdaponbaaGreatDoorZb
import Derived.Test.YtofomopdaponbaaGreatDoorZe
import Derived.Test.YtofomopdaponbaaGreatDoorZo
namespace Go.Proofs.YtofomopdaponbaaGreatDoor
open Go.RowKit
set_option linter.unusedVariables false
set_option linter.unusedSimpArgs false

/-- append as vFall.append has it, and whether it was in place. -/
theorem vFall.append3 {P : Program} {o : Oper} {ρ : Operand → Value} {w : World} {K : Value → World → Prop} {x y : Operand} {t : TypeId} (e size bytes : Nat) {F G : List Nat} {A B : Option Addr} {n c m cc : Nat} {xs ys : List Value}
    (ho : o.op = .call { callee := .builtin .append, args := #[x, y], argTypes := #[t, t] }) (hok : sliceOk P t e size bytes = true)
    (hx : ρ x = .slice A n c) (hr : Row w e size F A n c xs) (hy : ρ y = .slice B m cc) (hs : Sl w size G B m ys) (h1 : ∀ u ∈ ys, u.oneCell' = true) (hm : 0 < m)
    (hbytes : (n + m) * bytes ≤ 140737488355328) (h63 : n + m ≤ 9223372036854775807)
    (hK : ∀ A' c' F' w', Row w' e size F' A' (n + m) c' (xs ++ ys) → (A' = A ∧ c' = c ∧ F' = F ∧ Only F w w') ∨ (Only [] w w' ∧ ∀ k ∈ F', w.heap.size ≤ k) → K (.slice A' (n + m) c') w') : vFall P o ρ w K := by
  obtain ⟨hu, hsz, i, z, hi, hz, e1, e2, e3⟩ := sliceOk_spec hok
  have hrun : ∀ v w', (Builtin.append_ #[t, t] o.type #[.slice A n c, .slice B m cc]).run P w = .ok v w' → (execOp ρ o).run P w = .ok (.value v) w' := by
    intro v w' h
    unfold execOp
    simp only [ho, resolve, invoke, builtin, Sem.run_bind, Sem.run_pure, Result.andThen_ok, List.map_toArray, List.map_cons, List.map_nil, hx, hy, h]
  obtain ⟨b, off, rfl, hG, hb, hc⟩ := hs.2 hm
  have h63' : n + m ≤ maxLen := by unfold maxLen; omega
  have hne : ∀ j u, ys[j]? = some u → w.cell? ((⟨b, off, none⟩ : Addr).add j) = some u := fun j u hu => by rw [add_plain]; exact hc j u hu
  rcases hr with ⟨rfl, rfl, rfl, rfl⟩ | ⟨g, rfl, rfl, hown⟩
  · cases A with
    | none =>
      obtain ⟨g, cap, w', hr, h2, h3, h4, _⟩ := run_append_lies (P := P) w t o.type 0 e i z size bytes hu hi hz e1 e2 e3 hsz (.slice none 0 0) 0 [] (World.ownsRow_nil w 0 e size) ⟨b, off, none⟩ m cc ys hs.1 hne h1 hm h63' hbytes (Nat.zero_le _) _ rfl
      refine ⟨_, _, ⟨hrun _ _ hr⟩, hK _ cap [g] w' (.inr ⟨g, rfl, rfl, h2⟩) (.inr ⟨Only.of_grown h3 (fun k hk => by cases hk), fun k hk => ?_⟩)⟩
      obtain rfl : k = g := by simpa using hk
      rcases h4 with h4 | h4
      · cases h4
      · omega
    | some b2 =>
      obtain ⟨v', w', hr, h2, h3⟩ := run_append_arg_grows (P := P) w t o.type e i z size bytes hu hi hz e1 e2 e3 hsz b2 0 0 [] (by simp) (fun j u hj => by simp at hj) ⟨b, off, none⟩ m cc ys hs.1 hne (by omega) h63' hbytes
      obtain ⟨g, cap, rfl, hb, _⟩ := h2.form (by omega)
      obtain ⟨hl2, hr2⟩ := h2
      have hh : w'.ownsRow 0 e size (.slice (some ⟨g, 0, none⟩) (0 + m) cap) (0 + m) ([] ++ ys) := by
        refine ⟨hl2, ?_⟩
        rcases hr2 with ⟨h, _⟩ | ⟨g', cap', cur, hv, _, rest⟩
        · cases h
        · exact .inr ⟨g', cap', cur, hv, Nat.zero_le _, rest⟩
      refine ⟨_, _, ⟨hrun _ _ hr⟩, hK _ cap [g] w' (.inr ⟨g, rfl, rfl, hh⟩) (.inr ⟨Only.of_grown h3 (fun k hk => by cases hk), fun k hk => ?_⟩)⟩
      obtain rfl : k = g := by simpa using hk
      exact hb
  · by_cases hroom : n + m ≤ c
    · obtain ⟨w', hr, h2, h3⟩ := run_append_own_spare (P := P) w 0 t o.type e i size hu hi e1 g n c xs hown ⟨b, off, none⟩ m cc ys hs.1 hne h1 hroom
      exact ⟨_, _, ⟨hrun _ _ hr⟩, hK _ c [g] w' (.inr ⟨g, rfl, rfl, h2⟩) (.inl ⟨rfl, rfl, rfl, Only.of_grown h3 (fun k hk => by injection hk with hk; simp [hk])⟩)⟩
    · have hro : Row w e size [g] (some ⟨g, 0, none⟩) n c xs := .inr ⟨g, rfl, rfl, hown⟩
      obtain ⟨v', w', hr, h2, h3⟩ := run_append_arg_grows (P := P) w t o.type e i z size bytes hu hi hz e1 e2 e3 hsz ⟨g, 0, none⟩ n c xs hown.1 (fun j u hj => by
        obtain ⟨g2, hA, _, hc2⟩ := hro.cellAt hj
        injection hA with hA
        injection hA with hA
        subst hA
        rw [add_plain, Nat.zero_add]
        exact hc2) ⟨b, off, none⟩ m cc ys hs.1 hne (by omega) h63' hbytes
      obtain ⟨g2, cap, rfl, hb, _⟩ := h2.form (by omega)
      obtain ⟨hl2, hr2⟩ := h2
      have hh : w'.ownsRow 0 e size (.slice (some ⟨g2, 0, none⟩) (n + m) cap) (n + m) (xs ++ ys) := by
        refine ⟨hl2, ?_⟩
        rcases hr2 with ⟨h, _⟩ | ⟨g', cap', cur, hv, _, rest⟩
        · cases h
        · exact .inr ⟨g', cap', cur, hv, Nat.zero_le _, rest⟩
      refine ⟨_, _, ⟨hrun _ _ hr⟩, hK _ cap [g2] w' (.inr ⟨g2, rfl, rfl, hh⟩) (.inr ⟨Only.of_grown h3 (fun k hk => by cases hk), fun k hk => ?_⟩)⟩
      obtain rfl : k = g2 := by simpa using hk
      exact hb


/-- A packet, and where its lists lie. -/
structure Pl where
  p : Pk
  O : At
  D : At
def pkP (x : Pl) : List Value := pkH x.p ++ (adP x.p.src ++ (adP x.p.dst ++ pkT x.p x.O x.D))
theorem pkP_len (x : Pl) : (pkP x).length = 46 := by simp [pkP, pkH, pkT, adP_len]
theorem pkP_id {x : Pl} (h : okPk x.p) : pkP x = pkC x.p x.O x.D := by
  unfold pkP pkC
  rw [adP_id h.src, adP_id h.dst]
theorem one_pkP (x : Pl) : ∀ u ∈ pkP x, isOne u = true := by
  intro u hu
  simp only [pkP, List.mem_append] at hu
  rcases hu with hu | hu | hu | hu
  · simp only [pkH, List.mem_cons, List.not_mem_nil, or_false] at hu
    rcases hu with rfl | rfl | rfl <;> rfl
  · exact one_adC _ u hu
  · exact one_adC _ u hu
  · simp only [pkT, List.mem_cons, List.not_mem_nil, or_false] at hu
    rcases hu with rfl | rfl | rfl | rfl | rfl | rfl | rfl | rfl | rfl <;> rfl
theorem isOne_cell {u : Value} (h : isOne u = true) : u.oneCell' = true := by
  cases u <;> first | rfl | exact Bool.noConfusion h
theorem one_pkPs (z : List Pl) : ∀ u ∈ z.flatMap pkP, u.oneCell' = true := by
  intro u hu
  obtain ⟨x, _, h⟩ := List.mem_flatMap.1 hu
  exact isOne_cell (one_pkP x u h)
/-- The lists of a packet can be read; their blocks are at B or behind, and not among F. -/
structure PlOk (w : World) (B : Nat) (F : List Nat) (x : Pl) : Prop where
  ok : okPk x.p
  opts : ∃ G, Bs w G x.O.1 x.p.opts.length x.p.opts ∧ ∀ k ∈ G, B ≤ k ∧ k ∉ F ∧ k < w.heap.size
  data : ∃ G, Bs w G x.D.1 x.p.data.length x.p.data ∧ ∀ k ∈ G, B ≤ k ∧ k ∉ F ∧ k < w.heap.size
  oc : x.p.opts.length ≤ x.O.2 ∧ x.O.2 ≤ 9223372036854775807
  dc : x.p.data.length ≤ x.D.2 ∧ x.D.2 ≤ 9223372036854775807
  ol : x.p.opts.length ≤ 140737488355328
  dl : x.p.data.length ≤ 140737488355328
theorem PlOk.pks {w : World} {B : Nat} {F : List Nat} {x : Pl} (h : PlOk w B F x) : Pks w x.p x.O x.D B :=
  ⟨h.ok, h.opts.elim fun G hG => ⟨G, hG.1, fun k hk => (hG.2 k hk).1⟩, h.data.elim fun G hG => ⟨G, hG.1, fun k hk => (hG.2 k hk).1⟩, h.oc, h.dc, h.ol, h.dl⟩
theorem PlOk.only {w w' : World} {B : Nat} {F H : List Nat} {x : Pl} (h : PlOk w B F x) (ho : Only H w w') (hd : ∀ k, k ∉ F → B ≤ k → k ∉ H) : PlOk w' B F x :=
  ⟨h.ok, h.opts.elim fun G hG => ⟨G, hG.1.only ho (fun k hk => hd k (hG.2 k hk).2.1 (hG.2 k hk).1), fun k hk => ⟨(hG.2 k hk).1, (hG.2 k hk).2.1, Nat.lt_of_lt_of_le (hG.2 k hk).2.2 ho.size⟩⟩,
    h.data.elim fun G hG => ⟨G, hG.1.only ho (fun k hk => hd k (hG.2 k hk).2.1 (hG.2 k hk).1), fun k hk => ⟨(hG.2 k hk).1, (hG.2 k hk).2.1, Nat.lt_of_lt_of_le (hG.2 k hk).2.2 ho.size⟩⟩, h.oc, h.dc, h.ol, h.dl⟩
theorem PlOk.o {w w' : World} {B : Nat} {F : List Nat} {x : Pl} (h : PlOk w B F x) (ho : Only [] w w') : PlOk w' B F x := h.only ho (fun _ _ _ => by simp)
theorem PlOk.f {w w' : World} {B : Nat} {F : List Nat} {x : Pl} (h : PlOk w B F x) (ho : Only F w w') : PlOk w' B F x := h.only ho (fun _ hk _ => hk)
theorem PlOk.moved {w : World} {B : Nat} {F F' : List Nat} {x : Pl} (h : PlOk w B F x) (hF : ∀ k ∈ F', w.heap.size ≤ k) : PlOk w B F' x :=
  ⟨h.ok, h.opts.elim fun G hG => ⟨G, hG.1, fun k hk => ⟨(hG.2 k hk).1, fun hm => by have := hF k hm; have := (hG.2 k hk).2.2; omega, (hG.2 k hk).2.2⟩⟩,
    h.data.elim fun G hG => ⟨G, hG.1, fun k hk => ⟨(hG.2 k hk).1, fun hm => by have := hF k hm; have := (hG.2 k hk).2.2; omega, (hG.2 k hk).2.2⟩⟩, h.oc, h.dc, h.ol, h.dl⟩
theorem PlOk.sub {w : World} {B B' : Nat} {F F' : List Nat} {x : Pl} (h : PlOk w B F x) (hB : B' ≤ B) (hF : ∀ k ∈ F', k ∈ F ∨ k < B) : PlOk w B' F' x :=
  ⟨h.ok, h.opts.elim fun G hG => ⟨G, hG.1, fun k hk => ⟨Nat.le_trans hB (hG.2 k hk).1, fun hm => (hF k hm).elim (hG.2 k hk).2.1 (fun h => by have := (hG.2 k hk).1; omega), (hG.2 k hk).2.2⟩⟩,
    h.data.elim fun G hG => ⟨G, hG.1, fun k hk => ⟨Nat.le_trans hB (hG.2 k hk).1, fun hm => (hF k hm).elim (hG.2 k hk).2.1 (fun h => by have := (hG.2 k hk).1; omega), (hG.2 k hk).2.2⟩⟩, h.oc, h.dc, h.ol, h.dl⟩
theorem PlOk.app {w w' : World} {B : Nat} {F F' : List Nat} {x : Pl} (h : PlOk w B F x) (hd : (F' = F ∧ Only F w w') ∨ (Only [] w w' ∧ ∀ k ∈ F', w.heap.size ≤ k)) : PlOk w' B F' x := by
  rcases hd with ⟨rfl, ho⟩ | ⟨ho, hF⟩
  · exact h.f ho
  · exact (h.moved hF).o ho
end Go.Proofs.YtofomopdaponbaaGreatDoor
/-
  opts.Carry of no options at all.
-/
namespace Go.Proofs.YtofomopdaponbaaGreatDoor
open Go.RowKit
set_option linter.unusedVariables false

theorem parse0_does {w : World} {A : Option Addr} {c : Nat} : Does Tryz.prog 150 [.slice A 0 c] w (fun v w' => v = .tuple ⟨[.slice none 0 0, .int .i64 0]⟩ ∧ Only [] w w') := by
  refine Does.enter (fn := Tryz.f150) (by kernel_rfl) rfl (by kernel_rfl) (by kernel_rfl) ?_
  conv => whnf
  refine VJoin.cut (α := Unit) [(2, 75)] (fun _ => [(4, .slice none 0 0)]) (fun _ w' => Only [] w w') (by kernel_rfl) ?_ ?_
  · conv => whnf
    refine VLoop.inv (α := Unit) [(2, 75)] (fun _ => [(4, .slice none 0 0), (5, .int .i64 0)]) (fun _ w' => Only [] w w') (fun _ => 0) () (by kernel_rfl) ⟨rfl, rfl, trivial⟩ (Only.refl _ _) ?_
    rintro ⟨⟩ wr j ho
    conv => whnf
    exact ⟨(), ⟨rfl, trivial⟩, ho⟩
  · rintro ⟨⟩ wr j ho
    conv => whnf
    exact ⟨rfl, ho⟩

theorem indexO0_does {w : World} {g : FuncId} {first cap : Array Value} : Does Tryz.prog 245 [.slice none 0 0, .func (.func g) first cap] w (fun v w' => v = .int .i64 (-1) ∧ Only [] w w') := by
  refine Does.enter (fn := Tryz.f245) (by kernel_rfl) rfl (by kernel_rfl) (by kernel_rfl) ?_
  conv => whnf
  refine VLoop.inv (α := Unit) [(4, 6), (8, 19)] (fun _ => [(8, .int .i64 0)]) (fun _ w' => Only [] w w') (fun _ => 0) () (by kernel_rfl) ⟨rfl, trivial⟩ (Only.refl _ _) ?_
  rintro ⟨⟩ wr j ho
  conv => whnf
  exact ⟨rfl, ho⟩

theorem deleteO0_does {w : World} {g : FuncId} {first cap : Array Value} : Does Tryz.prog 215 [.slice none 0 0, .func (.func g) first cap] w (fun v w' => v = .slice none 0 0 ∧ Only [] w w') := by
  refine Does.enter (fn := Tryz.f215) (by kernel_rfl) rfl (by kernel_rfl) (by kernel_rfl) ?_
  conv => whnf
  refine indexO0_does.mono ?_
  rintro v w1 ⟨rfl, ho⟩
  conv => whnf
  exact ⟨rfl, ho⟩

theorem build0_does {w : World} : Does Tryz.prog 217 [.slice none 0 0] w (fun v w' => v = .tuple ⟨[.slice none 0 0, .int .i64 0]⟩ ∧ Only [] w w') := by
  refine Does.enter (fn := Tryz.f217) (by kernel_rfl) rfl (by kernel_rfl) (by kernel_rfl) ?_
  conv => whnf
  refine VLoop.inv (α := Unit) [(2, 4), (6, 7), (13, 44)] (fun _ => [(13, .int .i64 0)]) (fun _ w' => Only [] w w') (fun _ => 0) () (by kernel_rfl) ⟨rfl, trivial⟩ (Only.refl _ _) ?_
  rintro ⟨⟩ wr j ho
  conv => whnf
  refine VLoop.inv (α := Unit) [(2, 5), (7, 8), (9, 11), (46, 80)] (fun _ => [(46, .int .i64 0), (7, .slice none 0 0)]) (fun _ w' => Only [] w w') (fun _ => 0) () (by kernel_rfl) ⟨rfl, rfl, trivial⟩ ho ?_
  rintro ⟨⟩ wr j ho
  conv => whnf
  refine VLoop.inv (α := Unit) [(7, 8), (80, 87)] (fun _ => [(7, .slice none 0 0)]) (fun _ w' => Only [] w w') (fun _ => 0) () (by kernel_rfl) ⟨rfl, trivial⟩ ho ?_
  rintro ⟨⟩ wr j ho
  conv => whnf
  exact ⟨rfl, ho⟩

theorem carry0_does {w : World} {G : List Nat} {A : Option Addr} {c : Nat} (h : Bs w G A 0 []) (hs : Shp w) (hcm : c ≤ 9223372036854775807) :
    Does Tryz.prog 156 [.slice A 0 c] w (fun v w' => v = .slice none 0 0 ∧ Only [] w w') := by
  refine Does.enter (fn := Tryz.f156) (by kernel_rfl) rfl (by kernel_rfl) (by kernel_rfl) ?_
  conv => whnf
  refine (optsValid_does h hs (Nat.zero_le _) hcm).mono ?_
  rintro v w1 ⟨rfl, ho1⟩
  conv => whnf
  refine parse0_does.mono ?_
  rintro v w2 ⟨rfl, ho2⟩
  conv => whnf
  refine deleteO0_does.mono ?_
  rintro v w3 ⟨rfl, ho3⟩
  conv => whnf
  refine build0_does.mono ?_
  rintro v w4 ⟨rfl, ho4⟩
  conv => whnf
  exact ⟨rfl, ((ho1.t0 ho2).t0 ho3).t0 ho4⟩
end Go.Proofs.YtofomopdaponbaaGreatDoor
/-
  cut.Cut of a packet of version 4 without options that is too long for the link.
-/
namespace Go.Proofs.YtofomopdaponbaaGreatDoor
open Go.RowKit
set_option linter.unusedVariables false
set_option linter.unusedSimpArgs false

/-! Cells of a packet that are written over. -/
theorem pk_put {p : Pk} {O D : At} (h : okPk p) (j : Nat) (v : Value) : (pkC p O D).set (37 + j) v = pkH p ++ (adC p.src ++ (adC p.dst ++ (pkT p O D).set j v)) := by
  unfold pkC
  rw [List.set_append_right _ _ (by simp [pkH]; omega), List.set_append_right _ _ (by simp [pkH, adC_len h.src]; omega), List.set_append_right _ _ (by simp [pkH, adC_len h.src, adC_len h.dst]; omega)]
  rw [show 37 + j - (pkH p).length - (adC p.src).length - (adC p.dst).length = j by rw [adC_len h.src, adC_len h.dst]; simp [pkH]; omega]
section
variable {w : World} {g : Nat} {t : TypeId} {p : Pk} {O D : At} (ok : okPk p)
include ok
theorem pk_put_id (v : Int) : (pkC p O D).set 39 (.int .u32 v) = pkC { p with id := v } O D := pk_put ok 2 _
theorem pk_put_more (b : Bool) : (pkC p O D).set 41 (.bool b) = pkC { p with more := b } O D := pk_put ok 4 _
theorem pk_put_frag (b : Bool) : (pkC p O D).set 42 (.bool b) = pkC { p with frag := b } O D := pk_put ok 5 _
theorem pk_put_off (v : Int) : (pkC p O D).set 43 (.int .i64 v) = pkC { p with off := v } O D := pk_put ok 6 _
theorem pk_put_opts (l : List UInt8) (A : Option Addr) (n c : Nat) (hn : n = l.length) : (pkC p O D).set 44 (.slice A n c) = pkC { p with opts := l } (A, c) D := by subst hn; exact pk_put ok 7 _
theorem pk_put_data (l : List UInt8) (A : Option Addr) (n c : Nat) (hn : n = l.length) : (pkC p O D).set 45 (.slice A n c) = pkC { p with data := l } O (A, c) := by subst hn; exact pk_put ok 8 _
end

def lenP (p : Pk) : Int := if headP p = 0 then 0 else headP p + p.data.length
set_option maxRecDepth 100000 in
theorem length_does {w : World} {p : Pk} {O D : At} {B : Nat} (hp : Pks w p O D B) (hs : Shp w) (hv : p.v = 4) : Does Tryz.prog 77 [.agg ⟨pkC p O D⟩] w (fun v w' => v = .int .i64 (lenP p) ∧ Only [] w w') := by
  have hA := Only.alloc (Only.refl [] w) (.cells ⟨pkC p O D⟩ 56)
  have hb := Blk.new w 56 ⟨pkC p O D⟩
  have hbd : 0 ≤ headP p ∧ headP p ≤ 140737488355348 := by
    have := hp.ol
    unfold headP
    split <;> omega
  have hdl := hp.dl
  refine Does.enter (fn := Tryz.f77) (by kernel_rfl) rfl (by kernel_rfl) (by kernel_rfl) ?_
  conv => whnf
  (refine ⟨_, hb.pkAll hp.ok, ?_⟩; conv => whnf)
  (refine (head_does (hp.o hA) (hs.o hA)).mono ?_; rintro v w1 ⟨rfl, ho⟩)
  have hb1 := hb.only ho (by simp)
  conv => whnf
  refine VJoin.go (by kernel_rfl) ?_
  conv => whnf
  (refine ⟨_, Loads.one (by kernel_rfl) (hb1.pkV), ?_⟩; conv => whnf)
  refine VIf.eq (fun e => absurd (hv.symm.trans e) (by decide)) (fun _ => ?_)
  conv => whnf
  refine VIf.eq (fun e => ?_) (fun e => ?_)
  · conv => whnf
    exact ⟨by rw [lenP, if_pos e], hA.t0 ho⟩
  · conv => whnf
    (refine ⟨_, Loads.one (by kernel_rfl) (hb1.pkData hp.ok), ?_⟩; conv => whnf)
    refine ⟨congrArg (Value.int IntKind.i64) ?_, hA.t0 ho⟩
    rw [lenP, if_neg e, wi64]
    omega
set_option maxRecDepth 100000 in
theorem cutWhole_does {w : World} {p : Pk} {O D : At} {B : Nat} (hp : Pks w p O D B) (hs : Shp w) (hv : p.v = 4) : Does Tryz.prog 75 [.agg ⟨pkC p O D⟩] w (fun v w' => v = .bool (decide (lenP p > 0) && decide (p.off = 0) && !p.more) ∧ Only [] w w') := by
  have hA := Only.alloc (Only.refl [] w) (.cells ⟨pkC p O D⟩ 56)
  have hb := Blk.new w 56 ⟨pkC p O D⟩
  refine Does.enter (fn := Tryz.f75) (by kernel_rfl) rfl (by kernel_rfl) (by kernel_rfl) ?_
  conv => whnf
  (refine ⟨_, hb.pkAll hp.ok, ?_⟩; conv => whnf)
  (refine (length_does (hp.o hA) (hs.o hA) hv).mono ?_; rintro v w1 ⟨rfl, ho⟩)
  have hb1 := hb.only ho (by simp)
  conv => whnf
  refine VIf.dec (fun h1 => ?_) (fun h1 => ?_)
  · conv => whnf
    (refine ⟨_, Loads.one (by kernel_rfl) (hb1.pkOff hp.ok), ?_⟩; conv => whnf)
    refine VIf.eq (fun h2 => ?_) (fun h2 => ?_)
    · conv => whnf
      (refine ⟨_, Loads.one (by kernel_rfl) (hb1.pkMore hp.ok), ?_⟩; conv => whnf)
      refine VIf.not (VIf.of (b := p.more) (fun h3 => ?_) (fun h3 => ?_))
      · conv => whnf
        exact ⟨by simp [h3], hA.t0 ho⟩
      · conv => whnf
        (refine ⟨_, Loads.one (by kernel_rfl) (hb1.pkV), ?_⟩; conv => whnf)
        refine VIf.eq (fun e => ?_) (fun e => absurd hv e)
        conv => whnf
        exact ⟨by simp [h1, h2, h3], hA.t0 ho⟩
    · conv => whnf
      exact ⟨by simp [h2], hA.t0 ho⟩
  · conv => whnf
    exact ⟨by simp [h1], hA.t0 ho⟩
set_option maxRecDepth 100000 in
theorem carries_does {w : World} {m : Int} : Does Tryz.prog 76 [.int .i64 4, .int .i64 m] w (fun v w' => v = .bool (decide (m ≥ 68) && decide (m ≤ 65535)) ∧ Only [] w w') := by
  refine Does.enter (fn := Tryz.f76) (by kernel_rfl) rfl (by kernel_rfl) (by kernel_rfl) ?_
  conv => whnf
  refine VJoin.go (by kernel_rfl) ?_
  conv => whnf
  refine VIf.dec (fun h1 => ?_) (fun h1 => ?_)
  · conv => whnf
    exact ⟨by simp [h1], Only.refl _ _⟩
  · conv => whnf
    exact ⟨by simp [h1], Only.refl _ _⟩
set_option maxRecDepth 100000 in
theorem cutRoom_does {w : World} {m : Int} : Does Tryz.prog 78 [.int .i64 4, .int .i64 m] w (fun v w' => v = .int .i64 m ∧ Only [] w w') := by
  refine Does.enter (fn := Tryz.f78) (by kernel_rfl) rfl (by kernel_rfl) (by kernel_rfl) ?_
  conv => whnf
  exact ⟨rfl, Only.refl _ _⟩
set_option maxRecDepth 100000 in
theorem later_does {w : World} {p : Pk} {O D : At} {B : Nat} (hp : Pks w p O D B) (hs : Shp w) (hv : p.v = 4) (h0 : p.opts = []) : Does Tryz.prog 79 [.agg ⟨pkC p O D⟩] w (fun v w' => v = .slice none 0 0 ∧ Only [] w w') := by
  have hA := Only.alloc (Only.refl [] w) (.cells ⟨pkC p O D⟩ 56)
  have hb := Blk.new w 56 ⟨pkC p O D⟩
  have hl0 : p.opts.length = 0 := by rw [h0]; rfl
  obtain ⟨G, hG, -⟩ := hp.opts
  rw [hl0, h0] at hG
  have hoc := hp.oc.2
  refine Does.enter (fn := Tryz.f79) (by kernel_rfl) rfl (by kernel_rfl) (by kernel_rfl) ?_
  conv => whnf
  (refine ⟨_, Loads.one (by kernel_rfl) (hb.pkV), ?_⟩; conv => whnf)
  refine VIf.eq (fun e => absurd (hv.symm.trans e) (by decide)) (fun _ => ?_)
  conv => whnf
  (refine ⟨_, Loads.one (by kernel_rfl) (hb.pkOpts hp.ok), ?_⟩; conv => whnf)
  rw [hl0]
  (refine (carry0_does (hG.o hA) (hs.o hA) hoc).mono ?_; rintro v w1 ⟨rfl, ho⟩)
  conv => whnf
  exact ⟨rfl, hA.t0 ho⟩

end Go.Proofs.YtofomopdaponbaaGreatDoor
/-
  cut.Cut of a packet of version 4 without options that is too long for the link: the walk.
-/
namespace Go.Proofs.YtofomopdaponbaaGreatDoor
open Go.RowKit
set_option linter.unusedVariables false
set_option linter.unusedSimpArgs false

/-! The pieces. -/
def pieceP (p : Pk) (q i : Nat) : Pk := { p with off := ((i * q : Nat) : Int), more := true, data := (p.data.drop (i * q)).take q }
def lastP (p : Pk) (q i : Nat) : Pk := { p with off := ((i * q : Nat) : Int), data := p.data.drop (i * q) }
theorem bs_nil (w : World) (A : Option Addr) : Bs w [] A 0 [] := ⟨rfl, fun h => absurd h (by omega)⟩
theorem andNot7 {m : Nat} (h : 48 ≤ m ∧ m ≤ 63) : andNotI .i64 (m : Int) 7 = ((m / 8 * 8 : Nat) : Int) := by
  have h1 : m = 48 ∨ m = 49 ∨ m = 50 ∨ m = 51 ∨ m = 52 ∨ m = 53 ∨ m = 54 ∨ m = 55 ∨ m = 56 ∨ m = 57 ∨ m = 58 ∨ m = 59 ∨ m = 60 ∨ m = 61 ∨ m = 62 ∨ m = 63 := by omega
  rcases h1 with rfl | rfl | rfl | rfl | rfl | rfl | rfl | rfl | rfl | rfl | rfl | rfl | rfl | rfl | rfl | rfl <;> rfl
structure CutI (w : World) (B b3 q m : Nat) (p : Pk) (O D : At) (i : Nat) (A : Option Addr) (c : Nat) (X : Option Addr) (cX : Nat) (F : List Nat) (z : List Pl) (w' : World) : Prop where
  row : Row w' 56 46 F A i c (z.flatMap pkP)
  ps : z.map (·.p) = (List.range i).map (pieceP p q)
  ok : ∀ x ∈ z, PlOk w' B F x
  o : Only [] w w'
  hF : ∀ k ∈ F, b3 < k
  b : Blk w' b3 56 ⟨pkC p O D⟩
  x : ∃ G, Bs w' G X (p.data.length - i * q) (p.data.drop (i * q)) ∧ ∀ k ∈ G, k < b3
  le : i * q ≤ p.data.length
  cx : p.data.length - i * q ≤ cX ∧ cX ≤ 9223372036854775807
  long : ∀ j, j < i → m < p.data.length - j * q
set_option maxHeartbeats 4000000 in
set_option maxRecDepth 100000 in
theorem cut_does {w : World} {p : Pk} {O D : At} {M id : Int} {m q : Nat} (hp : Pks w p O D 0) (hs : Shp w) (hr : rightP p = true) (hv : p.v = 4) (h0 : p.off = 0) (h1 : p.more = false) (h2 : p.df = false) (h3 : p.opts = [])
    (hM : M = 20 + (m : Nat)) (hm : 48 ≤ m ∧ m ≤ 63) (hl : m < p.data.length) (hq : q = m / 8 * 8) :
    Does Tryz.prog 33 [.agg ⟨pkC p O D⟩, .int .i64 M, .int .u32 id] w (fun v w' => ∃ A n c F, ∃ z : List Pl, ∃ k, v = .tuple ⟨[.slice A n c, .int .i64 0]⟩ ∧ Row w' 56 46 F A n c (z.flatMap pkP) ∧ z.map (·.p) = (List.range k).map (pieceP p q) ++ [lastP p q k] ∧
      n = k + 1 ∧ 0 < k ∧ k * q < p.data.length ∧ p.data.length - k * q ≤ m ∧ (∀ j, j < k → m < p.data.length - j * q) ∧ (∀ x ∈ z, PlOk w' w.heap.size F x) ∧ Only [] w w' ∧ ∀ k ∈ F, w.heap.size ≤ k) := by
  obtain ⟨b3, hb3⟩ : ∃ b3, b3 = w.heap.size := ⟨_, rfl⟩
  have hA := Only.alloc (Only.refl [] w) (.cells ⟨pkC p O D⟩ 56)
  have hb := Blk.new w 56 ⟨pkC p O D⟩
  have ok := hp.ok
  have R := rgt_of hr
  have hl0 : p.opts.length = 0 := by rw [h3]; rfl
  have hdl := hp.dl
  have hRl := R.len
  have hlen : lenP p = 20 + p.data.length := by
    have : headP p = 20 := by rw [headP, if_pos hr, hl0]; rfl
    rw [lenP, this, if_neg (by decide)]
  refine Does.enter (fn := Tryz.f33) (by kernel_rfl) rfl (by kernel_rfl) (by kernel_rfl) ?_
  conv => whnf
  (refine ⟨_, hb.pkAll hp.ok, ?_⟩; conv => whnf)
  (refine (cutWhole_does (hp.o hA) (hs.o hA) hv).mono ?_; rintro v w1 ⟨rfl, ho1⟩)
  have hb1 := hb.only ho1 (by simp)
  rw [hlen, h0, h1, show (decide (20 + (p.data.length : Int) > 0) && decide ((0 : Int) = 0) && !false) = true by simp; omega]
  conv => whnf
  (refine ⟨_, Loads.one (by kernel_rfl) (hb1.pkV), ?_⟩; conv => whnf)
  rw [hv]
  (refine (carries_does).mono ?_; rintro v w2 ⟨rfl, ho2⟩)
  rw [show (decide (M ≥ 68) && decide (M ≤ 65535)) = true by simp; omega]
  have hb2 := hb1.only ho2 (by simp)
  conv => whnf
  (refine ⟨_, Loads.one (by kernel_rfl) (hb2.pkOpts ok), ?_⟩; conv => whnf)
  rw [hl0]
  (refine (cloneB_does (bs_nil w2 O.1) (by omega)).mono ?_; rintro v w3 hv3)
  obtain ⟨A1, c1, G1, rfl, hG1, -, hc1, ho3, -⟩ := hv3.bs
  have hb3' := hb2.only ho3 (by simp)
  obtain ⟨GD, hGD, hGDl⟩ : ∃ G, Bs w G D.1 p.data.length p.data ∧ ∀ k ∈ G, k < w.heap.size := by
    obtain ⟨G, hG, -⟩ := hp.data
    exact hG.tight
  have hw3 := ((hA.t0 ho1).t0 ho2).t0 ho3
  have e0 : ({ p with opts := [] } : Pk) = p := by rw [← h3]
  conv => whnf
  refine vStore.one (i := 44) hb3' (by kernel_rfl) rfl ((pk_tail ok 7).trans rfl) (fun hb4 ho4 => ?_)
  rw [pk_put_opts ok [] A1 _ c1 rfl, e0] at hb4
  generalize w3.setCell _ _ = w4 at hb4 ho4 ⊢
  have hw4 : Only [] w w4 := hw3.trans ho4 (fun k hk => .inr (by simp at hk; omega))
  have hp4 : Pks w4 p (A1, c1) D 0 := ⟨ok, ⟨[], by rw [hl0, h3]; exact bs_nil _ _, by simp⟩, ⟨GD, (hGD.o hw4), fun k hk => Nat.zero_le _⟩, ⟨by rw [hl0]; exact Nat.zero_le _, by simpa using hc1⟩, hp.dc, hp.ol, hp.dl⟩
  have hs4 : Shp w4 := hs.o hw4
  conv => whnf
  (refine ⟨_, hb4.pkAll ok, ?_⟩; conv => whnf)
  (refine (length_does hp4 hs4 hv).mono ?_; rintro v w5 ⟨rfl, ho5⟩)
  have hb5 := hb4.only ho5 (by simp)
  have hw5 := hw4.t0 ho5
  rw [hlen]
  conv => whnf
  refine VIf.dec (fun h => absurd h (by omega)) (fun _ => ?_)
  conv => whnf
  (refine ⟨_, Loads.one (by kernel_rfl) (hb5.pkDf ok), ?_⟩; conv => whnf)
  rw [h2]
  conv => whnf
  (refine ⟨_, Loads.one (by kernel_rfl) (hb5.pkOpts ok), ?_⟩; conv => whnf)
  rw [hl0]
  conv => whnf
  refine VJoin.go (by kernel_rfl) ?_
  conv => whnf
  (refine ⟨_, Loads.one (by kernel_rfl) (hb5.pkV), ?_⟩; conv => whnf)
  rw [hv]
  conv => whnf
  (refine ⟨_, Loads.one (by kernel_rfl) (hb5.pkData ok), ?_⟩; conv => whnf)
  subst hM
  have hwm : IntKind.i64.wrap (20 + (m : Nat) - 20 : Int) = (m : Int) := by rw [wi64]; omega
  have hq0 : 48 ≤ q ∧ q ≤ m := by omega
  refine VLoop.inv (α := Nat × Option Addr × Nat × Option Addr × Nat) [(6, 8), (8, 13), (52, 99)] (fun | (i, A, c, X, cX) => [(8, .int .i64 20), (9, .slice A i c), (10, .slice X (p.data.length - i * q) cX)])
    (fun | (i, A, c, X, cX) => fun w' => ∃ F z, CutI w w.heap.size w.heap.size q m p (A1, c1) D i A c X cX F z w')
    (fun | (i, A, c, X, cX) => p.data.length - i * q) (0, none, 0, D.1, D.2) (by kernel_rfl) ⟨rfl, rfl, show _ = Value.slice D.1 (p.data.length - 0 * q) D.2 by rw [Nat.zero_mul]; rfl, trivial⟩
    ⟨[], [], ⟨Row.nil _ _ _ _, rfl, by simp, hw5, by simp, hb5, ⟨GD, by simpa using hGD.o hw5, hGDl⟩, by rw [Nat.zero_mul]; exact Nat.zero_le _, ⟨by rw [Nat.zero_mul]; exact hp.dc.1, hp.dc.2⟩, fun j hj => absurd hj (Nat.not_lt_zero j)⟩⟩ ?_
  rintro ⟨i, A, c, X, cX⟩ wr j ⟨F, z, I⟩
  have hzl : z.length = i := by have := congrArg List.length I.ps; simpa using this
  conv => whnf
  (refine ⟨_, Loads.one (by kernel_rfl) (I.b.pkV), ?_⟩; conv => whnf)
  rw [hv, hwm]
  (refine (cutRoom_does).mono ?_; rintro v w6 ⟨rfl, ho6⟩)
  have hb6 := I.b.only ho6 (by simp)
  have hw6 := I.o.t0 ho6
  conv => whnf
  refine VIf.dec (fun ht => ?_) (fun ht => ?_)
  · conv => whnf
    rw [hwm]
    have hqe : andNotI .i64 (m : Int) 7 = (q : Int) := by
      rw [hq]
      exact andNot7 hm
    rw [hqe]
    have hlt : m < p.data.length - i * q := by omega
    conv => whnf
    (refine ⟨_, hb6.pkAll ok, ?_⟩; conv => whnf)
    obtain ⟨g2, hg2⟩ : ∃ g2, g2 = w6.heap.size := ⟨_, rfl⟩
    refine vStore.all (cs := pkC p (A1, c1) D) (Blk.new w6 56 _) (by rw [pk_len ok]; kernel_rfl) (by rw [pk_len ok]; rfl) (one_pkC _ _ _) (fun w7 hb7 ho7 hsz7 => ?_)
    have hA7 : Only [] w6 w7 := ((Only.refl [] w6).alloc _).trans ho7 (fun k hk => .inr (by simp at hk; omega))
    have hb67 := hb6.only hA7 (by simp)
    have hW7 := ho6.t0 hA7
    have hw7 := hw6.t0 hA7
    have hg6 : w.heap.size < w6.heap.size := hb6.lt
    obtain ⟨GX, hX, hGX⟩ := I.x
    have hX7 := (hX.o ho6).o hA7
    have hile : i * q ≤ p.data.length := by omega
    have hqle : i * q + q ≤ p.data.length := by omega
    clear ho7 hsz7
    conv => whnf
    refine VDraw.abs fun N0 hN => ?_
    refine VDraw.held (fun w' => Blk w' w.heap.size 56 ⟨pkC p (A1, c1) D⟩) [0, 1, 2, 3, 4, 5, 6, 7, 8, 10, 9, 11, 12, 13, 14, 15] (by kernel_rfl) (by kernel_rfl) hb67.drew ?_
    conv => whnf
    refine ⟨_, fun w' hw' => Loads.one (by kernel_rfl) (Blk.pkData hw' ok), ?_⟩
    conv => whnf
    have hsub : IntKind.i64.wrap ((p.data.length : Int) - ((p.data.length - i * q : Nat) : Int)) = ((i * q : Nat) : Int) := by rw [wi64]; omega
    rw [hsub]
    have hcut := hX7.cut (lo := 0) (hi := q) (m := cX) (by omega) (by have := I.cx.1; omega) (by omega) rfl
    rw [List.drop_zero, Nat.sub_zero] at hcut
    have hcl : ((p.data.drop (i * q)).take q).length = q := by rw [List.length_take, List.length_drop]; omega
    have hcx := I.cx
    refine ⟨0, q, cX, rfl, rfl, rfl, by omega, by omega, by omega, _, q, cX - 0, rfl, rfl, rfl, ?_⟩
    conv => whnf
    refine (cloneB_does (hcut.o (Only.refl [] w7).drew) (by omega)).mono ?_
    intro v w8 hv8
    obtain ⟨A2, c2, G2, rfl, hG2, hc2, hc2m, ho8, hG2n⟩ := hv8.bs
    rw [hcl] at hG2 hc2 ⊢
    have hb8 := hb67.drew.only ho8 (by simp)
    have hW8 := hW7.drew.t0 ho8
    have hw8 := hw7.drew.t0 ho8
    have hg6r : wr.heap.size ≤ w6.heap.size := ho6.size
    have hb78 := hb7.drew.only ho8 (by simp)
    have hg8 : w6.heap.size < w8.heap.size := hb78.lt
    refine ⟨hb8, ?_⟩
    conv => whnf
    refine vStore.one (i := 43) hb78 (by kernel_rfl) rfl ((pk_tail ok 6).trans rfl) (fun hb9 ho9 => ?_)
    have hb89 := hb8.only ho9 (by simp; omega)
    have hg7 : w6.heap.size < w7.heap.size := hb7.lt
    have hgG : ∀ k ∈ G2, k ∉ [w6.heap.size] := fun k hk => by
      have h1 : w7.heap.size ≤ k := (hG2n k hk).1
      simp
      omega
    have hG9 := hG2.only ho9 hgG
    have hw9 := hw8.trans ho9 (fun k hk => .inr (by simp at hk; omega))
    have hW9 := hW8.trans ho9 (fun k hk => .inr (by simp at hk; omega))
    rw [pk_put_off ok] at hb9
    generalize w8.setCell _ _ = w9 at hb9 ho9 hb89 hG9 hw9 hW9 ⊢
    have ok9 : okPk { p with off := ((i * q : Nat) : Int) } := ⟨ok.src, ok.dst, by dsimp only; omega⟩
    refine ⟨hb89, ?_⟩
    conv => whnf
    refine vStore.one (i := 41) hb9 (by kernel_rfl) rfl ((pk_tail ok9 4).trans rfl) (fun hba hoa => ?_)
    have hb8a := hb89.only hoa (by simp; omega)
    have hGa := hG9.only hoa hgG
    have hwa := hw9.trans hoa (fun k hk => .inr (by simp at hk; omega))
    have hWa := hW9.trans hoa (fun k hk => .inr (by simp at hk; omega))
    rw [pk_put_more ok9] at hba
    have oka : okPk { p with off := ((i * q : Nat) : Int), more := true } := ⟨ok.src, ok.dst, ok9.off⟩
    generalize w9.setCell _ _ = wa at hba hoa hb8a hGa hwa hWa ⊢
    refine ⟨hb8a, ?_⟩
    conv => whnf
    refine vStore.one (i := 45) hba (by kernel_rfl) rfl ((pk_tail (p := { p with off := ((i * q : Nat) : Int), more := true }) oka 8).trans rfl) (fun hbb hob => ?_)
    have hb8b := hb8a.only hob (by simp; omega)
    have hGb := hGa.only hob hgG
    have hwb := hwa.trans hob (fun k hk => .inr (by simp at hk; omega))
    have hWb := hWa.trans hob (fun k hk => .inr (by simp at hk; omega))
    rw [pk_put_data (p := { p with off := ((i * q : Nat) : Int), more := true }) oka _ A2 q c2 hcl.symm] at hbb
    generalize wa.setCell _ _ = wb at hbb hob hb8b hGb hwb hWb ⊢
    have epc : pkC { p with off := ((i * q : Nat) : Int), more := true, data := (p.data.drop (i * q)).take q } (A1, c1) (A2, c2) = pkC (pieceP p q i) (A1, c1) (A2, c2) := rfl
    rw [show (⟨pkC { p with off := ((i * q : Nat) : Int), more := true, data := (p.data.drop (i * q)).take q } (A1, c1) (A2, c2)⟩ : Array Value) = ⟨pkC (pieceP p q i) (A1, c1) (A2, c2)⟩ from rfl] at hbb
    have okc : okPk (pieceP p q i) := ⟨ok.src, ok.dst, ok9.off⟩
    refine ⟨hb8b, ?_⟩
    have hsb : w8.heap.size ≤ wb.heap.size := Nat.le_trans ho9.size (Nat.le_trans hoa.size hob.size)
    refine hN _ _ ?_
    clear hoa ho9 hob hba hb9 hb8a hGa hwa hN hb89 hG9
    conv => whnf
    refine VJoin.cut (α := At) [(79, 85)] (fun _ => []) (fun O2 w' => Blk w' w.heap.size 56 ⟨pkC p (A1, c1) D⟩ ∧ Blk w' w6.heap.size 56 ⟨pkC (pieceP p q i) O2 (A2, c2)⟩ ∧ Only [w6.heap.size] wb w' ∧ O2.2 ≤ 9223372036854775807) (by kernel_rfl) ?_ ?_
    · conv => whnf
      refine VIf.dec (fun hi0 => ?_) (fun hi0 => ?_)
      · conv => whnf
        (refine ⟨_, hb8b.pkAll ok, ?_⟩; conv => whnf)
        have hpb : Pks wb p (A1, c1) D 0 := ⟨ok, ⟨[], by rw [hl0, h3]; exact bs_nil _ _, by simp⟩, ⟨GD, (hGD.o hwb), fun k hk => Nat.zero_le _⟩, ⟨by rw [hl0]; exact Nat.zero_le _, by simpa using hc1⟩, hp.dc, hp.ol, hp.dl⟩
        (refine (later_does hpb (hs.o hwb) hv h3).mono ?_; rintro v wc ⟨rfl, hoc⟩)
        conv => whnf
        refine vStore.one (i := 44) (hbb.only hoc (by simp)) (by kernel_rfl) rfl ((pk_tail okc 7).trans rfl) (fun hbd hod => ?_)
        rw [pk_put_opts okc [] none 0 0 rfl, show ({ pieceP p q i with opts := [] } : Pk) = pieceP p q i by rw [← h3]; rfl] at hbd
        conv => whnf
        exact ⟨(none, 0), trivial, (hb8b.only hoc (by simp)).only hod (by simp; omega), hbd, (Only.mono hoc (by simp)).trans hod (fun k hk => .inl hk), by omega⟩
      · conv => whnf
        exact ⟨(A1, c1), trivial, hb8b, hbb, Only.refl _ _, hc1⟩
    · rintro O2 wc j2 ⟨hb8c, hbc, hoc, hO2⟩
      have hwc := hwb.trans hoc (fun k hk => .inr (by simp at hk; omega))
      have hWc := hWb.trans hoc (fun k hk => .inr (by simp at hk; omega))
      have hGc := hGb.only hoc hgG
      have hg2 : w6.heap.size < wc.heap.size := hbc.lt
      conv => whnf
      (refine ⟨_, hbc.pkAll okc, ?_⟩; conv => whnf)
      refine lenIs.of (Nat.succ.inj (Nat.succ.inj (Nat.succ.inj (Nat.succ.inj (pk_len okc))))) ?_
      conv => whnf
      have hWd := hWc.alloc (.cells ⟨pkC (pieceP p q i) O2 (A2, c2) ++ []⟩ 56)
      have hwd := hwc.alloc (.cells ⟨pkC (pieceP p q i) O2 (A2, c2) ++ []⟩ 56)
      have hb8d := hb8c.alloc (.cells ⟨pkC (pieceP p q i) O2 (A2, c2) ++ []⟩ 56)
      have hGd := hGc.o ((Only.refl [] wc).alloc (.cells ⟨pkC (pieceP p q i) O2 (A2, c2) ++ []⟩ 56))
      have hsd := ((Only.refl [] wc).alloc (.cells ⟨pkC (pieceP p q i) O2 (A2, c2) ++ []⟩ 56)).size
      have hin : i * 1 ≤ i * q := Nat.mul_le_mul_left _ (by omega)
      refine vFall.append3 56 46 152 rfl (by kernel_rfl) rfl (I.row.only hWd (by simp)) rfl (Sl.new wc 56 46 (pkC (pieceP p q i) O2 (A2, c2) ++ []) 1 (by rw [List.append_nil, pk_len okc])) (fun u hu => isOne_cell (one_pkC _ _ _ u (by rwa [List.append_nil] at hu))) (by omega) (by omega) (by omega) ?_
      intro A' c' F' we hre (hde : (A' = A ∧ c' = c ∧ F' = F ∧ Only F (wc.alloc (.cells ⟨pkC (pieceP p q i) O2 (A2, c2) ++ []⟩ 56)) we) ∨ (Only [] (wc.alloc (.cells ⟨pkC (pieceP p q i) O2 (A2, c2) ++ []⟩ 56)) we ∧ ∀ k ∈ F', (wc.alloc (.cells ⟨pkC (pieceP p q i) O2 (A2, c2) ++ []⟩ 56)).heap.size ≤ k))
      generalize wc.alloc _ = wd at hWd hwd hb8d hGd hde hsd
      rw [List.append_nil] at hre
      have eO : (pieceP p q i).opts = [] := h3
      have hpz : pkP ⟨pieceP p q i, O2, (A2, c2)⟩ = pkC (pieceP p q i) O2 (A2, c2) := pkP_id okc
      have hde2 : (F' = F ∧ Only F wd we) ∨ (Only [] wd we ∧ ∀ k ∈ F', wd.heap.size ≤ k) := by
        rcases hde with ⟨_, _, h1, h2⟩ | h
        · exact .inl ⟨h1, h2⟩
        · exact .inr h
      have hone : PlOk wd w.heap.size F ⟨pieceP p q i, O2, (A2, c2)⟩ := ⟨okc, ⟨[], by rw [show (Pl.p ⟨pieceP p q i, O2, (A2, c2)⟩).opts = [] from h3]; exact bs_nil _ _, by simp⟩, ⟨G2, by rw [show (Pl.p ⟨pieceP p q i, O2, (A2, c2)⟩).data.length = q from hcl]; exact hGd, fun k hk => by
          have h1 : w7.heap.size ≤ k := (hG2n k hk).1
          have h2 := (hG2n k hk).2
          refine ⟨by omega, fun hm => ?_, ?_⟩
          · have := I.row.lt k hm
            omega
          · have := hoc.size
            omega⟩, ⟨by rw [show (Pl.p ⟨pieceP p q i, O2, (A2, c2)⟩).opts = [] from h3]; exact Nat.zero_le _, hO2⟩, ⟨by rw [show (Pl.p ⟨pieceP p q i, O2, (A2, c2)⟩).data.length = q from hcl]; exact hc2, hc2m⟩,
          by rw [show (Pl.p ⟨pieceP p q i, O2, (A2, c2)⟩).opts = [] from h3]; exact Nat.zero_le _, by rw [show (Pl.p ⟨pieceP p q i, O2, (A2, c2)⟩).data.length = q from hcl]; omega⟩
      conv => whnf
      have hXw := hX.o hWd
      have hcut2 := hXw.cut (lo := q) (hi := p.data.length - i * q) (m := cX) (by omega) (by omega) (by omega) rfl
      refine ⟨q, p.data.length - i * q, cX, rfl, rfl, rfl, by omega, by omega, by omega, _, p.data.length - i * q - q, cX - q, rfl, rfl, rfl, ?_⟩
      conv => whnf
      have hFF : Only F wd we := hde2.elim (fun h => h.2) (fun h => Only.mono h.1 (by simp))
      have hwe : Only [] w we := hwd.trans hFF (fun k hk => .inr (Nat.le_of_lt (I.hF k hk)))
      have hb8e := hb8d.only hFF (fun hm => absurd (I.hF _ hm) (Nat.lt_irrefl _))
      have hse := hs.o hwe
      have hpe : Pks we p (A1, c1) D 0 := ⟨ok, ⟨[], by rw [hl0, h3]; exact bs_nil _ _, by simp⟩, ⟨GD, (hGD.o hwe), fun k hk => Nat.zero_le _⟩, ⟨by rw [hl0]; exact Nat.zero_le _, by simpa using hc1⟩, hp.dc, hp.ol, hp.dl⟩
      have hXe := hcut2.only hFF (fun k hk hm => by have := I.hF k hm; have := hGX k hk; omega)
      have e1 : p.data.length - (i + 1) * q = p.data.length - i * q - q := by rw [Nat.succ_mul]; omega
      (refine ⟨_, Loads.one (by kernel_rfl) (hb8e.pkV), ?_⟩; conv => whnf)
      rw [hv]
      conv => whnf
      (refine ⟨_, hb8e.pkAll ok, ?_⟩; conv => whnf)
      (refine (later_does hpe hse hv h3).mono ?_; rintro v wf ⟨rfl, hof⟩)
      conv => whnf
      refine ⟨(i + 1, A', c', _, cX - q), ⟨rfl, rfl, by rw [e1]; rfl, trivial⟩, ⟨F', z ++ [⟨pieceP p q i, O2, (A2, c2)⟩], ⟨?_, ?_, ?_, hwe.t0 hof, ?_, hb8e.only hof (by simp), ⟨GX, ?_, hGX⟩, ?_, ?_, ?_⟩⟩, ?_⟩
      · exact ((hre.cast (by rw [List.flatMap_append, List.flatMap_singleton, hpz])).only hof (by simp))
      · rw [List.map_append, I.ps, List.range_succ, List.map_append]; rfl
      · intro x hx
        rcases List.mem_append.1 hx with hx | hx
        · exact ((((I.ok x hx).o hWd)).app hde2).o hof
        · obtain rfl := List.mem_singleton.1 hx
          exact (hone.app hde2).o hof
      · rcases hde2 with ⟨rfl, -⟩ | ⟨-, h⟩
        · exact I.hF
        · exact fun k hk => by have := h k hk; omega
      · rw [e1]
        have := hXe.o hof
        rw [List.drop_drop, List.take_of_length_le (by rw [List.length_drop]; omega), ← Nat.succ_mul] at this
        exact this
      · rw [Nat.succ_mul]; exact hqle
      · rw [e1]; omega
      · intro j hj
        rcases Nat.lt_succ_iff_lt_or_eq.1 hj with h | rfl
        · exact I.long j h
        · exact hlt
      · show p.data.length - (i + 1) * q < p.data.length - i * q
        rw [e1]; omega
  · have hle2 : p.data.length - i * q ≤ m := by
      have : ¬ ((p.data.length - i * q : Nat) : Int) > (m : Int) := ht
      omega
    have hi0 : 0 < i := by
      rcases Nat.eq_zero_or_pos i with rfl | h
      · rw [Nat.zero_mul] at hle2; omega
      · exact h
    have hin : i * 1 ≤ i * q := Nat.mul_le_mul_left _ (by omega)
    have hdpos : i * q < p.data.length := by
      have h1 := I.long (i - 1) (by omega)
      have h2 : (i - 1) * q + q = i * q := by rw [← Nat.succ_mul]; congr 1; omega
      omega
    conv => whnf
    (refine ⟨_, hb6.pkAll ok, ?_⟩; conv => whnf)
    obtain ⟨g2, hg2⟩ : ∃ g2, g2 = w6.heap.size := ⟨_, rfl⟩
    refine vStore.all (cs := pkC p (A1, c1) D) (Blk.new w6 56 _) (by rw [pk_len ok]; kernel_rfl) (by rw [pk_len ok]; rfl) (one_pkC _ _ _) (fun w7 hb7 ho7 hsz7 => ?_)
    have hA7 : Only [] w6 w7 := ((Only.refl [] w6).alloc _).trans ho7 (fun k hk => .inr (by simp at hk; omega))
    have hb67 := hb6.only hA7 (by simp)
    have hW7 := ho6.t0 hA7
    have hw7 := hw6.t0 hA7
    have hg6 : w.heap.size < w6.heap.size := hb6.lt
    obtain ⟨GX, hX, hGX⟩ := I.x
    have hX7 := (hX.o ho6).o hA7
    clear ho7 hsz7
    conv => whnf
    refine VDraw.abs fun N0 hN => ?_
    refine VDraw.held (fun w' => Blk w' w.heap.size 56 ⟨pkC p (A1, c1) D⟩) [0, 1, 2, 3, 4, 5, 6, 8, 10, 7, 9, 11, 12, 13, 14, 15] (by kernel_rfl) (by kernel_rfl) hb67.drew ?_
    conv => whnf
    refine ⟨_, fun w' hw' => Loads.one (by kernel_rfl) (Blk.pkData hw' ok), ?_⟩
    conv => whnf
    have hsub : IntKind.i64.wrap ((p.data.length : Int) - ((p.data.length - i * q : Nat) : Int)) = ((i * q : Nat) : Int) := by rw [wi64]; omega
    rw [hsub]
    conv => whnf
    refine ⟨_, fun w' hw' => Blk.pkAll hw' ok, ?_⟩
    conv => whnf
    have hcl : (p.data.drop (i * q)).length = p.data.length - i * q := List.length_drop
    refine (cloneB_does (hX7.o (Only.refl [] w7).drew) (by omega)).mono ?_
    intro v w8 hv8
    obtain ⟨A2, c2, G2, rfl, hG2, hc2, hc2m, ho8, hG2n⟩ := hv8.bs
    rw [hcl] at hG2 hc2 ⊢
    have hb8 := hb67.drew.only ho8 (by simp)
    have hw8 := hw7.drew.t0 ho8
    have hW8 := hW7.drew.t0 ho8
    have hg6r : wr.heap.size ≤ w6.heap.size := ho6.size
    have hb78 := hb7.drew.only ho8 (by simp)
    refine ⟨hb8, ?_⟩
    conv => whnf
    have hpe : Pks w8 p (A1, c1) D 0 := ⟨ok, ⟨[], by rw [hl0, h3]; exact bs_nil _ _, by simp⟩, ⟨GD, (hGD.o hw8), fun k hk => Nat.zero_le _⟩, ⟨by rw [hl0]; exact Nat.zero_le _, by simpa using hc1⟩, hp.dc, hp.ol, hp.dl⟩
    refine (later_does hpe (hs.o hw8) hv h3).mono ?_
    rintro v w8b ⟨rfl, ho8b⟩
    have hb8b' := hb8.only ho8b (by simp)
    have hw8b := hw8.t0 ho8b
    have hW8b := hW8.t0 ho8b
    have hb78b := hb78.only ho8b (by simp)
    have hG8b := hG2.o ho8b
    refine ⟨hb8b', ?_⟩
    conv => whnf
    refine vStore.one (i := 43) hb78b (by kernel_rfl) rfl ((pk_tail ok 6).trans rfl) (fun hb9 ho9 => ?_)
    have hg7 : w6.heap.size < w7.heap.size := hb7.lt
    have hgG : ∀ k ∈ G2, k ∉ [w6.heap.size] := fun k hk => by
      have h1 : w7.heap.size ≤ k := (hG2n k hk).1
      simp
      omega
    have hb89 := hb8b'.only ho9 (by simp; omega)
    have hG9 := hG8b.only ho9 hgG
    have hw9 := hw8b.trans ho9 (fun k hk => .inr (by simp at hk; omega))
    have hW9 := hW8b.trans ho9 (fun k hk => .inr (by simp at hk; omega))
    rw [pk_put_off ok] at hb9
    generalize w8b.setCell _ _ = w9 at hb9 ho9 hb89 hG9 hw9 hW9 ⊢
    have ok9 : okPk { p with off := ((i * q : Nat) : Int) } := ⟨ok.src, ok.dst, by dsimp only; omega⟩
    refine ⟨hb89, ?_⟩
    conv => whnf
    refine vStore.one (i := 45) hb9 (by kernel_rfl) rfl ((pk_tail ok9 8).trans rfl) (fun hba hoa => ?_)
    have hb8a := hb89.only hoa (by simp; omega)
    have hGa := hG9.only hoa hgG
    have hwa := hw9.trans hoa (fun k hk => .inr (by simp at hk; omega))
    have hWa := hW9.trans hoa (fun k hk => .inr (by simp at hk; omega))
    rw [pk_put_data ok9 _ A2 (p.data.length - i * q) c2 hcl.symm] at hba
    rw [show (⟨pkC { p with off := ((i * q : Nat) : Int), data := p.data.drop (i * q) } (A1, c1) (A2, c2)⟩ : Array Value) = ⟨pkC (lastP p q i) (A1, c1) (A2, c2)⟩ from rfl] at hba
    have okc : okPk (lastP p q i) := ⟨ok.src, ok.dst, ok9.off⟩
    generalize w9.setCell _ _ = wa at hba hoa hb8a hGa hwa hWa ⊢
    refine ⟨hb8a, ?_⟩
    conv => whnf
    refine vStore.one (i := 44) hba (by kernel_rfl) rfl ((pk_tail okc 7).trans rfl) (fun hbb hob => ?_)
    have hb8b := hb8a.only hob (by simp; omega)
    have hGb := hGa.only hob hgG
    have hwb := hwa.trans hob (fun k hk => .inr (by simp at hk; omega))
    have hWb := hWa.trans hob (fun k hk => .inr (by simp at hk; omega))
    rw [pk_put_opts okc [] none 0 0 rfl, show ({ lastP p q i with opts := [] } : Pk) = lastP p q i by rw [← h3]; rfl] at hbb
    generalize wa.setCell _ _ = wc at hbb hob hb8b hGb hwb hWb ⊢
    have hsb : w8.heap.size ≤ wc.heap.size := Nat.le_trans ho8b.size (Nat.le_trans ho9.size (Nat.le_trans hoa.size hob.size))
    refine ⟨hb8b, ?_⟩
    refine hN _ _ ?_
    clear hoa ho9 hob hba hb9 hb8a hGa hwa hN hb89 hG9
    conv => whnf
    (refine ⟨_, hbb.pkAll okc, ?_⟩; conv => whnf)
    refine lenIs.of (Nat.succ.inj (Nat.succ.inj (Nat.succ.inj (Nat.succ.inj (pk_len okc))))) ?_
    conv => whnf
    have hWd := hWb.alloc (.cells ⟨pkC (lastP p q i) (none, 0) (A2, c2) ++ []⟩ 56)
    have hwd := hwb.alloc (.cells ⟨pkC (lastP p q i) (none, 0) (A2, c2) ++ []⟩ 56)
    have hGd := hGb.o ((Only.refl [] wc).alloc (.cells ⟨pkC (lastP p q i) (none, 0) (A2, c2) ++ []⟩ 56))
    have hsd := ((Only.refl [] wc).alloc (.cells ⟨pkC (lastP p q i) (none, 0) (A2, c2) ++ []⟩ 56)).size
    refine vFall.append3 56 46 152 rfl (by kernel_rfl) rfl (I.row.only hWd (by simp)) rfl (Sl.new wc 56 46 (pkC (lastP p q i) (none, 0) (A2, c2) ++ []) 1 (by rw [List.append_nil, pk_len okc])) (fun u hu => isOne_cell (one_pkC _ _ _ u (by rwa [List.append_nil] at hu))) (by omega) (by omega) (by omega) ?_
    intro A' c' F' we hre (hde : (A' = A ∧ c' = c ∧ F' = F ∧ Only F (wc.alloc (.cells ⟨pkC (lastP p q i) (none, 0) (A2, c2) ++ []⟩ 56)) we) ∨ (Only [] (wc.alloc (.cells ⟨pkC (lastP p q i) (none, 0) (A2, c2) ++ []⟩ 56)) we ∧ ∀ k ∈ F', (wc.alloc (.cells ⟨pkC (lastP p q i) (none, 0) (A2, c2) ++ []⟩ 56)).heap.size ≤ k))
    generalize wc.alloc _ = wd at hWd hwd hGd hde hsd
    rw [List.append_nil] at hre
    have hpz : pkP ⟨lastP p q i, (none, 0), (A2, c2)⟩ = pkC (lastP p q i) (none, 0) (A2, c2) := pkP_id okc
    have hde2 : (F' = F ∧ Only F wd we) ∨ (Only [] wd we ∧ ∀ k ∈ F', wd.heap.size ≤ k) := by
      rcases hde with ⟨_, _, h1, h2⟩ | h
      · exact .inl ⟨h1, h2⟩
      · exact .inr h
    have eO : (Pl.p ⟨lastP p q i, (none, 0), (A2, c2)⟩).opts = [] := h3
    have eD : (Pl.p ⟨lastP p q i, (none, 0), (A2, c2)⟩).data.length = p.data.length - i * q := hcl
    have hone : PlOk wd w.heap.size F ⟨lastP p q i, (none, 0), (A2, c2)⟩ := ⟨okc, ⟨[], by rw [eO]; exact bs_nil _ _, by simp⟩, ⟨G2, by rw [eD]; exact hGd, fun k hk => by
        have h1 : w7.heap.size ≤ k := (hG2n k hk).1
        have h2 := (hG2n k hk).2
        refine ⟨by omega, fun hm => ?_, by omega⟩
        have := I.row.lt k hm
        omega⟩, ⟨by rw [eO]; exact Nat.zero_le _, by simp⟩, ⟨by rw [eD]; exact hc2, hc2m⟩, by rw [eO]; exact Nat.zero_le _, by rw [eD]; omega⟩
    have hFF : Only F wd we := hde2.elim (fun h => h.2) (fun h => Only.mono h.1 (by simp))
    have hwe : Only [] w we := hwd.trans hFF (fun k hk => .inr (Nat.le_of_lt (I.hF k hk)))
    conv => whnf
    refine ⟨A', i + 1, c', F', z ++ [⟨lastP p q i, (none, 0), (A2, c2)⟩], i, rfl, ?_, ?_, rfl, hi0, hdpos, hle2, I.long, ?_, hwe, ?_⟩
    · exact hre.cast (by rw [List.flatMap_append, List.flatMap_singleton, hpz])
    · rw [List.map_append, I.ps]; rfl
    · intro x hx
      rcases List.mem_append.1 hx with hx | hx
      · exact ((I.ok x hx).o hWd).app hde2
      · obtain rfl := List.mem_singleton.1 hx
        exact hone.app hde2
    · rcases hde2 with ⟨rfl, -⟩ | ⟨-, h⟩
      · exact fun k hk => Nat.le_of_lt (I.hF k hk)
      · exact fun k hk => by have := h k hk; have := hwd.size; omega

end Go.Proofs.YtofomopdaponbaaGreatDoor
/-
  What holds here, and wherever nothing but some blocks and new ones differ.
-/
namespace Go.Proofs.YtofomopdaponbaaGreatDoor
open Go.RowKit
set_option linter.unusedVariables false
set_option linter.unusedSimpArgs false

def Keeps (F : List Nat) (w : World) (R : World → Prop) : Prop := ∀ w', Only F w w' → R w'
section
variable {F F' : List Nat} {w w' : World} {R : World → Prop}
theorem Keeps.here (h : Keeps F w R) : R w := h w (Only.refl F w)
theorem Keeps.go (h : Keeps F w R) (ho : Only F w w') (hF : ∀ x ∈ F', x ∈ F ∨ w.heap.size ≤ x) : Keeps F' w' R := fun w2 h2 => h w2 (ho.trans h2 hF)
theorem Keeps.f (h : Keeps F w R) (ho : Only F w w') : Keeps F w' R := h.go ho (fun x hx => .inl hx)
theorem Keeps.o (h : Keeps F w R) (ho : Only [] w w') : Keeps F w' R := h.f ho.up
theorem Keeps.sub (h : Keeps F w R) (hF : ∀ x ∈ F', x ∈ F ∨ w.heap.size ≤ x) : Keeps F' w R := h.go (Only.refl F w) hF
theorem Keeps.at (h : Keeps F w R) (ho : Only [] w w') : R w' := h w' ho.up
theorem Keeps.mono {R' : World → Prop} (h : Keeps F w R) (k : ∀ w', R w' → R' w') : Keeps F w R' := fun w' ho => k w' (h w' ho)
theorem Keeps.and {R' : World → Prop} (h : Keeps F w R) (h' : Keeps F w R') : Keeps F w (fun w' => R w' ∧ R' w') := fun w' ho => ⟨h w' ho, h' w' ho⟩
end
theorem Blk.keeps {w : World} {g : Nat} {t : TypeId} {cs : Array Value} {F : List Nat} (h : Blk w g t cs) (hg : g ∉ F) : Keeps F w (fun w' => Blk w' g t cs) := fun w' ho => h.only ho hg
theorem Row.keeps {w : World} {e size : Nat} {G : List Nat} {A : Option Addr} {n c : Nat} {xs : List Value} {F : List Nat} (h : Row w e size G A n c xs) (hg : ∀ k ∈ G, k ∉ F) : Keeps F w (fun w' => Row w' e size G A n c xs) := fun w' ho => h.only ho hg
theorem Sl.keeps {w : World} {size : Nat} {G : List Nat} {A : Option Addr} {n : Nat} {xs : List Value} {F : List Nat} (h : Sl w size G A n xs) (hg : ∀ k ∈ G, k ∉ F) : Keeps F w (fun w' => Sl w' size G A n xs) := fun w' ho => h.only ho hg
theorem PlOk.keeps {w : World} {F : List Nat} {B : Nat} {x : Pl} (h : PlOk w B F x) : Keeps F w (fun w' => PlOk w' B F x) := fun w' ho => h.f ho
/-- Its blocks may be told from any that lie beneath, too. -/
theorem PlOk.wide {w : World} {B : Nat} {F F' : List Nat} {x : Pl} (h : PlOk w B F x) (hF : ∀ k ∈ F', k ∈ F ∨ k < B ∨ w.heap.size ≤ k) : PlOk w B F' x :=
  ⟨h.ok, h.opts.elim fun G hG => ⟨G, hG.1, fun k hk => ⟨(hG.2 k hk).1, fun hm => by
      have h1 := (hG.2 k hk).1
      have h3 := (hG.2 k hk).2.2
      rcases hF k hm with h | h | h
      · exact (hG.2 k hk).2.1 h
      · omega
      · omega, (hG.2 k hk).2.2⟩⟩,
    h.data.elim fun G hG => ⟨G, hG.1, fun k hk => ⟨(hG.2 k hk).1, fun hm => by
      have h1 := (hG.2 k hk).1
      have h3 := (hG.2 k hk).2.2
      rcases hF k hm with h | h | h
      · exact (hG.2 k hk).2.1 h
      · omega
      · omega, (hG.2 k hk).2.2⟩⟩, h.oc, h.dc, h.ol, h.dl⟩
theorem Bs.tight2 {w : World} {G : List Nat} {A : Option Addr} {n : Nat} {l : List UInt8} (h : Bs w G A n l) : ∃ G', Bs w G' A n l ∧ ∀ k ∈ G', k ∈ G ∧ k < w.heap.size := by
  rcases Nat.eq_zero_or_pos n with rfl | hn
  · have hl := h.len
    obtain rfl : l = [] := List.length_eq_zero_iff.1 hl
    exact ⟨[], Sl.nil _ _ _ _, by simp⟩
  · obtain ⟨b, off, hA, hb, hlt, hc⟩ := h.2 hn
    exact ⟨[b], ⟨h.1, fun _ => ⟨b, off, hA, by simp, hlt, hc⟩⟩, fun k hk => by
      obtain rfl : k = b := by simpa using hk
      exact ⟨hb, hlt⟩⟩
theorem Pks.pl {w : World} {p : Pk} {O D : At} {B : Nat} {F : List Nat} (h : Pks w p O D B) (hF : ∀ k ∈ F, k < B) : PlOk w B F ⟨p, O, D⟩ := by
  obtain ⟨G1, h1, h2⟩ := h.opts
  obtain ⟨G2, k1, k2⟩ := h.data
  obtain ⟨H1, i1, i2⟩ := h1.tight2
  obtain ⟨H2, j1, j2⟩ := k1.tight2
  exact ⟨h.ok, ⟨H1, i1, fun k hk => ⟨h2 k (i2 k hk).1, fun hm => by have := hF k hm; have := h2 k (i2 k hk).1; omega, (i2 k hk).2⟩⟩,
    ⟨H2, j1, fun k hk => ⟨k2 k (j2 k hk).1, fun hm => by have := hF k hm; have := k2 k (j2 k hk).1; omega, (j2 k hk).2⟩⟩, h.oc, h.dc, h.ol, h.dl⟩
end Go.Proofs.YtofomopdaponbaaGreatDoor
