/-
  Footprints: which blocks a call may have changed; a slice that reads as a list of cells, with the block that it lies in; append onto such a slice. No program in sight.
-/
import Derived.WalkKit
import Derived.WalkSpells
import Derived.WalkLawsBesides
import Derived.Deep.Draws
import Derived.Deep.AppendLies
import Derived.Maps.AppendAt
import Derived.Lib.Hide
namespace Go.Proofs.YtofomopdaponbaaGreatDoor
open Go.RowKit

theorem ret_int {k : IntKind} {a b : Int} (h : a = b) : Ending.returned (.int k a) = Ending.returned (.int k b) := by rw [h]
theorem ret_bool {a b : Bool} (h : a = b) : Ending.returned (.bool a) = Ending.returned (.bool b) := by rw [h]

/-- Behind a call only the blocks of F, and new ones, may differ. -/
structure Only (F : List Nat) (w w' : World) : Prop where
  os : w'.os = w.os
  tape : w'.tape = w.tape
  output : w'.output = w.output
  size : w.heap.size ≤ w'.heap.size
  block : ∀ k, k < w.heap.size → k ∉ F → w'.heap[k]? = w.heap[k]?

section
variable {F G : List Nat} {a b c w w' : World}
theorem Only.refl (F : List Nat) (w : World) : Only F w w := ⟨rfl, rfl, rfl, Nat.le_refl _, fun _ _ _ => rfl⟩
theorem Only.trans (h : Only F a b) (k : Only G b c) (hG : ∀ x ∈ G, x ∈ F ∨ a.heap.size ≤ x) : Only F a c :=
  ⟨k.os.trans h.os, k.tape.trans h.tape, k.output.trans h.output, Nat.le_trans h.size k.size, fun i hi hn =>
    (k.block i (Nat.lt_of_lt_of_le hi h.size) (fun hg => by
      rcases hG i hg with h1 | h1
      · exact hn h1
      · omega)).trans (h.block i hi hn)⟩
theorem Only.mono (h : Only F a b) (hG : ∀ x ∈ F, x ∈ G ∨ a.heap.size ≤ x) : Only G a b :=
  ⟨h.os, h.tape, h.output, h.size, fun i hi hn => h.block i hi (fun hf => by
    rcases hG i hf with h1 | h1
    · exact hn h1
    · omega)⟩
theorem Only.drew (h : Only F a w) : Only F a w.drew := ⟨h.os, h.tape, h.output, h.size, h.block⟩
theorem Only.drewN (h : Only F a w) (n : Nat) : Only F a (w.drewN n) := ⟨h.os, h.tape, h.output, h.size, h.block⟩
theorem Only.alloc (h : Only F a w) (o : Obj) : Only F a (w.alloc o) :=
  ⟨h.os, h.tape, h.output, Nat.le_trans h.size (by simp), fun i hi hne => (Below.heap_alloc w o i (Nat.lt_of_lt_of_le hi h.size)).trans (h.block i hi hne)⟩
theorem Only.setCell (h : Only F a w) {p : Addr} (hp : p.block ∈ F ∨ a.heap.size ≤ p.block) (u : Value) : Only F a (w.setCell p u) :=
  ⟨h.os, h.tape, h.output, by simpa [World.setCell] using h.size, fun i hi hne => (Below.heap_setCell w p u i (by
    rintro rfl
    rcases hp with hp | hp
    · exact hne hp
    · omega)).trans (h.block i hi hne)⟩
theorem Only.below (h : Only F a b) {B : Nat} (hB : B ≤ a.heap.size) (hF : ∀ x ∈ F, B ≤ x) : Below B a b :=
  ⟨h.os, h.tape, h.output, h.size, fun i hi => h.block i (by omega) (fun hf => by have := hF i hf; omega)⟩
theorem Only.of_below (h : Below a.heap.size a b) : Only F a b := ⟨h.os, h.tape, h.output, h.size, fun i hi _ => h.block i hi⟩
theorem Only.of_grown {row : Option Nat} (h : a.grownBy b row) (hr : ∀ k, row = some k → k ∈ F) : Only F a b :=
  ⟨h.os, h.tape, h.output, h.size, fun i hi hn => h.block i hi (fun e => hn (hr i e.symm))⟩
theorem Only.cell (h : Only F a b) {p : Addr} {v : Value} (hv : a.cell? p = some v) (hp : p.block ∉ F) : b.cell? p = some v :=
  (World.cell?_of_block (h.block p.block (World.block_lt_of_cell? a p hv) hp)).trans hv
end

/-- Block g is just the cells cs, of element type t, none frozen. -/
def Blk (w : World) (g : Nat) (t : TypeId) (cs : Array Value) : Prop := w.heap[g]? = some (.cells cs t (0, 0))

section
variable {w w' : World} {g : Nat} {t : TypeId} {cs : Array Value}
theorem Blk.lt (h : Blk w g t cs) : g < w.heap.size := by
  rcases Nat.lt_or_ge g w.heap.size with hlt | hge
  · exact hlt
  · unfold Blk at h; rw [Array.getElem?_eq_none hge] at h; cases h
theorem Blk.cell (h : Blk w g t cs) (i : Nat) : w.cell? ⟨g, i, none⟩ = cs[i]? := cell_of_row w g i cs t (0, 0) h
theorem Blk.frozen (h : Blk w g t cs) (i : Nat) : w.frozen? ⟨g, i, none⟩ = false := by
  unfold Blk at h
  simp [World.frozen?, h]
theorem Blk.new (w : World) (t : TypeId) (cs : Array Value) : Blk (w.alloc (.cells cs t)) w.heap.size t cs := heap_alloc_new w _
theorem Blk.drew (h : Blk w g t cs) : Blk w.drew g t cs := h
theorem Blk.drewN (h : Blk w g t cs) (n : Nat) : Blk (w.drewN n) g t cs := h
theorem Blk.alloc (h : Blk w g t cs) (o : Obj) : Blk (w.alloc o) g t cs := (Below.heap_alloc w o g h.lt).trans h
theorem Blk.set_ (h : Blk w g t cs) (i : Nat) (u : Value) : Blk (w.setCell ⟨g, i, none⟩ u) g t (cs.setIfInBounds i u) := by
  unfold Blk at h ⊢
  simp [World.setCell, Array.getElem?_modify, h]
theorem Blk.far (h : Blk w g t cs) {p : Addr} (hp : g ≠ p.block) (u : Value) : Blk (w.setCell p u) g t cs := (Below.heap_setCell w p u g hp).trans h
theorem Blk.only {F : List Nat} (h : Blk w g t cs) (ho : Only F w w') (hg : g ∉ F) : Blk w' g t cs := (ho.block g h.lt hg).trans h
theorem Blk.below {B : Nat} (h : Blk w g t cs) (hb : Below B w w') (hg : g < B) : Blk w' g t cs := (hb.block g hg).trans h
theorem Blk.ne_ {g' : Nat} {t' : TypeId} {cs' : Array Value} (h : Blk w g t cs) (h' : Blk w g' t' cs') (hne : t ≠ t') : g ≠ g' := by
  rintro rfl
  unfold Blk at h h'
  rw [h] at h'
  injection h' with h'
  injection h' with _ ht
  exact hne ht
end

/-- The slice value '.slice A n c' reads as the cells xs: it has no room at all (F = []), or it begins at the head of block g (F = [g]), which is known whole. -/
def Row (w : World) (e : TypeId) (size : Nat) (F : List Nat) (A : Option Addr) (n c : Nat) (xs : List Value) : Prop :=
  (F = [] ∧ n = 0 ∧ c = 0 ∧ xs = []) ∨
  ∃ g, F = [g] ∧ A = some ⟨g, 0, none⟩ ∧ w.ownsRow 0 e size (.slice (some ⟨g, 0, none⟩) n c) n xs

section
variable {w w' : World} {e : TypeId} {size : Nat} {F : List Nat} {A : Option Addr} {n c : Nat} {xs : List Value}
theorem Row.nil (w : World) (e : TypeId) (size : Nat) (A : Option Addr) : Row w e size [] A 0 0 [] := .inl ⟨rfl, rfl, rfl, rfl⟩
theorem Row.len (h : Row w e size F A n c xs) : xs.length = n * size := by
  rcases h with ⟨_, rfl, _, rfl⟩ | ⟨g, _, _, h⟩
  · simp
  · exact h.1
theorem Row.le (h : Row w e size F A n c xs) : n ≤ c ∧ c ≤ maxLen := by
  rcases h with ⟨_, rfl, rfl, rfl⟩ | ⟨g, _, _, _, h⟩
  · simp
  · rcases h with ⟨h, _⟩ | ⟨g', cap, cur, hv, _, _, h1, h2, _⟩
    · cases h
    · injection hv with _ _ hc; subst hc; exact ⟨h1, h2⟩
theorem Row.lt (h : Row w e size F A n c xs) : ∀ k ∈ F, k < w.heap.size := by
  rcases h with ⟨rfl, _⟩ | ⟨g, rfl, _, h⟩
  · simp
  · intro k hk
    have : k = g := by simpa using hk
    subst this
    exact (h.lt k rfl).2
theorem Row.only {G : List Nat} (h : Row w e size F A n c xs) (ho : Only G w w') (hd : ∀ k ∈ F, k ∉ G) : Row w' e size F A n c xs := by
  rcases h with h | ⟨g, rfl, hA, h⟩
  · exact .inl h
  · refine .inr ⟨g, rfl, hA, h.1, ?_⟩
    rcases h.2 with ⟨h, _⟩ | ⟨g', cap, cur, hv, hb, hh, rest⟩
    · cases h
    · injection hv with h1 _ h3
      injection h1 with h1
      injection h1 with h1
      subst h1
      refine .inr ⟨g, cap, cur, by rw [h3], hb, ?_, rest⟩
      exact (ho.block g (Array.getElem?_eq_some_iff.1 hh).1 (hd g (by simp))).trans hh
theorem Row.drew (h : Row w e size F A n c xs) : Row w.drew e size F A n c xs := h
theorem Row.drewN (h : Row w e size F A n c xs) (k : Nat) : Row (w.drewN k) e size F A n c xs := h
theorem Row.alloc (h : Row w e size F A n c xs) (o : Obj) : Row (w.alloc o) e size F A n c xs :=
  h.only ((Only.refl [] w).alloc o) (by simp)
theorem Row.setFar (h : Row w e size F A n c xs) {p : Addr} (hp : p.block ∉ F) (u : Value) : Row (w.setCell p u) e size F A n c xs :=
  h.only (G := [p.block]) ((Only.refl _ w).setCell (.inl (by simp)) u) (fun k hk => by
    intro hm
    have : k = p.block := by simpa using hm
    subst this
    exact hp hk)
theorem Row.blk (h : Row w e size F A n c xs) (hn : 0 < c) : ∃ g cur, F = [g] ∧ A = some ⟨g, 0, none⟩ ∧ Blk w g e cur ∧ cur.size = c * size ∧ cur.toList.take (n * size) = xs := by
  rcases h with ⟨_, _, hc, _⟩ | ⟨g, hF, hA, h⟩
  · omega
  · rcases h.2 with ⟨h, _⟩ | ⟨g', cap, cur, hv, _, hh, _, _, hs, ht⟩
    · cases h
    · injection hv with h1 _ h3
      injection h1 with h1
      injection h1 with h1
      subst h1
      subst h3
      exact ⟨g, cur, hF, hA, hh, hs, ht⟩
/-- A block that is known whole is none of a row's, where the element types differ. -/
theorem Row.ne_blk {q : Nat} {t : TypeId} {cs : Array Value} (h : Row w e size F A n c xs) (hq : Blk w q t cs) (hne : e ≠ t) : q ∉ F := by
  rcases h with ⟨rfl, _⟩ | ⟨g, rfl, hA, h⟩
  · simp
  · rcases h.2 with ⟨h, _⟩ | ⟨g', cap, cur, hv, _, hh, _⟩
    · cases h
    · injection hv with h1
      injection h1 with h1
      injection h1 with h1
      subst h1
      intro hm
      have : q = g := by simpa using hm
      subst this
      exact Blk.ne_ (t := e) hh hq hne rfl
/-- The cells of a row, read. -/
theorem Row.cellAt (h : Row w e size F A n c xs) {j : Nat} {u : Value} (hu : xs[j]? = some u) : ∃ g, A = some ⟨g, 0, none⟩ ∧ F = [g] ∧ w.cell? ⟨g, j, none⟩ = some u := by
  rcases h with ⟨_, _, _, rfl⟩ | ⟨g, hF, hA, h⟩
  · simp at hu
  · refine ⟨g, hA, hF, ?_⟩
    have := h.cells (g := g) rfl j u hu
    rwa [Addr.add_lit, Nat.zero_add] at this
end

section
variable {P : Program} (w : World)
theorem run_append_row (t ty e : TypeId) (i : TypeInfo) (z : Value) (size bytes : Nat) (ht : P.underlying t = some (.slice e)) (hi : P.info? e = some i) (hz : i.zero = some z)
    (hsize : i.size = size) (hby : i.bytes = bytes) (hzs : z.cells.size = size) (hsz : 0 < size)
    (F : List Nat) (A : Option Addr) (n c : Nat) (xs : List Value) (hr : Row w e size F A n c xs)
    (ad : Addr) (m cc : Nat) (news : List Value) (hl : news.length = m * size) (hnews : ∀ j u, news[j]? = some u → w.cell? (ad.add j) = some u) (h1 : ∀ u ∈ news, u.oneCell' = true)
    (hm : 0 < m) (h63 : n + m ≤ maxLen) (hbytes : (n + m) * bytes ≤ 140737488355328) :
    ∃ g cap w', (Builtin.append_ #[t, t] ty #[.slice A n c, .slice (some ad) m cc]).run P w = .ok (.slice (some ⟨g, 0, none⟩) (n + m) cap) w' ∧
      Row w' e size [g] (some ⟨g, 0, none⟩) (n + m) cap (xs ++ news) ∧ Only F w w' ∧ (g ∈ F ∨ w.heap.size ≤ g) := by
  rcases hr with ⟨rfl, rfl, rfl, rfl⟩ | ⟨g, rfl, rfl, hown⟩
  · cases A with
    | none =>
      obtain ⟨g, cap, w', hr, h2, h3, h4, _⟩ := run_append_lies (P := P) w t ty 0 e i z size bytes ht hi hz hsize hby hzs hsz (.slice none 0 0) 0 [] (World.ownsRow_nil w 0 e size) ad m cc news hl hnews h1 hm h63 hbytes (Nat.zero_le _) _ rfl
      refine ⟨g, cap, w', hr, .inr ⟨g, rfl, rfl, h2⟩, Only.of_grown h3 (fun k hk => by cases hk), ?_⟩
      rcases h4 with h4 | h4
      · cases h4
      · exact .inr (by omega)
    | some b =>
      obtain ⟨v', w', hr, h2, h3⟩ := run_append_arg_grows (P := P) w t ty e i z size bytes ht hi hz hsize hby hzs hsz b 0 0 [] (by simp) (fun j u hj => by simp at hj) ad m cc news hl hnews (by omega) h63 hbytes
      obtain ⟨g, cap, rfl, hb, _⟩ := h2.form (by omega)
      obtain ⟨hl2, hr2⟩ := h2
      have hh : w'.ownsRow 0 e size (.slice (some ⟨g, 0, none⟩) (0 + m) cap) (0 + m) ([] ++ news) := by
        refine ⟨hl2, ?_⟩
        rcases hr2 with ⟨h, _⟩ | ⟨g', cap', cur, hv, _, rest⟩
        · cases h
        · exact .inr ⟨g', cap', cur, hv, Nat.zero_le _, rest⟩
      exact ⟨g, cap, w', by simpa using hr, .inr ⟨g, rfl, rfl, hh⟩, Only.of_grown h3 (fun k hk => by cases hk), .inr hb⟩
  · obtain ⟨g', cap, w', hr, h2, h3, h4, _⟩ := run_append_lies (P := P) w t ty 0 e i z size bytes ht hi hz hsize hby hzs hsz _ n xs hown ad m cc news hl hnews h1 hm h63 hbytes (Nat.zero_le _) _ rfl
    refine ⟨g', cap, w', hr, .inr ⟨g', rfl, rfl, h2⟩, Only.of_grown h3 (fun k hk => ?_), ?_⟩
    · have : g = k := by simpa [Value.ownBlock] using hk
      simp [this]
    · rcases h4 with h4 | h4
      · have : g = g' := by simpa [Value.ownBlock] using h4
        simp [this]
      · exact .inr (by omega)
end
section
variable {P : Program} (w : World)
theorem wp_append_row {o : Oper} {a : Act} {K : Act → World → Prop} {Q : Exit → Act → World → Prop} (s x : Operand) (t : TypeId)
    (ho : o.op = .call { callee := .builtin .append, args := #[s, x], argTypes := #[t, t] })
    (e : TypeId) (i : TypeInfo) (z : Value) (size bytes : Nat) (ht : P.underlying t = some (.slice e)) (hi : P.info? e = some i) (hz : i.zero = some z)
    (hsize : i.size = size) (hby : i.bytes = bytes) (hzs : z.cells.size = size) (hsz : 0 < size)
    (F : List Nat) (A : Option Addr) (n c : Nat) (xs : List Value) (hs : a.eval s = .slice A n c) (hr : Row w e size F A n c xs)
    (ad : Addr) (m cc : Nat) (news : List Value) (hx : a.eval x = .slice (some ad) m cc) (hl : news.length = m * size) (hnews : ∀ j u, news[j]? = some u → w.cell? (ad.add j) = some u) (h1 : ∀ u ∈ news, u.oneCell' = true)
    (hm : 0 < m) (h63 : n + m ≤ maxLen) (hbytes : (n + m) * bytes ≤ 140737488355328)
    (h : ∀ g cap w', Row w' e size [g] (some ⟨g, 0, none⟩) (n + m) cap (xs ++ news) → Only F w w' → (g ∈ F ∨ w.heap.size ≤ g) → K (a.put o.dst (.slice (some ⟨g, 0, none⟩) (n + m) cap)) w') : o.wp P a w K Q := by
  obtain ⟨g, cap, w', hrun, h2, h3, h4⟩ := run_append_row (P := P) w t o.type e i z size bytes ht hi hz hsize hby hzs hsz F A n c xs hr ad m cc news hl hnews h1 hm h63 hbytes
  unfold Oper.wp execOp
  simp only [ho, resolve, invoke, builtin, Sem.run_bind, Sem.run_pure, Result.andThen_ok, List.map_toArray, List.map_cons, List.map_nil, hs, hx, hrun]
  exact h g cap w' h2 h3 h4
theorem wpList_append_row {ops : Array Oper} {rest : List Oper} {o : Oper} {a : Act} {Q : Exit → Act → World → Prop} (hgd : o.guard = none) (s x : Operand) (t : TypeId)
    (ho : o.op = .call { callee := .builtin .append, args := #[s, x], argTypes := #[t, t] })
    (e : TypeId) (i : TypeInfo) (z : Value) (size bytes : Nat) (ht : P.underlying t = some (.slice e)) (hi : P.info? e = some i) (hz : i.zero = some z)
    (hsize : i.size = size) (hby : i.bytes = bytes) (hzs : z.cells.size = size) (hsz : 0 < size)
    (F : List Nat) (A : Option Addr) (n c : Nat) (xs : List Value) (hs : a.eval s = .slice A n c) (hr : Row w e size F A n c xs)
    (ad : Addr) (m cc : Nat) (news : List Value) (hx : a.eval x = .slice (some ad) m cc) (hl : news.length = m * size) (hnews : ∀ j u, news[j]? = some u → w.cell? (ad.add j) = some u) (h1 : ∀ u ∈ news, u.oneCell' = true)
    (hm : 0 < m) (h63 : n + m ≤ maxLen) (hbytes : (n + m) * bytes ≤ 140737488355328)
    (h : ∀ g cap w', Row w' e size [g] (some ⟨g, 0, none⟩) (n + m) cap (xs ++ news) → Only F w w' → (g ∈ F ∨ w.heap.size ≤ g) → wpList P ops Q rest (a.put o.dst (.slice (some ⟨g, 0, none⟩) (n + m) cap)) w') : wpList P ops Q (o :: rest) a w :=
  wpList_plain hgd fun _ hK => wp_append_row w s x t ho e i z size bytes ht hi hz hsize hby hzs hsz F A n c xs hs hr ad m cc news hx hl hnews h1 hm h63 hbytes fun g cap w' h2 h3 h4 => hK _ _ (h g cap w' h2 h3 h4)
theorem step_append_row {ops : Array Oper} {o : Oper} {a : Act} {K : Act → World → Prop} {Q : Exit → Act → World → Prop} {E : Prop} (hgd : o.guard = none) (s x : Operand) (t : TypeId)
    (ho : o.op = .call { callee := .builtin .append, args := #[s, x], argTypes := #[t, t] })
    (e : TypeId) (i : TypeInfo) (z : Value) (size bytes : Nat) (ht : P.underlying t = some (.slice e)) (hi : P.info? e = some i) (hz : i.zero = some z)
    (hsize : i.size = size) (hby : i.bytes = bytes) (hzs : z.cells.size = size) (hsz : 0 < size)
    (F : List Nat) (A : Option Addr) (n c : Nat) (xs : List Value) (hs : a.eval s = .slice A n c) (hr : Row w e size F A n c xs)
    (ad : Addr) (m cc : Nat) (news : List Value) (hx : a.eval x = .slice (some ad) m cc) (hl : news.length = m * size) (hnews : ∀ j u, news[j]? = some u → w.cell? (ad.add j) = some u) (h1 : ∀ u ∈ news, u.oneCell' = true)
    (hm : 0 < m) (h63 : n + m ≤ maxLen) (hbytes : (n + m) * bytes ≤ 140737488355328)
    (h : ∀ g cap w', Row w' e size [g] (some ⟨g, 0, none⟩) (n + m) cap (xs ++ news) → Only F w w' → (g ∈ F ∨ w.heap.size ≤ g) → K (a.put o.dst (.slice (some ⟨g, 0, none⟩) (n + m) cap)) w') :
    if Region.wanted o (yielded ops a.tmps) = true then Oper.wp P o a w K Q else E := by
  have hw : Region.wanted o (yielded ops a.tmps) = true := by simp [Region.wanted, hgd]
  rw [if_pos hw]
  exact wp_append_row w s x t ho e i z size bytes ht hi hz hsize hby hzs hsz F A n c xs hs hr ad m cc news hx hl hnews h1 hm h63 hbytes h
end

/-- The cells of a block that is known whole, as what append asks of its source. -/
theorem news_of_new (w : World) (t : TypeId) (l : List Value) : ∀ j u, l[j]? = some u → (w.alloc (.cells l.toArray t)).cell? ((⟨w.heap.size, 0, none⟩ : Addr).add j) = some u := by
  intro j u hu
  rw [Addr.add_lit, Nat.zero_add, (Blk.new w t l.toArray).cell j]
  simpa using hu

section
variable {P : Program}
theorem run_eql_func_nil {t : TypeId} {ps rs : Array TypeId} {vd : Bool} (ht : P.underlying t = some (.func ps rs vd)) (fn : Fn) (fi ca : Array Value) (w : World) :
    (binOp .eql t (.func fn fi ca) .nilFunc).run P w = .ok (.bool false) w := by
  have h : ∀ d : Nat, (Op.equalIn (d + 1) t (.func fn fi ca) .nilFunc).run P w = .ok false w := fun d => by
    simp [Op.equalIn, run_underlying ht]
  simp only [binOp]
  simp [Op.equal, Op.maxDepth, h 9999]
theorem run_eql_nilFunc {t : TypeId} {ps rs : Array TypeId} {vd : Bool} (ht : P.underlying t = some (.func ps rs vd)) (w : World) :
    (binOp .eql t .nilFunc .nilFunc).run P w = .ok (.bool true) w := by
  have h : ∀ d : Nat, (Op.equalIn (d + 1) t .nilFunc .nilFunc).run P w = .ok true w := fun d => by
    simp [Op.equalIn, run_underlying ht]
  simp only [binOp]
  simp [Op.equal, Op.maxDepth, h 9999]
end
end Go.Proofs.YtofomopdaponbaaGreatDoor
