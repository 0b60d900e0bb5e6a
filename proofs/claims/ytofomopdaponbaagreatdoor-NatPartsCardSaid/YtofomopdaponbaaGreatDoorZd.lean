/-
  A packet's bytes that are written over (package nat, text): words, sums that are patched.
-/
import Derived.Test.YtofomopdaponbaaGreatDoorZc
import Derived.Test.YtofomopdaponbaaGreatDoorZb
import Derived.Laws.CopyRow
namespace Go.Proofs.YtofomopdaponbaaGreatDoor
open Go.RowKit
set_option linter.unusedVariables false

/-- A row of the call's own, one cell written over. -/
theorem Row.put {w : World} {e : TypeId} {F : List Nat} {A : Option Addr} {n c i : Nat} {xs : List Value} {v : Value} (h : Row w e 1 F A n c xs) (hi : i < n) : ∃ g, A = some ⟨g, 0, none⟩ ∧ F = [g] ∧ w.frozen? ⟨g, i, none⟩ = false ∧ (∃ u, w.cell? ⟨g, i, none⟩ = some u) ∧
    Row (w.setCell ⟨g, i, none⟩ v) e 1 F A n c (xs.set i v) := by
  have hl := h.len
  have hle := h.le
  rcases h with ⟨_, rfl, _, _⟩ | ⟨g, rfl, rfl, h1, h2⟩
  · omega
  · rcases h2 with ⟨h, _⟩ | ⟨g', cap, cur, hv, hb, hh, h3, h4, hs, ht⟩
    · cases h
    · injection hv with k1 _ k3
      injection k1 with k1
      injection k1 with k1
      subst k1
      subst k3
      obtain ⟨cur⟩ := cur
      have hB : Blk w g e ⟨cur⟩ := hh
      have hsz : cur.length = c * 1 := by simpa using hs
      refine ⟨g, rfl, rfl, hB.frozen _, ⟨_, hB.at (List.getElem?_eq_getElem (show i < cur.length by omega))⟩, .inr ⟨g, rfl, rfl, by rw [List.length_set]; exact h1, .inr ⟨g, c, ⟨cur.set i v⟩, rfl, hb, hB.put, h3, h4, by simpa using hsz, ?_⟩⟩⟩
      rw [← ht]
      show (cur.set i v).take (n * 1) = (cur.take (n * 1)).set i v
      rw [List.take_set]
theorem Row.bs {w : World} {e : TypeId} {F : List Nat} {A : Option Addr} {n c : Nat} {l : List UInt8} (h : Row w e 1 F A n c (l.map u8)) : Bs w F A n l := h.sl

/-- The word at a place. -/
def wordL (l : List UInt8) (k : Nat) : Int := ((l.getD k 0).toNat : Int) * 256 + ((l.getD (k + 1) 0).toNat : Int)
theorem wordL_bd (l : List UInt8) (k : Nat) : 0 ≤ wordL l k ∧ wordL l k ≤ 65535 := by
  have := u8_le (l.getD k 0)
  have := u8_le (l.getD (k + 1) 0)
  unfold wordL
  omega
theorem getD_some {l : List UInt8} {k : Nat} (h : k < l.length) : l[k]? = some (l.getD k 0) := by
  rw [List.getD_eq_getElem?_getD, List.getElem?_eq_getElem h]
  rfl
theorem or_word {a b : UInt8} : orI .u16 (IntKind.u16.wrap (IntKind.u16.wrap (a.toNat : Int) * pw 8 .u16)) (IntKind.u16.wrap (b.toNat : Int)) = (a.toNat : Int) * 256 + (b.toNat : Int) := by
  have h1 := u8_le a
  have h2 := u8_le b
  simp only [wr16, show pw 8 .u16 = 256 from rfl]
  rw [show (a.toNat : Int) % 65536 * 256 % 65536 = (a.toNat : Int) * 256 by omega, show (b.toNat : Int) % 65536 = (b.toNat : Int) by omega, or_256 .u16 (by omega) (by omega) (by omega) (by simp only [maxN]; omega)]
set_option maxRecDepth 100000 in
theorem word_does {w : World} {G : List Nat} {A : Option Addr} {n c k : Nat} {l : List UInt8} (h : Bs w G A n l) (hk : k + 1 < n) (hn : n ≤ 9223372036854775807) :
    Does Tryz.prog 55 [.slice A n c, .int .i64 k] w (fun v w' => v = .int .u16 (wordL l k) ∧ Only [] w w') := by
  have hl := h.len
  obtain ⟨b, off, rfl, -⟩ := h.some_ (by omega)
  refine Does.enter (fn := Tryz.f55) (by kernel_rfl) rfl (by kernel_rfl) (by kernel_rfl) ?_
  conv => whnf
  refine VDraw.q (by kernel_rfl) (by kernel_rfl) ?_
  conv => whnf
  refine ⟨_, _, rfl, k, off + k, rfl, by omega, p1 _ _, ?_⟩
  conv => whnf
  refine ⟨_, fun w' hw' => Loads.one (by kernel_rfl) ((h.o hw').ld (getD_some (by omega))), ?_⟩
  conv => whnf
  refine ⟨_, _, rfl, k + 1, off + (k + 1), by rw [wi64]; omega, by omega, p1 _ _, ?_⟩
  conv => whnf
  refine ⟨_, fun w' hw' => Loads.one (by kernel_rfl) ((h.o hw').ld (getD_some (by omega))), ?_⟩
  conv => whnf
  intro w' ho
  conv => whnf
  exact ⟨congrArg (Value.int IntKind.u16) or_word, ho⟩
/-- A word written over. -/
def hiB (v : Int) : UInt8 := UInt8.ofNat (v.toNat / 256)
def loB (v : Int) : UInt8 := UInt8.ofNat (v.toNat % 256)
theorem hiB_eq {v : Int} (h0 : 0 ≤ v) (h1 : v ≤ 65535) : ((hiB v).toNat : Int) = v / 256 := by
  simp only [hiB, UInt8.toNat_ofNat']
  omega
theorem loB_eq {v : Int} (h0 : 0 ≤ v) : ((loB v).toNat : Int) = v % 256 := by
  simp only [loB, UInt8.toNat_ofNat']
  omega
def setW (l : List UInt8) (k : Nat) (v : Int) : List UInt8 := (l.set k (hiB v)).set (k + 1) (loB v)
theorem setW_len (l : List UInt8) (k : Nat) (v : Int) : (setW l k v).length = l.length := by simp [setW]
set_option maxRecDepth 100000 in
theorem set_does {w : World} {F : List Nat} {A : Option Addr} {n c k : Nat} {l : List UInt8} {v : Int} (h : Row w 5 1 F A n c (l.map u8)) (hk : k + 1 < n) (h0 : 0 ≤ v) (h1 : v ≤ 65535) :
    Does Tryz.prog 196 [.slice A n c, .int .i64 k, .int .u16 v] w (fun r w' => r = .tuple ⟨[]⟩ ∧ Row w' 5 1 F A n c ((setW l k v).map u8) ∧ Only F w w') := by
  have hle := h.le
  have hmx : c ≤ 9223372036854775807 := hle.2
  have e1 : IntKind.u8.wrap (v / pw 8 .u16) = ((hiB v).toNat : Int) := by rw [wr8, show pw 8 .u16 = 256 from rfl, hiB_eq h0 h1]; omega
  have e2 : IntKind.u8.wrap v = ((loB v).toNat : Int) := by rw [wr8, loB_eq h0]
  obtain ⟨g, rfl, rfl, hf, ⟨u, hu⟩, hr1⟩ := h.put (i := k) (v := u8 (hiB v)) (by omega)
  obtain ⟨g', e, _, hf2, ⟨u2, hu2⟩, hr2⟩ := hr1.put (i := k + 1) (v := u8 (loB v)) hk
  cases e
  refine Does.enter (fn := Tryz.f196) (by kernel_rfl) rfl (by kernel_rfl) (by kernel_rfl) ?_
  conv => whnf
  refine ⟨_, _, rfl, k, k, rfl, by omega, p0 _, ?_⟩
  conv => whnf
  rw [e1]
  refine ⟨_, Stores.one (by kernel_rfl) rfl hu hf, ?_⟩
  conv => whnf
  refine ⟨_, _, rfl, k + 1, k + 1, by rw [wi64]; omega, by omega, p0 _, ?_⟩
  conv => whnf
  rw [e2]
  refine ⟨_, Stores.one (by kernel_rfl) rfl hu2 hf2, ?_⟩
  conv => whnf
  refine ⟨rfl, ?_, ((Only.refl _ w).put (.inl (by simp))).put (.inl (by simp))⟩
  unfold setW
  rw [List.map_set, List.map_set]
  exact hr2
set_option maxRecDepth 100000 in
theorem portAt_does {w : World} {k : Nat} (h1 : 12 ≤ k) (h2 : k ≤ 4096) : Does Tryz.prog 134 [.int .i64 k] w (fun v w' => v = .int .i64 (((k - 12) / 2 : Nat) : Int) ∧ w = w') := by
  refine Does.enter (fn := Tryz.f134) (by kernel_rfl) rfl (by kernel_rfl) (by kernel_rfl) ?_
  conv => whnf
  refine ⟨congrArg (Value.int IntKind.i64) ?_, rfl⟩
  rw [wi64, wi64, show ((k : Int) - 12 + 9223372036854775808) % 18446744073709551616 - 9223372036854775808 = ((k - 12 : Nat) : Int) by omega]
  rw [Int.tdiv_eq_ediv_of_nonneg (by omega)]
  omega

/-- A text that is written over: block T; the bytes l, in the row F; where its head ends. -/
structure Tx (w : World) (T : Nat) (F : List Nat) (A : Option Addr) (c : Nat) (l : List UInt8) (head : Nat) : Prop where
  blk : Blk w T 114 ⟨[.slice A l.length c, .int .i64 head]⟩
  row : Row w 5 1 F A l.length c (l.map u8)
  ne : T ∉ F
  hl : l.length ≤ 140737488355328
  hh : head ≤ 140737488355328
theorem Tx.only {w w' : World} {T : Nat} {F : List Nat} {A : Option Addr} {c head : Nat} {l : List UInt8} (h : Tx w T F A c l head) (ho : Only [] w w') : Tx w' T F A c l head :=
  ⟨h.blk.only ho (by simp), h.row.only ho (by simp), h.ne, h.hl, h.hh⟩
theorem Tx.set {w w' : World} {T : Nat} {F : List Nat} {A : Option Addr} {c head k : Nat} {l : List UInt8} {v : Int} (h : Tx w T F A c l head) (hr : Row w' 5 1 F A l.length c ((setW l k v).map u8)) (ho : Only F w w') : Tx w' T F A c (setW l k v) head :=
  ⟨by rw [setW_len]; exact h.blk.only ho h.ne, by rw [setW_len]; exact hr, h.ne, by rw [setW_len]; exact h.hl, h.hh⟩
theorem Tx.lt {w : World} {T : Nat} {F : List Nat} {A : Option Addr} {c head : Nat} {l : List UInt8} (h : Tx w T F A c l head) : ∀ k ∈ F, k < w.heap.size := h.row.lt
/-- A change: what was, what is now. -/
def chC (c : Int × Int) : List Value := [.int .u16 c.1, .int .u16 c.2]
def okCh (c : Int × Int) : Prop := 0 ≤ c.1 ∧ c.1 ≤ 65535 ∧ 0 ≤ c.2 ∧ c.2 ≤ 65535
theorem one_chC (c : Int × Int) : ∀ u ∈ chC c, isOne u = true := by
  intro u hu
  simp only [chC, List.mem_cons, List.not_mem_nil, or_false] at hu
  rcases hu with rfl | rfl <;> rfl
set_option maxRecDepth 100000 in
theorem over_does {w : World} {T : Nat} {F : List Nat} {A : Option Addr} {c head k : Nat} {l : List UInt8} {v : Int} (h : Tx w T F A c l head) (hk : k + 1 < l.length) (h0 : 0 ≤ v) (h1 : v ≤ 65535) :
    Does Tryz.prog 135 [.pointer (some ⟨T, 0, none⟩), .int .i64 k, .int .u16 v] w (fun r w' => r = .agg ⟨chC (wordL l k, v)⟩ ∧ Tx w' T F A c (setW l k v) head ∧ Only F w w') := by
  have hA := Only.alloc (Only.refl [] w) (.cells ⟨[.int .u16 0, .int .u16 0]⟩ 188)
  have hR := Blk.new w 188 ⟨[.int .u16 0, .int .u16 0]⟩
  have h2 := h.only hA
  have hcl := h.row.le.2
  have hlt := h.lt
  have hlt2 := h.blk.lt
  refine Does.enter (fn := Tryz.f135) (by kernel_rfl) rfl (by kernel_rfl) (by kernel_rfl) ?_
  conv => whnf
  refine ⟨_, Loads.one (by kernel_rfl) (h2.blk.at (i := 0) rfl), ?_⟩
  conv => whnf
  refine (word_does h2.row.bs hk (by have := h.hl; omega)).mono ?_
  rintro r w1 ⟨rfl, ho1⟩
  have h3 := h2.only ho1
  have hR1 := hR.only ho1 (by simp)
  conv => whnf
  refine vStore.fresh (cs := chC (wordL l k, v)) (by kernel_rfl) rfl (one_chC _) (fun w2 hb2 ho2 hz2 => ?_)
  have h4 := h3.only ho2
  have hR2 := hR1.only ho2 (by simp)
  conv => whnf
  refine ⟨_, Loads.one (by kernel_rfl) (h4.blk.at (i := 0) rfl), ?_⟩
  conv => whnf
  refine (set_does h4.row hk h0 h1).mono ?_
  rintro r w3 ⟨rfl, hr3, ho3⟩
  have hs1 := ho1.size
  have hs0 := hA.size
  rw [World.size_alloc] at hs1
  have hb3 := hb2.only ho3 (fun hm => by have := hlt _ hm; omega)
  have hR3 := hR2.only ho3 (fun hm => by have := hlt _ hm; omega)
  conv => whnf
  refine ⟨_, Loads.all hb3 (by kernel_rfl) (by kernel_rfl), ?_⟩
  conv => whnf
  refine vStore.all hR3 (by kernel_rfl) rfl (one_chC _) (fun w4 hb4 ho4 _ => ?_)
  conv => whnf
  refine ⟨_, Loads.all hb4 (by kernel_rfl) (by kernel_rfl), ?_⟩
  have h5 := h4.set hr3 ho3
  refine ⟨rfl, ⟨h5.blk.only ho4 (by simp; omega), h5.row.only ho4 (fun k hk => by have := hlt _ hk; simp; omega), h5.ne, h5.hl, h5.hh⟩, ?_⟩
  exact (((hA.t0 ho1).t0 ho2).zf ho3).nw ho4 (Nat.le_refl _)

/-- A one's complement sum of two; a sum behind a word's change. -/
def addI (a b : Int) : Int := foldI (a + b)
def patchI (s was now : Int) : Int := 65535 - addI (addI (65535 - s) (65535 - was)) now
theorem addI_bd {a b : Int} (ha : 0 ≤ a) (hb : 0 ≤ b) : 0 ≤ addI a b ∧ addI a b ≤ 65535 := foldI_bd (by omega)
theorem patchI_bd {s was now : Int} (h1 : s ≤ 65535) (h2 : was ≤ 65535) (h3 : 0 ≤ now) : 0 ≤ patchI s was now ∧ patchI s was now ≤ 65535 := by
  have := addI_bd (a := 65535 - s) (b := 65535 - was) (by omega) (by omega)
  have := addI_bd (a := addI (65535 - s) (65535 - was)) (b := now) (by omega) h3
  unfold patchI
  omega
set_option maxRecDepth 100000 in
theorem add_does {w : World} {a b : Int} (h0 : 0 ≤ a) (h1 : a ≤ 65535) (h2 : 0 ≤ b) (h3 : b ≤ 65535) : Does Tryz.prog 212 [.int .u16 a, .int .u16 b] w (fun v w' => v = .int .u16 (addI a b) ∧ w = w') := by
  refine Does.enter (fn := Tryz.f212) (by kernel_rfl) rfl (by kernel_rfl) (by kernel_rfl) ?_
  have e : IntKind.u64.wrap (IntKind.u64.wrap a + IntKind.u64.wrap b) = a + b := by rw [wr64, wr64, wr64]; omega
  conv => whnf
  rw [e]
  refine (fold_does w _ (by omega) (by omega)).mono ?_
  rintro v w1 ⟨rfl, rfl⟩
  conv => whnf
  exact ⟨rfl, rfl⟩
set_option maxRecDepth 100000 in
theorem patchW_does {w : World} {s a b : Int} (hs : 0 ≤ s ∧ s ≤ 65535) (ha : 0 ≤ a ∧ a ≤ 65535) (hb : 0 ≤ b ∧ b ≤ 65535) : Does Tryz.prog 195 [.int .u16 s, .int .u16 a, .int .u16 b] w (fun v w' => v = .int .u16 (patchI s a b) ∧ w = w') := by
  have k1 := addI_bd (a := 65535 - s) (b := 65535 - a) (by omega) (by omega)
  have k2 := addI_bd (a := addI (65535 - s) (65535 - a)) (b := b) (by omega) (by omega)
  refine Does.enter (fn := Tryz.f195) (by kernel_rfl) rfl (by kernel_rfl) (by kernel_rfl) ?_
  conv => whnf
  rw [not_u16 hs.1 hs.2, not_u16 ha.1 ha.2]
  refine (add_does (by omega) (by omega) (by omega) (by omega)).mono ?_
  rintro v w1 ⟨rfl, rfl⟩
  conv => whnf
  refine (add_does k1.1 k1.2 hb.1 hb.2).mono ?_
  rintro v w1 ⟨rfl, rfl⟩
  conv => whnf
  exact ⟨congrArg (Value.int IntKind.u16) (not_u16 k2.1 k2.2), rfl⟩

def patchL (s : Int) (chs : List (Int × Int)) : Int := chs.foldl (fun s c => patchI s c.1 c.2) s
theorem patchL_snoc (s : Int) (l : List (Int × Int)) (c : Int × Int) : patchL s (l ++ [c]) = patchI (patchL s l) c.1 c.2 := by simp [patchL]
theorem patchL_bd {chs : List (Int × Int)} (hc : ∀ c ∈ chs, okCh c) : ∀ {s : Int}, 0 ≤ s ∧ s ≤ 65535 → 0 ≤ patchL s chs ∧ patchL s chs ≤ 65535 := by
  induction chs with
  | nil => intro s h; exact h
  | cons c r ih =>
    intro s h
    obtain ⟨h1, h2, h3, h4⟩ := hc c List.mem_cons_self
    exact ih (fun x hx => hc x (List.mem_cons_of_mem _ hx)) (patchI_bd h.2 h2 h3)
theorem chC_len (c : Int × Int) : (chC c).length = 2 := rfl
theorem take_snoc' {α : Type} {l : List α} {k : Nat} (h : k < l.length) : l.take (k + 1) = l.take k ++ [l[k]] := by
  rw [List.take_succ_eq_append_getElem h]
set_option maxRecDepth 100000 in
theorem patch_does {w : World} {T : Nat} {F G : List Nat} {A B : Option Addr} {c cc m head k : Nat} {l : List UInt8} {chs : List (Int × Int)} (h : Tx w T F A c l head) (hk : k + 1 < l.length) (hs : Sl w 2 G B m (chs.flatMap chC)) (hc : ∀ c ∈ chs, okCh c) (hm : m ≤ 4096) :
    Does Tryz.prog 130 [.pointer (some ⟨T, 0, none⟩), .int .i64 k, .slice B m cc] w (fun r w' => r = .agg ⟨chC (wordL l k, patchL (wordL l k) chs)⟩ ∧ Tx w' T F A c (setW l k (patchL (wordL l k) chs)) head ∧ Only F w w') := by
  have hA := Only.alloc (Only.refl [] w) (.cells ⟨[.int .u16 0, .int .u16 0]⟩ 188)
  have hR := Blk.new w 188 ⟨[.int .u16 0, .int .u16 0]⟩
  have h2 := h.only hA
  have hs2 := hs.o hA
  have hlt := h.lt
  have hn := hs.num chC_len (by decide)
  have hz := hA.size
  refine Does.enter (fn := Tryz.f130) (by kernel_rfl) rfl (by kernel_rfl) (by kernel_rfl) ?_
  conv => whnf
  refine ⟨_, Loads.one (by kernel_rfl) (h2.blk.at (i := 0) rfl), ?_⟩
  conv => whnf
  refine (word_does h2.row.bs hk (by have := h.hl; omega)).mono ?_
  rintro r w1 ⟨rfl, ho1⟩
  have hz1 := ho1.size
  conv => whnf
  refine VLoop.inv (α := Nat) [(7, 8), (9, 10), (18, 29)] (fun i => [(7, .int .u16 (patchL (wordL l k) (chs.take i))), (18, .int .i64 i)]) (fun i wr => Only [] w1 wr ∧ i ≤ m) (fun i => m - i) 0 (by kernel_rfl) ⟨rfl, rfl, trivial⟩ ⟨Only.refl _ _, Nat.zero_le _⟩ ?_
  rintro i wr j ⟨hor, hi⟩
  have how := (hA.t0 ho1).t0 hor
  have hwb := wordL_bd l k
  conv => whnf
  refine VIf.dec (fun ht => ?_) (fun ht => ?_)
  · have hi2 : i < chs.length := by omega
    have hsr := hs.o how
    obtain ⟨b, off, rfl, -⟩ := hsr.some_ (by omega)
    have hci := hc chs[i] (List.getElem_mem hi2)
    conv => whnf
    refine ⟨_, _, rfl, i, off + i * 2, rfl, by omega, rfl, ?_⟩
    conv => whnf
    refine ⟨_, hsr.elem chC_len hi2 (by kernel_rfl) (by kernel_rfl), ?_⟩
    conv => whnf
    refine vStore.fresh (cs := chC chs[i]) (by kernel_rfl) rfl (one_chC _) (fun w2 hb2 ho2 _ => ?_)
    conv => whnf
    refine ⟨_, Loads.one (by kernel_rfl) (hb2.at (i := 0) rfl), ?_⟩
    conv => whnf
    refine ⟨_, Loads.one (by kernel_rfl) (hb2.at (i := 1) rfl), ?_⟩
    conv => whnf
    refine (patchW_does (patchL_bd (fun c hc' => hc c (List.mem_of_mem_take hc')) hwb) ⟨hci.1, hci.2.1⟩ ⟨hci.2.2.1, hci.2.2.2⟩).mono ?_
    rintro r w3 ⟨rfl, rfl⟩
    conv => whnf
    refine ⟨i + 1, ⟨?_, congrArg (Value.int IntKind.i64) (by rw [wi64]; omega), trivial⟩, ⟨hor.t0 ho2, by omega⟩, by omega⟩
    rw [take_snoc' hi2, patchL_snoc]
    rfl
  · obtain rfl : i = m := by omega
    have hall : chs.take i = chs := List.take_of_length_le (by omega)
    rw [hall]
    have hpb := patchL_bd hc hwb
    have h3 := (h2.only ho1).only hor
    have hRr := (hR.only ho1 (by simp)).only hor (by simp)
    have hzr := hor.size
    rw [World.size_alloc] at hz hz1
    conv => whnf
    refine (over_does h3 hk hpb.1 hpb.2).mono ?_
    rintro r w4 ⟨rfl, h4, ho4⟩
    have hR4 := hRr.only ho4 (fun hm => by have := hlt _ hm; omega)
    conv => whnf
    refine vStore.all hR4 (by kernel_rfl) rfl (one_chC _) (fun w5 hb5 ho5 _ => ?_)
    conv => whnf
    refine ⟨_, Loads.all hb5 (by kernel_rfl) (by kernel_rfl), ?_⟩
    have hTlt := h.blk.lt
    refine ⟨rfl, ⟨h4.blk.only ho5 (by simp; omega), h4.row.only ho5 (fun k hk => by have := hlt _ hk; simp; omega), h4.ne, h4.hl, h4.hh⟩, ?_⟩
    exact (how.zf ho4).nw ho5 (Nat.le_refl _)

theorem Tx.far {w w' : World} {T : Nat} {F H : List Nat} {A : Option Addr} {c head : Nat} {l : List UInt8} (h : Tx w T F A c l head) (ho : Only H w w') (hT : T ∉ H) (hF : ∀ k ∈ F, k ∉ H) : Tx w' T F A c l head :=
  ⟨h.blk.only ho hT, h.row.only ho hF, h.ne, h.hl, h.hh⟩
/-- An address, written over. -/
def addrAtL (l : List UInt8) (k : Nat) (a : Ad) : List UInt8 := setW (setW l k (wordL a.2 0)) (k + 2) (wordL a.2 2)
def addrAtC (l : List UInt8) (k : Nat) (a : Ad) : List (Int × Int) := [(wordL l k, wordL a.2 0), (wordL (setW l k (wordL a.2 0)) (k + 2), wordL a.2 2)]
theorem addrAtL_len (l : List UInt8) (k : Nat) (a : Ad) : (addrAtL l k a).length = l.length := by simp [addrAtL, setW_len]
theorem addrAtC_ok (l : List UInt8) (k : Nat) (a : Ad) : ∀ c ∈ addrAtC l k a, okCh c := by
  intro c hc
  simp only [addrAtC, List.mem_cons, List.not_mem_nil, or_false] at hc
  rcases hc with rfl | rfl <;> exact ⟨(wordL_bd _ _).1, (wordL_bd _ _).2, (wordL_bd _ _).1, (wordL_bd _ _).2⟩
set_option maxRecDepth 100000 in
theorem addressAt_does {w : World} {T : Nat} {F : List Nat} {A : Option Addr} {c head k : Nat} {l : List UInt8} {a : Ad} (h : Tx w T F A c l head) (hk : k + 3 < l.length) (ha : okAd a) :
    Does Tryz.prog 131 [.pointer (some ⟨T, 0, none⟩), .int .i64 k, .agg ⟨adC a⟩] w (fun r w' => ∃ H, r = .slice (some ⟨H, 0, none⟩) 2 2 ∧ Row w' 188 2 [H] (some ⟨H, 0, none⟩) 2 2 ((addrAtC l k a).flatMap chC) ∧ w.heap.size ≤ H ∧ Tx w' T F A c (addrAtL l k a) head ∧ Only F w w') := by
  have hl := h.hl
  have h16 := ha.2.2
  have hA : Only [] w (w.alloc (.cells ⟨adC a⟩ 24)).drew := ((Only.refl [] w).alloc _).drew
  have hB : Blk (w.alloc (.cells ⟨adC a⟩ 24)).drew w.heap.size 24 ⟨[.int .i64 a.1] ++ (a.2.map u8 ++ [])⟩ := by
    have := (Blk.new w 24 ⟨adC a⟩).drew
    simpa [adC] using this
  have hb := Bs.of_blk hB rfl
  have hlt := h.lt
  rw [h16] at hb
  have h2 := h.only hA
  refine Does.enter (fn := Tryz.f131) (by kernel_rfl) rfl (by kernel_rfl) (by kernel_rfl) ?_
  conv => whnf
  refine VDraw.held (fun _ => True) [0, 1, 2, 3, 6, 7, 8, 9, 10, 4, 5, 11, 12, 13, 14] (by kernel_rfl) (by kernel_rfl) trivial ?_
  conv => whnf
  refine ⟨0, 16, 16, rfl, rfl, rfl, by decide, by decide, by decide, ⟨w.heap.size, 1, none⟩, 16, 16, rfl, rfl, rfl, ?_⟩
  conv => whnf
  refine ⟨0, 16, 16, rfl, rfl, rfl, by decide, by decide, by decide, ⟨w.heap.size, 1, none⟩, 16, 16, rfl, rfl, rfl, ?_⟩
  conv => whnf
  refine (word_does (k := 0) hb (by decide) (by decide)).mono ?_
  rintro r w1 ⟨rfl, ho1⟩
  refine ⟨trivial, ?_⟩
  conv => whnf
  refine (over_does (h2.only ho1) (by omega) (wordL_bd _ _).1 (wordL_bd _ _).2).mono ?_
  rintro r w2 ⟨rfl, h3, ho2⟩
  refine ⟨trivial, ?_⟩
  have hb2 := (hb.o ho1).only ho2 (fun k hk => by
    have : k = w.heap.size := by simpa using hk
    intro hm
    have := hlt _ hm
    omega)
  have ek : IntKind.i64.wrap ((k : Int) + 2) = ((k + 2 : Nat) : Int) := by rw [wi64]; omega
  conv => whnf
  refine (word_does (k := 2) hb2 (by decide) (by decide)).mono ?_
  rintro r w3 ⟨rfl, ho3⟩
  refine ⟨trivial, ?_⟩
  conv => whnf
  rw [ek]
  refine (over_does (h3.only ho3) (by rw [setW_len]; omega) (wordL_bd _ _).1 (wordL_bd _ _).2).mono ?_
  rintro r w4 ⟨rfl, h4, ho4⟩
  refine ⟨trivial, ?_⟩
  conv => whnf
  refine ⟨trivial, ?_⟩
  conv => whnf
  have how : Only F w w4 := ((hA.t0 ho1).zf ho2).f0 ho3 |>.ff ho4
  exact ⟨w4.heap.size, rfl, Row.of_blk (Blk.new w4 _ _) rfl (by decide), how.size, h4.only ((Only.refl [] w4).alloc _), how.f0 ((Only.refl [] w4).alloc _)⟩
/-- A UDP sum behind changes. -/
def udpS (s : Int) (chs : List (Int × Int)) : Int := if patchL s chs = 0 then 65535 else patchL s chs
theorem setW_setW (l : List UInt8) (k : Nat) (u v : Int) : setW (setW l k u) k v = setW l k v := by
  apply List.ext_getElem
  · simp [setW]
  · intro i h1 h2
    simp only [setW, List.getElem_set]
    split <;> (try rfl)
    split <;> rfl
end Go.Proofs.YtofomopdaponbaaGreatDoor
/-
  copy into a part of a block that is known whole. No program in sight.
-/
namespace Go.Proofs.YtofomopdaponbaaGreatDoor
open Go.RowKit
set_option linter.unusedVariables false

theorem vFall.copy {P : Program} {w : World} {o : Oper} {ρ : Operand → Value} {K : Value → World → Prop} {x y : Operand} {t t' e te : TypeId} {g off n c m cc : Nat} {old : List Value} {l : List UInt8} {B : Option Addr} {G : List Nat}
    (ho : o.op = .call { callee := .builtin .copy, args := #[x, y], argTypes := #[t, t'] }) (hu : P.underlying t = some (.slice e)) (hs1 : (P.info? e).map (·.size) = some 1)
    (hx : ρ x = .slice (some ⟨g, off, none⟩) n c) (hb : Blk w g te ⟨old⟩) (hy : ρ y = .slice B m cc) (hS : Bs w G B m l) (hm : 0 < m) (hfit : off + n ≤ old.length)
    (hK : ∀ w', Blk w' g te ⟨splice old off ((l.take n).map u8)⟩ → Only [g] w w' → w'.heap.size = w.heap.size → K (.int .i64 ((Nat.min m n : Nat) : Int)) w') : vFall P o ρ w K := by
  have hl := hS.len
  obtain ⟨b, o2, rfl, -⟩ := hS.some_ hm
  have hlen : ((l.take n).map u8).length = Nat.min m n := by
    rw [List.length_map, List.length_take, hl]
    exact Nat.min_comm _ _
  have hsrc : ∀ j v, ((l.take n).map u8)[j]? = some v → w.cell? ((⟨b, o2, none⟩ : Addr).add j) = some v := by
    intro j v hv
    rw [List.getElem?_map] at hv
    cases hj : (l.take n)[j]? with
    | none => rw [hj] at hv; cases hv
    | some c =>
      rw [hj] at hv
      obtain rfl : u8 c = v := by simpa using hv
      rw [add_plain]
      refine hS.ld ?_
      rw [List.getElem?_take] at hj
      split at hj
      · exact hj
      · cases hj
  have hr := run_copy_row (P := P) w t t' o.type e g off n c ⟨b, o2, none⟩ m cc ⟨old⟩ te ((l.take n).map u8) hu hs1 hb hlen hsrc
    (by rw [hlen]; exact Nat.le_trans (Nat.add_le_add_left (Nat.min_le_right _ _) _) hfit)
    (by intro v hv; obtain ⟨c, _, rfl⟩ := List.mem_map.1 hv; rfl)
  have hrun : (execOp ρ o).run P w = .ok (.value (.int .i64 ((Nat.min m n : Nat) : Int))) (w.setRow g (old.take off ++ (l.take n).map u8 ++ old.drop (off + ((l.take n).map u8).length)).toArray) := by
    unfold execOp
    simp only [ho, resolve, invoke, builtin, Sem.run_bind, Sem.run_pure, Result.andThen_ok, List.map_toArray, List.map_cons, List.map_nil, hx, hy, hr, goInt, hlen]
  refine ⟨_, _, ⟨hrun⟩, hK _ ?_ ⟨rfl, rfl, rfl, by rw [setRow_size]; exact Nat.le_refl _, fun k _ hk => ?_⟩ (setRow_size _ _ _)⟩
  · have := setRow_heap w g ⟨old⟩ (old.take off ++ (l.take n).map u8 ++ old.drop (off + ((l.take n).map u8).length)).toArray te (0, 0) hb
    have e : (old.take off ++ (l.take n).map u8 ++ old.drop (off + ((l.take n).map u8).length)).toArray = ⟨splice old off ((l.take n).map u8)⟩ := by
      unfold splice
      rw [List.append_assoc]
    rw [e] at this
    rw [e]
    exact this
  · exact setRow_other w g k _ (by simpa using hk)
/-- clear of the end of a block that is known whole: the head stays. -/
theorem vFall.clear {P : Program} {w : World} {o : Oper} {ρ : Operand → Value} {K : Value → World → Prop} {x : Operand} {t e te : TypeId} {g off n c size : Nat} {old : List Value} {z : Value}
    (ho : o.op = .call { callee := .builtin .clear, args := #[x], argTypes := #[t] }) (hu : P.underlying t = some (.slice e)) (hz : zeroOf P e = some z) (hzs : z.cells.size = size) (h1 : ∀ u ∈ z.cells.toList, isOne u = true)
    (hx : ρ x = .slice (some ⟨g, off, none⟩) n c) (hb : Blk w g te ⟨old⟩) (hfit : off + n * size ≤ old.length)
    (hK : ∀ w' new, Blk w' g te ⟨new⟩ → new.length = old.length → new.take off = old.take off → Only [g] w w' → w'.heap.size = w.heap.size → K (.tuple #[]) w') : vFall P o ρ w K := by
  have hlen : (Builtin.zeroCells z.cells n).toList.length = n * size := by simp [Builtin.zeroCells, hzs]
  have hall : ∀ u ∈ (Builtin.zeroCells z.cells n).toList, isOne u = true := by
    intro u hu
    simp only [Builtin.zeroCells, Array.toList_map, List.mem_map, Array.mem_toList_iff, Array.mem_range] at hu
    obtain ⟨i, hi, rfl⟩ := hu
    have hpos : 0 < z.cells.size := by
      rcases Nat.eq_zero_or_pos z.cells.size with h | h
      · rw [h] at hi
        simp at hi
      · exact h
    have hlt := Nat.mod_lt i hpos
    rw [getElem!_pos z.cells (i % z.cells.size) hlt]
    exact h1 _ (by simp)
  obtain ⟨w', hr, hb', ho', hs'⟩ := storeCells_of (P := P) (o := off) _ 0 old w hb (by rw [hlen]; exact hfit) hall
  have hrun : (execOp ρ o).run P w = .ok (.value (.tuple #[])) w' := by
    unfold execOp
    cases n with
    | zero =>
      have e : w = w' := by
        have : (Builtin.zeroCells z.cells 0).toList = [] := by simp [Builtin.zeroCells]
        rw [this] at hr
        simpa [storeCells] using hr
      subst e
      simp only [ho, resolve, invoke, builtin, Sem.run_bind, Sem.run_pure, Result.andThen_ok, List.map_toArray, List.map_cons, List.map_nil, hx]
      simp [Builtin.clear_, run_underlying hu]
    | succ n =>
      simp only [ho, resolve, invoke, builtin, Sem.run_bind, Sem.run_pure, Result.andThen_ok, List.map_toArray, List.map_cons, List.map_nil, hx]
      simp [Builtin.clear_, run_underlying hu, run_zero_of hz, hr]
  refine ⟨_, _, ⟨hrun⟩, hK w' _ hb' ?_ ?_ ho' hs'⟩
  · exact splice_len (by rw [hlen]; exact hfit)
  · unfold splice
    rw [Nat.add_zero, List.take_append_of_le_length (by rw [List.length_take]; omega), List.take_take, Nat.min_self]
end Go.Proofs.YtofomopdaponbaaGreatDoor
