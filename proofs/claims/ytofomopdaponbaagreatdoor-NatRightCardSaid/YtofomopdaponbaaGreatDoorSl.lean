/-
  Slices that are read: their cells, by lists; bytes. No program in sight.
-/
import Derived.Test.YtofomopdaponbaaGreatDoorVa
import Derived.Test.YtofomopdaponbaaGreatDoorArg
namespace Go.Proofs.YtofomopdaponbaaGreatDoor
set_option linter.unusedVariables false
set_option linter.unusedSimpArgs false

def u8 (c : UInt8) : Value := .int .u8 (c.toNat : Int)
theorem u8_lt (c : UInt8) : (c.toNat : Int) < 256 := by have := c.toNat_lt; omega
theorem u8_le (c : UInt8) : (c.toNat : Int) ≤ 255 := by have := c.toNat_lt; omega

/-- The slice value '.slice A n _' reads as the cells xs, 'size' cells an element; it lies in one of the blocks G. -/
def Sl (w : World) (size : Nat) (G : List Nat) (A : Option Addr) (n : Nat) (xs : List Value) : Prop :=
  xs.length = n * size ∧ (0 < n → ∃ b off, A = some ⟨b, off, none⟩ ∧ b ∈ G ∧ b < w.heap.size ∧ ∀ j u, xs[j]? = some u → w.cell? ⟨b, off + j, none⟩ = some u)
section
variable {w w' : World} {size : Nat} {G F : List Nat} {A : Option Addr} {n : Nat} {xs : List Value}
theorem Sl.only (h : Sl w size G A n xs) (ho : Only F w w') (hd : ∀ k ∈ G, k ∉ F) : Sl w' size G A n xs := by
  refine ⟨h.1, fun hn => ?_⟩
  obtain ⟨b, off, hA, hG, hb, hc⟩ := h.2 hn
  exact ⟨b, off, hA, hG, Nat.lt_of_lt_of_le hb ho.size, fun j u hu => ho.cell (hc j u hu) (hd b hG)⟩
theorem Sl.o (h : Sl w size G A n xs) (ho : Only [] w w') : Sl w' size G A n xs := h.only ho (fun _ _ => by simp)
theorem Sl.mono {G' : List Nat} (h : Sl w size G A n xs) (hs : ∀ k ∈ G, k ∈ G') : Sl w size G' A n xs := by
  refine ⟨h.1, fun hn => ?_⟩
  obtain ⟨b, off, hA, hG, hb, hc⟩ := h.2 hn
  exact ⟨b, off, hA, hs b hG, hb, hc⟩
theorem Sl.nil (w : World) (size : Nat) (G : List Nat) (A : Option Addr) : Sl w size G A 0 [] := ⟨by simp, fun h => absurd h (Nat.lt_irrefl 0)⟩
theorem Arg.sl (h : Arg w size A n xs) : ∃ G, Sl w size G A n xs := by
  rcases Nat.eq_zero_or_pos n with rfl | hn
  · exact ⟨[], h.1, fun h => absurd h (Nat.lt_irrefl 0)⟩
  · obtain ⟨b, off, hA, hb, hc⟩ := h.2 hn
    exact ⟨[b], h.1, fun _ => ⟨b, off, hA, by simp, hb, hc⟩⟩
theorem Sl.cut {l h m : Nat} (hs : Sl w size G A n xs) (h1 : l ≤ h) (h2 : h ≤ m) (h3 : h ≤ n) {A' : Option Addr} (hA : A' = if m = l then A else A.map (·.add (l * size))) :
    Sl w size G A' (h - l) ((xs.drop (l * size)).take ((h - l) * size)) := by
  have hlen := hs.1
  refine ⟨?_, fun hn => ?_⟩
  · rw [List.length_take, List.length_drop, hlen]
    have : (h - l) * size ≤ n * size - l * size := by
      rw [← Nat.sub_mul]
      exact Nat.mul_le_mul_right _ (by omega)
    omega
  · obtain ⟨b, off, rfl, hG, hb, hc⟩ := hs.2 (by omega)
    rw [if_neg (by omega)] at hA
    refine ⟨b, off + l * size, ?_, hG, hb, fun j u hu => ?_⟩
    · rw [hA]
      simp only [Option.map_some, add_plain]
    · rw [Nat.add_assoc]
      refine hc (l * size + j) u ?_
      rw [List.getElem?_take] at hu
      split at hu
      · rwa [List.getElem?_drop] at hu
      · cases hu
theorem Row.sl {e : TypeId} {c : Nat} (h : Row w e size G A n c xs) : Sl w size G A n xs := by
  refine ⟨h.len, fun hn => ?_⟩
  have hle := h.le
  obtain ⟨g, cur, hF, hA, hB, hsz, htk⟩ := h.blk (by omega)
  subst hF
  refine ⟨g, 0, hA, by simp, hB.lt, fun j u hu => ?_⟩
  rw [Nat.zero_add, hB.cell]
  rw [← htk, List.getElem?_take] at hu
  split at hu
  · rwa [Array.getElem?_toList] at hu
  · cases hu
end

/-- A slice of bytes. -/
def Bs (w : World) (G : List Nat) (A : Option Addr) (n : Nat) (l : List UInt8) : Prop := Sl w 1 G A n (l.map u8)
section
variable {w w' : World} {G F : List Nat} {A : Option Addr} {n : Nat} {l : List UInt8}
theorem Bs.len (h : Bs w G A n l) : l.length = n := by
  have := h.1
  simpa using this
theorem Bs.only (h : Bs w G A n l) (ho : Only F w w') (hd : ∀ k ∈ G, k ∉ F) : Bs w' G A n l := Sl.only h ho hd
theorem Bs.o (h : Bs w G A n l) (ho : Only [] w w') : Bs w' G A n l := Sl.o h ho
theorem Bs.mono {G' : List Nat} (h : Bs w G A n l) (hs : ∀ k ∈ G, k ∈ G') : Bs w G' A n l := Sl.mono h hs
theorem Bs.ex (h : Bs w G A n l) (hn : 0 < n) : ∃ b off, A = some ⟨b, off, none⟩ ∧ b ∈ G ∧ ∀ (k : Nat) (hk : k < l.length), w.cell? ⟨b, off + k, none⟩ = some (u8 (l[k])) := by
  obtain ⟨b, off, hA, hG, hb, hc⟩ := h.2 hn
  exact ⟨b, off, hA, hG, fun k hk => hc k _ (by simp [hk])⟩
theorem Bs.cut {lo hi m : Nat} (hs : Bs w G A n l) (h1 : lo ≤ hi) (h2 : hi ≤ m) (h3 : hi ≤ n) {A' : Option Addr} (hA : A' = if m = lo then A else A.map (·.add (lo * 1))) : Bs w G A' (hi - lo) ((l.drop lo).take (hi - lo)) := by
  have := Sl.cut hs h1 h2 h3 hA
  unfold Bs
  rw [Nat.mul_one, Nat.mul_one] at this
  rwa [← List.map_drop, ← List.map_take] at this
end

theorem Bs.ld {b off k : Nat} {c : UInt8} {w : World} {G : List Nat} {n : Nat} {l : List UInt8} (h : Bs w G (some ⟨b, off, none⟩) n l) (hc : l[k]? = some c) : w.cell? ⟨b, off + k, none⟩ = some (u8 c) := by
  have hk : k < l.length := (List.getElem?_eq_some_iff.1 hc).1
  obtain ⟨b', off', e, -, hx⟩ := h.ex (by rw [← h.len]; omega)
  cases e
  rw [hx k hk]
  rw [List.getElem?_eq_getElem hk] at hc
  rw [Option.some.inj hc]
theorem Sl.ld {b off k size : Nat} {v : Value} {w : World} {G : List Nat} {n : Nat} {xs : List Value} (h : Sl w size G (some ⟨b, off, none⟩) n xs) (hc : xs[k]? = some v) : w.cell? ⟨b, off + k, none⟩ = some v := by
  have hk : k < xs.length := (List.getElem?_eq_some_iff.1 hc).1
  have hn : 0 < n := by
    rcases Nat.eq_zero_or_pos n with rfl | h1
    · rw [h.1] at hk
      simp at hk
    · exact h1
  obtain ⟨b', off', e, -, -, hx⟩ := h.2 hn
  cases e
  exact hx k v hc
theorem Bs.some_ {w : World} {G : List Nat} {A : Option Addr} {n : Nat} {l : List UInt8} (h : Bs w G A n l) (hn : 0 < n) : ∃ b off, A = some ⟨b, off, none⟩ ∧ b ∈ G := by
  obtain ⟨b, off, hA, hG, -⟩ := h.ex hn
  exact ⟨b, off, hA, hG⟩
/-- A region that draws its order, and that makes new memory at most. -/
theorem VDraw.q {P : Program} {n : Nat} {ops : Array Oper} {N : Fr → World → Prop} {ρ : Fr} {w : World} (hm : P.follows .mixedOrders = true) (hB : (Region.lexB .any ops && okOps n ops.toList) = true)
    (h : vcQ P (fun w' => Only [] w w') ops.toList (fun ρ' => ∀ w', Only [] w w' → N ρ' w') 0 ops.toList ρ) : VDraw P n ops N ρ w :=
  VDraw.quiet (fun w' => Only [] w w') hm hB (Only.refl [] w).drew h
theorem p0 (i : Nat) : i = 0 + i * 1 := by omega
theorem p1 (off i : Nat) : off + i = off + i * 1 := by omega
theorem Only.t0 {a b c : World} (h : Only [] a b) (k : Only [] b c) : Only [] a c := h.trans k (by simp)
theorem Only.up {F : List Nat} {a b : World} (h : Only [] a b) : Only F a b := h.mono (by simp)
theorem Only.f0 {F : List Nat} {a b c : World} (h : Only F a b) (k : Only [] b c) : Only F a c := h.trans k (by simp)
theorem Only.zf {F : List Nat} {a b c : World} (h : Only [] a b) (k : Only F b c) : Only F a c := h.up.trans k (fun x hx => .inl hx)
theorem Only.ff {F : List Nat} {a b c : World} (h : Only F a b) (k : Only F b c) : Only F a c := h.trans k (fun x hx => .inl hx)
/-- A contract, met in a world that has grown. -/
theorem Does.q {P : Program} {f : FuncId} {args : List Value} {w w' : World} {v : Value} (h : Does P f args w' (fun u w2 => u = v ∧ Only [] w' w2)) (ho : Only [] w w') : Does P f args w' (fun u w2 => u = v ∧ Only [] w w2) :=
  h.mono fun _ _ ⟨e, hu⟩ => ⟨e, ho.t0 hu⟩
/-- What comes behind, out of sight: so the kernel need not look there. -/
theorem splitB.abs {P : Program} {l : List Oper} {N : Fr → World → Prop} {g : Bool} {v : Value} {k : Nat} {r : List Oper} {w : World} {F : Value → Fr}
    (h : ∀ N0 : Fr → World → Prop, (∀ ρ w, N ρ w → N0 ρ w) → splitB g v (fun v => vcOps P l N0 k r (F v) w)) : splitB g v (fun v => vcOps P l N k r (F v) w) := h N (fun _ _ h => h)
theorem vc.abs {P : Program} {n id : Nat} {ops : Array Oper} {d : Code} {N : Fr → World → Prop} {X : Exit → Fr → World → Prop} {ρ : Fr} {w : World}
    (h : ∀ N0 : Fr → World → Prop, (∀ ρ w, vc P n d N X ρ w → N0 ρ w) → vcOps P ops.toList N0 0 ops.toList ρ w) : vc P n (.seq (.region id ops false) d) N X ρ w := h (fun ρ w => vc P n d N X ρ w) (fun _ _ h => h)
theorem vc.abs2 {P : Program} {n id : Nat} {ops : Array Oper} {b d : Code} {N : Fr → World → Prop} {X : Exit → Fr → World → Prop} {ρ : Fr} {w : World} (hj : joins b = false)
    (h : ∀ N0 : Fr → World → Prop, (∀ ρ w, vc P n b (fun ρ' w' => vc P n d N X ρ' w') X ρ w → N0 ρ w) → vcOps P ops.toList N0 0 ops.toList ρ w) : vc P n (.seq (.seq (.region id ops false) b) d) N X ρ w := by
  have e : joins (.seq (.region id ops false) b) = false := by
    show (false || joins b) = false
    rw [hj]
    rfl
  unfold vc
  rw [e]
  exact h (fun ρ w => vc P n b (fun ρ' w' => vc P n d N X ρ' w') X ρ w) (fun _ _ h => h)
theorem VDraw.abs {P : Program} {n : Nat} {ops : Array Oper} {N : Fr → World → Prop} {ρ : Fr} {w : World} (h : ∀ N0 : Fr → World → Prop, (∀ ρ w, N ρ w → N0 ρ w) → VDraw P n ops N0 ρ w) : VDraw P n ops N ρ w := h N (fun _ _ h => h)
end Go.Proofs.YtofomopdaponbaaGreatDoor
