/-
  The library's sort (slices.SortFunc) as the shelf proves it, laid at mappings and at packets: what its contract asks of the program.
-/
import Derived.Shelf.SlLaysF0
import Derived.Test.YtofomopdaponbaaGreatDoorProg
import Derived.Test.YtofomopdaponbaaGreatDoorYVc
import Derived.Test.YtofomopdaponbaaGreatDoorYNid
import Derived.Shelf.SlSortCmp.InsertionK
import Derived.Shelf.SlSortCmp.WholeK
namespace Go.Proofs.YtofomopdaponbaaGreatDoor
open Go.Shelf
set_option maxRecDepth 100000

def sortNmRen : Go.Shelf.Ren := ⟨fun | 6 => 66 | 14 => 141 | 15 => 142 | 20 => 197 | 21 => 198 | 22 => 199 | 23 => 200 | 24 => 201 | 25 => 202 | 26 => 203 | 27 => 204 | 28 => 205 | 29 => 206 | 46 => 237 | 47 => 238 | 48 => 239 | 49 => 240 | 50 => 241 | 57 => 250 | n => n, fun | 22 => 45 | 24 => 48 | 25 => 132 | 3 => 3 | 39 => 74 | 0 => 0 | 53 => 54 | 55 => 242 | 4 => 4 | 46 => 235 | 45 => 234 | 50 => 153 | 5 => 5 | 9 => 9 | 66 => 269 | 70 => 273 | 76 => 281 | 77 => 49 | n => n, fun | n => n⟩
theorem sortNmLaid : SlLaysF0.n6 Tryz.prog sortNmRen := {
  mixed := by kernel_rfl
  f6 := ⟨Tryz.f66.name, by decide, Tryz.func66.trans (congrArg some (by kernel_rfl))⟩
  f14 := ⟨Tryz.f141.name, by decide, Tryz.func141.trans (congrArg some (by kernel_rfl))⟩
  f15 := Tryz.func142.trans (congrArg some (by kernel_rfl))
  f20 := ⟨Tryz.f197.name, by decide, Tryz.func197.trans (congrArg some (by kernel_rfl))⟩
  f21 := ⟨Tryz.f198.name, by decide, Tryz.func198.trans (congrArg some (by kernel_rfl))⟩
  f22 := ⟨Tryz.f199.name, by decide, Tryz.func199.trans (congrArg some (by kernel_rfl))⟩
  f23 := ⟨Tryz.f200.name, by decide, Tryz.func200.trans (congrArg some (by kernel_rfl))⟩
  f24 := ⟨Tryz.f201.name, by decide, Tryz.func201.trans (congrArg some (by kernel_rfl))⟩
  f25 := ⟨Tryz.f202.name, by decide, Tryz.func202.trans (congrArg some (by kernel_rfl))⟩
  f26 := ⟨Tryz.f203.name, by decide, Tryz.func203.trans (congrArg some (by kernel_rfl))⟩
  f27 := ⟨Tryz.f204.name, by decide, Tryz.func204.trans (congrArg some (by kernel_rfl))⟩
  f28 := Tryz.func205.trans (congrArg some (by kernel_rfl))
  f29 := Tryz.func206.trans (congrArg some (by kernel_rfl))
  f46 := ⟨Tryz.f237.name, by decide, Tryz.func237.trans (congrArg some (by kernel_rfl))⟩
  f47 := Tryz.func238.trans (congrArg some (by kernel_rfl))
  f48 := Tryz.func239.trans (congrArg some (by kernel_rfl))
  f49 := ⟨Tryz.f240.name, by decide, Tryz.func240.trans (congrArg some (by kernel_rfl))⟩
  f50 := ⟨Tryz.f241.name, by decide, Tryz.func241.trans (congrArg some (by kernel_rfl))⟩
  f57 := ⟨Tryz.f250.name, by decide, Tryz.func250.trans (congrArg some (by kernel_rfl))⟩
  t0 := Tryz.underlying0
  a0 := Tryz.isAgg0
  z0 := Tryz.sizeOf0
  v0 := Tryz.zeroValue0
  t3 := Tryz.underlying3
  a3 := Tryz.isAgg3
  z3 := Tryz.sizeOf3
  v3 := Tryz.zeroValue3
  t4 := Tryz.underlying4
  a4 := Tryz.isAgg4
  z4 := Tryz.sizeOf4
  v4 := Tryz.zeroValue4
  t5 := Tryz.underlying5
  a5 := Tryz.isAgg5
  z5 := Tryz.sizeOf5
  v5 := Tryz.zeroValue5
  t9 := Tryz.underlying9
  a9 := Tryz.isAgg9
  z9 := Tryz.sizeOf9
  v9 := Tryz.zeroValue9
  t22 := Tryz.underlying45
  a22 := Tryz.isAgg45
  z22 := Tryz.sizeOf45
  v22 := Tryz.zeroValue45
  t25 := Tryz.underlying132
  a25 := Tryz.isAgg132
  z25 := Tryz.sizeOf132
  v25 := Tryz.zeroValue132
  t39 := Tryz.underlying74
  a39 := Tryz.isAgg74
  z39 := Tryz.sizeOf74
  v39 := Tryz.zeroValue74
  t45 := Tryz.underlying234
  a45 := Tryz.isAgg234
  z45 := Tryz.sizeOf234
  v45 := Tryz.zeroValue234
  t46 := Tryz.underlying235
  a46 := Tryz.isAgg235
  z46 := Tryz.sizeOf235
  v46 := Tryz.zeroValue235
  t50 := Tryz.underlying153
  a50 := Tryz.isAgg153
  z50 := Tryz.sizeOf153
  v50 := Tryz.zeroValue153
  t53 := Tryz.underlying54
  a53 := Tryz.isAgg54
  z53 := Tryz.sizeOf54
  v53 := Tryz.zeroValue54
  t55 := Tryz.underlying242
  a55 := Tryz.isAgg242
  z55 := Tryz.sizeOf242
  v55 := Tryz.zeroValue242
  t66 := Tryz.underlying269
  a66 := Tryz.isAgg269
  z66 := Tryz.sizeOf269
  v66 := Tryz.zeroValue269
  t70 := Tryz.underlying273
  a70 := Tryz.isAgg273
  z70 := Tryz.sizeOf273
  v70 := Tryz.zeroValue273
  t76 := Tryz.underlying281
  a76 := Tryz.isAgg281
  z76 := Tryz.sizeOf281
  v76 := Tryz.zeroValue281
  t77 := Tryz.underlying49
  a77 := Tryz.isAgg49
  z77 := Tryz.sizeOf49
  v77 := Tryz.zeroValue49
}

def sortPkRen : Go.Shelf.Ren := ⟨fun | 6 => 90 | 14 => 161 | 15 => 142 | 20 => 219 | 21 => 220 | 22 => 221 | 23 => 222 | 24 => 223 | 25 => 224 | 26 => 225 | 27 => 226 | 28 => 205 | 29 => 206 | 46 => 246 | 47 => 238 | 48 => 239 | 49 => 247 | 50 => 248 | 57 => 252 | n => n, fun | 22 => 84 | 24 => 56 | 25 => 157 | 3 => 3 | 39 => 74 | 0 => 0 | 53 => 54 | 55 => 242 | 4 => 4 | 46 => 235 | 45 => 234 | 50 => 153 | 5 => 5 | 9 => 9 | 66 => 269 | 70 => 273 | 76 => 281 | 77 => 49 | n => n, fun | n => n⟩
theorem sortPkLaid : SlLaysF0.n6 Tryz.prog sortPkRen := {
  mixed := by kernel_rfl
  f6 := ⟨Tryz.f90.name, by decide, Tryz.func90.trans (congrArg some (by kernel_rfl))⟩
  f14 := ⟨Tryz.f161.name, by decide, Tryz.func161.trans (congrArg some (by kernel_rfl))⟩
  f15 := Tryz.func142.trans (congrArg some (by kernel_rfl))
  f20 := ⟨Tryz.f219.name, by decide, Tryz.func219.trans (congrArg some (by kernel_rfl))⟩
  f21 := ⟨Tryz.f220.name, by decide, Tryz.func220.trans (congrArg some (by kernel_rfl))⟩
  f22 := ⟨Tryz.f221.name, by decide, Tryz.func221.trans (congrArg some (by kernel_rfl))⟩
  f23 := ⟨Tryz.f222.name, by decide, Tryz.func222.trans (congrArg some (by kernel_rfl))⟩
  f24 := ⟨Tryz.f223.name, by decide, Tryz.func223.trans (congrArg some (by kernel_rfl))⟩
  f25 := ⟨Tryz.f224.name, by decide, Tryz.func224.trans (congrArg some (by kernel_rfl))⟩
  f26 := ⟨Tryz.f225.name, by decide, Tryz.func225.trans (congrArg some (by kernel_rfl))⟩
  f27 := ⟨Tryz.f226.name, by decide, Tryz.func226.trans (congrArg some (by kernel_rfl))⟩
  f28 := Tryz.func205.trans (congrArg some (by kernel_rfl))
  f29 := Tryz.func206.trans (congrArg some (by kernel_rfl))
  f46 := ⟨Tryz.f246.name, by decide, Tryz.func246.trans (congrArg some (by kernel_rfl))⟩
  f47 := Tryz.func238.trans (congrArg some (by kernel_rfl))
  f48 := Tryz.func239.trans (congrArg some (by kernel_rfl))
  f49 := ⟨Tryz.f247.name, by decide, Tryz.func247.trans (congrArg some (by kernel_rfl))⟩
  f50 := ⟨Tryz.f248.name, by decide, Tryz.func248.trans (congrArg some (by kernel_rfl))⟩
  f57 := ⟨Tryz.f252.name, by decide, Tryz.func252.trans (congrArg some (by kernel_rfl))⟩
  t0 := Tryz.underlying0
  a0 := Tryz.isAgg0
  z0 := Tryz.sizeOf0
  v0 := Tryz.zeroValue0
  t3 := Tryz.underlying3
  a3 := Tryz.isAgg3
  z3 := Tryz.sizeOf3
  v3 := Tryz.zeroValue3
  t4 := Tryz.underlying4
  a4 := Tryz.isAgg4
  z4 := Tryz.sizeOf4
  v4 := Tryz.zeroValue4
  t5 := Tryz.underlying5
  a5 := Tryz.isAgg5
  z5 := Tryz.sizeOf5
  v5 := Tryz.zeroValue5
  t9 := Tryz.underlying9
  a9 := Tryz.isAgg9
  z9 := Tryz.sizeOf9
  v9 := Tryz.zeroValue9
  t22 := Tryz.underlying84
  a22 := Tryz.isAgg84
  z22 := Tryz.sizeOf84
  v22 := Tryz.zeroValue84
  t25 := Tryz.underlying157
  a25 := Tryz.isAgg157
  z25 := Tryz.sizeOf157
  v25 := Tryz.zeroValue157
  t39 := Tryz.underlying74
  a39 := Tryz.isAgg74
  z39 := Tryz.sizeOf74
  v39 := Tryz.zeroValue74
  t45 := Tryz.underlying234
  a45 := Tryz.isAgg234
  z45 := Tryz.sizeOf234
  v45 := Tryz.zeroValue234
  t46 := Tryz.underlying235
  a46 := Tryz.isAgg235
  z46 := Tryz.sizeOf235
  v46 := Tryz.zeroValue235
  t50 := Tryz.underlying153
  a50 := Tryz.isAgg153
  z50 := Tryz.sizeOf153
  v50 := Tryz.zeroValue153
  t53 := Tryz.underlying54
  a53 := Tryz.isAgg54
  z53 := Tryz.sizeOf54
  v53 := Tryz.zeroValue54
  t55 := Tryz.underlying242
  a55 := Tryz.isAgg242
  z55 := Tryz.sizeOf242
  v55 := Tryz.zeroValue242
  t66 := Tryz.underlying269
  a66 := Tryz.isAgg269
  z66 := Tryz.sizeOf269
  v66 := Tryz.zeroValue269
  t70 := Tryz.underlying273
  a70 := Tryz.isAgg273
  z70 := Tryz.sizeOf273
  v70 := Tryz.zeroValue273
  t76 := Tryz.underlying281
  a76 := Tryz.isAgg281
  z76 := Tryz.sizeOf281
  v76 := Tryz.zeroValue281
  t77 := Tryz.underlying49
  a77 := Tryz.isAgg49
  z77 := Tryz.sizeOf49
  v77 := Tryz.zeroValue49
}
end Go.Proofs.YtofomopdaponbaaGreatDoor
/-
  Rows as the shelf's sort sees them: what it asks, and what its last world holds.
-/
namespace Go.Proofs.YtofomopdaponbaaGreatDoor
open Go.RowKit
set_option linter.unusedVariables false
set_option linter.unusedSimpArgs false

theorem flatK_eq {α : Type} [Inhabited α] {enc : α → List Value} {k : Nat} (hlen : ∀ x, (enc x).length = k) (d : Array α) : Go.Sort.flatK enc k d = ⟨d.toList.flatMap enc⟩ := by
  have hl : (d.toList.flatMap enc).length = d.size * k := by rw [flat_len hlen]; simp
  refine Go.Sort.ext_get! (by rw [Go.Sort.size_flatK]; exact hl.symm) fun t ht => ?_
  have ht : t < d.size * k := by rwa [Go.Sort.size_flatK] at ht
  have k0 : 0 < k := by
    rcases Nat.eq_zero_or_pos k with h | h
    · subst h
      simp at ht
    · exact h
  have hq : t / k < d.size := (Nat.div_lt_iff_lt_mul k0).2 ht
  have hr : t % k < k := Nat.mod_lt _ k0
  rw [Go.Sort.get_flatK _ _ _ _ ht, getElem!_pos d (t / k) hq]
  have h := flat_get hlen d.toList (t / k) (t % k) (by simpa using hq) hr
  rw [Nat.div_add_mod' t k] at h
  have h2 : (⟨d.toList.flatMap enc⟩ : Array Value)[t]! = (d.toList.flatMap enc)[t]! := by
    simp [Array.getElem!_eq_getD, Array.getD_eq_getD_getElem?, List.getElem!_eq_getElem?_getD]
  rw [h2]
  simp only [List.getElem!_eq_getElem?_getD]
  rw [h]
  simp
theorem Row.holdsK {α : Type} [Inhabited α] {enc : α → List Value} {k : Nat} (hlen : ∀ x, (enc x).length = k) {w : World} {e : TypeId} {g n c : Nat} {z : List α} (h : Row w e k [g] (some ⟨g, 0, none⟩) n c (z.flatMap enc)) :
    Go.Sort.HoldsK enc k w g 0 z.toArray := by
  obtain ⟨cur, hb, hc, ht⟩ := h.own
  intro j hj
  rw [Go.Sort.size_flatK] at hj
  rw [flatK_eq hlen]
  have hl : (z.flatMap enc).length = z.length * k := flat_len hlen z
  have hj : j < (z.flatMap enc).length := by rw [hl]; simpa using hj
  have e1 : (cur.take (n * k))[j]? = (z.flatMap enc)[j]? := by rw [ht]
  have hjn : j < n * k := by
    have : (cur.take (n * k)).length ≤ n * k := by simp; omega
    rw [ht] at this
    omega
  rw [List.getElem?_take, if_pos hjn] at e1
  refine ⟨?_, ?_⟩
  · rw [Nat.zero_add]
    refine (hb.cell j).trans ?_
    have h2 : (⟨z.flatMap enc⟩ : Array Value)[j]! = (z.flatMap enc)[j] := by
      rw [getElem!_pos (⟨z.flatMap enc⟩ : Array Value) j hj]
      rfl
    show (⟨cur⟩ : Array Value)[j]? = some (id (⟨z.flatMap enc⟩ : Array Value)[j]!)
    rw [h2, id, List.getElem?_toArray, e1, List.getElem?_eq_getElem hj]
  · rw [Nat.zero_add]
    exact hb.frozen j
theorem Row.sortedK {α : Type} [Inhabited α] {enc : α → List Value} {k : Nat} (hlen : ∀ x, (enc x).length = k) {w : World} {e : TypeId} {g n c m : Nat} {z : List α} {d : Array α} {os : Array Obj} (h : Row w e k [g] (some ⟨g, 0, none⟩) n c (z.flatMap enc)) (hd : d.size = n) :
    Row (Go.Proofs.sortWorldK enc k w g 0 m d os) e k [g] (some ⟨g, 0, none⟩) n c (d.toList.flatMap enc) ∧ Only [g] w (Go.Proofs.sortWorldK enc k w g 0 m d os) := by
  obtain ⟨cur, hb, hc, ht⟩ := h.own
  have hle := h.le
  have hg : g < w.heap.size := hb.lt
  have hfl : (d.toList.flatMap enc).length = n * k := by rw [flat_len hlen]; simp [hd]
  have hnc : n * k ≤ c * k := Nat.mul_le_mul_right _ hle.1
  have hblk : ∀ i, i < w.heap.size → (Go.Proofs.sortWorldK enc k w g 0 m d os).heap[i]? = if i = g then some (.cells ⟨d.toList.flatMap enc ++ cur.drop (n * k)⟩ e (0, 0)) else w.heap[i]? := by
    intro i hi
    have h1 : (Go.Proofs.sortWorldK enc k w g 0 m d os).heap[i]? = (w.heap.modify g (Go.Sort.onCells (Go.Sort.putCells id 0 (Go.Sort.flatK enc k d))))[i]? := by
      show (_ ++ os)[i]? = _
      rw [Array.getElem?_append_left (by show i < (w.heap.modify g _).size; simpa using hi)]
      rfl
    rw [h1, Array.getElem?_modify]
    by_cases e1 : g = i
    · subst e1
      rw [if_pos rfl, if_pos rfl]
      have hh : w.heap[g]? = some (.cells ⟨cur⟩ e (0, 0)) := hb
      rw [hh]
      show some (Obj.cells (Go.Sort.putCells id 0 (Go.Sort.flatK enc k d) ⟨cur⟩) e (0, 0)) = _
      rw [flatK_eq hlen]
      congr 2
      refine Array.ext_getElem? fun t => ?_
      unfold Go.Sort.putCells
      rw [Array.getElem?_mapIdx, List.getElem?_toArray, List.getElem?_toArray]
      by_cases ht' : t < n * k
      · rw [List.getElem?_append_left (by omega), List.getElem?_eq_getElem (show t < cur.length by omega), List.getElem?_eq_getElem (by omega)]
        simp only [Option.map_some]
        rw [if_pos ⟨Nat.zero_le _, by show t < 0 + (d.toList.flatMap enc).length; omega⟩, id, Nat.sub_zero, getElem!_pos (⟨d.toList.flatMap enc⟩ : Array Value) t (by show t < (d.toList.flatMap enc).length; omega)]
        rfl
      · rw [List.getElem?_append_right (by omega), List.getElem?_drop, show n * k + (t - (d.toList.flatMap enc).length) = t by omega]
        cases cur[t]? with
        | none => rfl
        | some x =>
          simp only [Option.map_some]
          rw [if_neg (by rintro ⟨-, h2⟩; have h2 : t < 0 + (d.toList.flatMap enc).length := h2; omega)]
    · rw [if_neg e1, if_neg (Ne.symm e1)]
  refine ⟨?_, ?_⟩
  · refine Row.ofOwn (cur := d.toList.flatMap enc ++ cur.drop (n * k)) ?_ ?_ ?_ hfl hle.1 hle.2
    · show (Go.Proofs.sortWorldK enc k w g 0 m d os).heap[g]? = _
      rw [hblk g hg, if_pos rfl]
    · rw [List.length_append, hfl, List.length_drop, hc]
      omega
    · rw [List.take_append_of_le_length (by omega), List.take_of_length_le (by omega)]
  · refine ⟨rfl, rfl, rfl, ?_, fun i hi hn => ?_⟩
    · show w.heap.size ≤ (w.heap.modify g _ ++ os).size
      simp
    · rw [hblk i hi, if_neg (fun h => hn (by rw [h]; exact List.mem_singleton.2 rfl))]
end Go.Proofs.YtofomopdaponbaaGreatDoor
/-
  The library's sort at rows of structs, at whatever length, as a contract of the engine's: a permutation, sorted.
-/
namespace Go.Proofs.YtofomopdaponbaaGreatDoor
open Go.RowKit
set_option linter.unusedVariables false
set_option linter.unusedSimpArgs false

theorem perm_all {α : Type} [Inhabited α] {d d' : Array α} (h : Go.Sort.PermIn 0 d.size d d') : d'.toList.Perm d.toList := by
  have h3 := h.2.2
  have e1 : d.extract 0 d.size = d := Array.extract_size
  have e2 : d'.extract 0 d.size = d' := by rw [← h.1]; exact Array.extract_size
  rwa [e1, e2] at h3
theorem sortK_does {P : Program} {ρ : Go.Shelf.Ren} {α : Type} [Inhabited α] (L : SlLaysF0.n6 P ρ) {k : Nat} {enc : α → List Value} {cf : α → α → Int} {f g b n c : Nat} {e : TypeId} {z : List α} {w : World} (hf : ρ.f 6 = f)
    (aE : ∀ w, (isAgg (ρ.t 24)).run P w = .ok true w) (zE : ∀ w, (Go.sizeOf (ρ.t 24)).run P w = .ok k w) (hlen : ∀ x, (enc x).length = k) (h1 : ∀ x, ∀ v ∈ enc x, v.oneCell' = true) (hO : Go.Sort.SWO (Go.Proofs.ltOf cf))
    (hok : callable P f = true) (eg : ∀ args w, (callFunc g args).run P w = .ok (.enter g args) w)
    (hcmp : ∀ (x y : α) (W : World), Does P g [.agg ⟨enc x⟩, .agg ⟨enc y⟩] W (fun v w' => v = .int .i64 (cf x y) ∧ ∃ q os', w' = Go.Sort.grow (W.drewN q) os'))
    (h : Row w e k [b] (some ⟨b, 0, none⟩) n c (z.flatMap enc)) (hz : z.length = n) (hn : n < 4611686018427387904) :
    Does P f [.slice (some ⟨b, 0, none⟩) n c, .func (.func g) #[] #[]] w (fun v w' => v = .tuple ⟨[]⟩ ∧ ∃ z' : List α, z'.Perm z ∧ (∀ i j (hj : j < z'.length) (hij : i < j), ¬ cf z'[j] (z'[i]'(by omega)) < 0) ∧ Row w' e k [b] (some ⟨b, 0, none⟩) n c (z'.flatMap enc) ∧ Only [b] w w') := by
  have hb : b < w.heap.size := h.lt b (List.mem_singleton.2 rfl)
  have hsz : z.toArray.size = n := by simpa using hz
  have hc := AnyQ.slices_SortFunc L k aE zE enc hlen h1 cf hO g #[] b 0 c z.toArray w eg (fun m os dk hs x y => (hcmp x y _).2.mono (by
    rintro e w' ⟨v, he, hv, q, os', hw⟩
    exact ⟨by rw [he, hv], q, os', hw⟩)) (Row.holdsK hlen h) hb (by omega)
  rw [hf, hsz] at hc
  refine ⟨hok, hc.mono ?_⟩
  rintro e w' ⟨he, d', m, os, hp, hs, hw⟩
  have hd : d'.size = n := by rw [hp.1]; exact hsz
  have hr := Row.sortedK hlen (m := m) (os := os) h hd
  refine ⟨_, he, rfl, d'.toList, ?_, ?_, by rw [hw]; exact hr.1, by rw [hw]; exact hr.2⟩
  · rw [← hsz] at hp
    exact perm_all hp
  · intro i j hj hij
    have h2 := hs i j (Nat.zero_le _) hij (by have : j < d'.size := by simpa using hj
                                              omega)
    have hj' : j < d'.size := by simpa using hj
    rw [getElem!_pos d' j hj', getElem!_pos d' i (by omega)] at h2
    have h3 : decide (cf d'[j] d'[i] < 0) = false := h2
    simpa using of_decide_eq_false h3
end Go.Proofs.YtofomopdaponbaaGreatDoor
