/-
  The document's nat (mosaicref30): its state in memory; begin, noted, Notes, May, New.
-/
import Derived.Test.YtofomopdaponbaaGreatDoorZx
import Derived.Test.YtofomopdaponbaaGreatDoorYNnw
namespace Go.Proofs.YtofomopdaponbaaGreatDoor
open Go.RowKit
set_option linter.unusedVariables false
set_option linter.unusedSimpArgs false

/-- The document's nat lies at T, its lists at these places. -/
structure R30 (w : World) (T : Nat) (s : NatS) (A1 : Option Addr) (n1 c1 : Nat) (F1 : List Nat) (A2 : Option Addr) (n2 c2 : Nat) (F2 : List Nat) (A3 : Option Addr) (n3 c3 : Nat) (F3 : List Nat) : Prop where
  b : Blk w T 106 ⟨natC s.cf s.now (.slice A1 n1 c1) (.slice A2 n2 c2) (.slice A3 n3 c3)⟩
  m : Row w 48 20 F1 A1 n1 c1 (s.maps.flatMap nmC)
  o : Sl w 55 F2 A2 n2 (s.outs.flatMap ntC)
  i : Sl w 55 F3 A3 n3 (s.ins.flatMap ntC)
  to : T ∉ F2
  ti : T ∉ F3
  mo : ∀ k ∈ F1, k ∉ F2
  mi : ∀ k ∈ F1, k ∉ F3
  lo : ∀ k ∈ F2, k < w.heap.size
  li : ∀ k ∈ F3, k < w.heap.size
def St30 (w : World) (T : Nat) (s : NatS) (F : List Nat) : Prop :=
  ∃ A1 n1 c1 F1 A2 n2 c2 F2 A3 n3 c3 F3, R30 w T s A1 n1 c1 F1 A2 n2 c2 F2 A3 n3 c3 F3 ∧ F = T :: (F1 ++ (F2 ++ F3))
theorem R30.tm {w : World} {T : Nat} {s : NatS} {A1 : Option Addr} {n1 c1 : Nat} {F1 : List Nat} {A2 : Option Addr} {n2 c2 : Nat} {F2 : List Nat} {A3 : Option Addr} {n3 c3 : Nat} {F3 : List Nat} (h : R30 w T s A1 n1 c1 F1 A2 n2 c2 F2 A3 n3 c3 F3) : T ∉ F1 := h.m.ne_blk h.b (by decide)
theorem St30.only {w w' : World} {T : Nat} {s : NatS} {F G : List Nat} (h : St30 w T s F) (ho : Only G w w') (hd : ∀ k ∈ F, k ∉ G) : St30 w' T s F := by
  obtain ⟨A1, n1, c1, F1, A2, n2, c2, F2, A3, n3, c3, F3, hr, rfl⟩ := h
  refine ⟨A1, n1, c1, F1, A2, n2, c2, F2, A3, n3, c3, F3, ⟨hr.b.only ho (hd _ (by simp)), hr.m.only ho (fun k hk => hd k (by simp [hk])), hr.o.only ho (fun k hk => hd k (by simp [hk])), hr.i.only ho (fun k hk => hd k (by simp [hk])), hr.to, hr.ti, hr.mo, hr.mi, fun k hk => Nat.lt_of_lt_of_le (hr.lo k hk) ho.size, fun k hk => Nat.lt_of_lt_of_le (hr.li k hk) ho.size⟩, rfl⟩
theorem St30.o {w w' : World} {T : Nat} {s : NatS} {F : List Nat} (h : St30 w T s F) (ho : Only [] w w') : St30 w' T s F := h.only ho (by simp)
theorem St30.lt {w : World} {T : Nat} {s : NatS} {F : List Nat} (h : St30 w T s F) : ∀ k ∈ F, k < w.heap.size := by
  obtain ⟨A1, n1, c1, F1, A2, n2, c2, F2, A3, n3, c3, F3, hr, rfl⟩ := h
  intro k hk
  simp only [List.mem_cons, List.mem_append] at hk
  rcases hk with rfl | hk | hk | hk
  · exact hr.b.lt
  · exact hr.m.lt k hk
  · exact hr.lo k hk
  · exact hr.li k hk
set_option maxHeartbeats 4000000 in
set_option maxRecDepth 100000 in
theorem rbegin_does {w : World} {T : Nat} {s : NatS} {F : List Nat} {now : Int} (h : St30 w T s F) (ok : okS s) :
    Does Tryz.prog 109 [.pointer (some ⟨T, 0, none⟩), .int .i64 now] w (fun v w' => v = .bool (passesS s now).1 ∧ ∃ F', St30 w' T (passesS s now).2 F' ∧ Only [T] w w' ∧ ∀ k ∈ F', k ∈ F ∨ w.heap.size ≤ k) := by
  obtain ⟨cf, now0, maps, outs, ins⟩ := s
  have hst := h
  obtain ⟨A1, n1, c1, F1, A2, n2, c2, F2, A3, n3, c3, F3, hr, rfl⟩ := h
  have okc : okCf cf := ok.cf
  have hb := hr.b
  have hm := hr.m
  have hn := hm.sl.num nmC_len (by decide)
  have hn2 := hr.o.num ntC_len (by decide)
  have hn3 := hr.i.num ntC_len (by decide)
  dsimp only at hb hm hn hn2 hn3
  have q1 : (maps.length : Int) ≤ cf.maps := ok.nmaps
  have q2 : cf.maps ≤ 256 := ok.cmaps
  have q3 : cf.parts ≤ 64 := ok.cparts.2
  have q4 : (outs.length : Int) ≤ cf.parts := ok.nouts
  have q5 : (ins.length : Int) ≤ cf.parts := ok.nins
  have same : (passesS ⟨cf, now0, maps, outs, ins⟩ now).1 = false → ∀ w', w = w' → Value.bool false = .bool (passesS ⟨cf, now0, maps, outs, ins⟩ now).1 ∧ ∃ F', St30 w' T (passesS ⟨cf, now0, maps, outs, ins⟩ now).2 F' ∧ Only [T] w w' ∧ ∀ k ∈ F', k ∈ T :: (F1 ++ (F2 ++ F3)) ∨ w.heap.size ≤ k := by
    rintro e w' rfl
    refine ⟨by rw [e], _, ?_, Only.refl _ _, fun k hk => .inl hk⟩
    unfold passesS at e ⊢
    split at e
    · cases e
    · rename_i hne
      rw [if_neg hne]
      exact hst
  refine Does.enter (fn := Tryz.f109) (by kernel_rfl) rfl (by kernel_rfl) (by kernel_rfl) ?_
  refine vc.abs fun N0 hN0 => ?_
  conv => whnf
  refine hN0 _ _ ?_
  refine vc.abs2 rfl fun N1 hN1 => ?_
  conv => whnf
  (refine ⟨_, Loads.one (by kernel_rfl) (hb.ntNow okc), ?_⟩; conv => whnf)
  refine VIf.dec (fun h1 => ?_) (fun h1 => ?_)
  · have e : (passesS ⟨cf, now0, maps, outs, ins⟩ now).1 = false := by
      unfold passesS
      rw [if_neg (by simp [betweenI]; omega)]
    conv => whnf
    refine hN1 _ _ ?_
    conv => whnf
    exact same e _ rfl
  conv => whnf
  refine hN1 _ _ ?_
  conv => whnf
  refine VIf.dec (fun h2 => ?_) (fun h2 => ?_)
  · have e : (passesS ⟨cf, now0, maps, outs, ins⟩ now).1 = false := by
      unfold passesS
      rw [if_neg (by simp [betweenI]; omega)]
    conv => whnf
    exact same e _ rfl
  have hP : passesS ⟨cf, now0, maps, outs, ins⟩ now = (true, ⟨cf, now, maps.filter (fun m => !aged now m.used cf.life), outs.filter (fun x => !aged now x.from_ cf.hold), ins.filter (fun x => !aged now x.from_ cf.hold)⟩) := by
    unfold passesS
    rw [if_pos (by simp [betweenI]; omega)]
  rw [hP]
  clear same hN1 hN0
  conv => whnf
  refine vStore.one hb (by kernel_rfl) rfl (i := 41) (u := .int .i64 now0) ((nat_tail okc 6).trans rfl) (fun hb hoS => ?_)
  rw [natC_setNow okc] at hb
  have tm : ∀ k ∈ F1, k ∉ [T] := fun k hk h => by
    obtain rfl : k = T := by simpa using h
    exact hr.tm hk
  have t2 : ∀ k ∈ F2, k ∉ [T] := fun k hk h => by
    obtain rfl : k = T := by simpa using h
    exact hr.to hk
  have t3 : ∀ k ∈ F3, k ∉ [T] := fun k hk h => by
    obtain rfl : k = T := by simpa using h
    exact hr.ti hk
  have hmS := hm.sl.only hoS tm
  have hoSo := hr.o.only hoS t2
  have hoSi := hr.i.only hoS t3
  dsimp only at hoSo hoSi
  obtain ⟨w1, hw1⟩ : ∃ w1, w.setCell ⟨T, 41, none⟩ (.int .i64 now) = w1 := ⟨_, rfl⟩
  rw [hw1] at hb hoS hmS hoSo hoSi
  have hTlt : T < w1.heap.size := hb.lt
  conv => whnf
  rw [hw1]
  refine VLoop.inv (α := Nat × Option Addr × Nat × Nat) [(5, 7), (21, 56)] (fun | (i, B, m, d) => [(5, .slice B m d), (6, .int .i64 (i : Nat))]) (fun | (i, B, m, d) => fun w' => i ≤ n1 ∧ m ≤ i ∧ ∃ F, Row w' 48 20 F B m d (((maps.take i).filter (fun m => !aged now m.used cf.life)).flatMap nmC) ∧ Only [] w1 w' ∧ ∀ k ∈ F, w1.heap.size ≤ k) (fun | (i, B, m, d) => n1 - i) (0, none, 0, 0) (by kernel_rfl) ⟨rfl, rfl, trivial⟩ ⟨Nat.zero_le _, Nat.le_refl _, [], Row.nil _ _ _ _, Only.refl _ _, by simp⟩ ?_
  rintro ⟨i, B, m, d⟩ wr j ⟨hi, hmi, F, hrow, ho, hF⟩
  have hbr := hb.only ho (by simp)
  have hzr := hmS.o ho
  have ei : IntKind.i64.wrap ((i : Int) + 1) = ((i + 1 : Nat) : Int) := by rw [wi64]; omega
  conv => whnf
  (refine ⟨_, Loads.one (by kernel_rfl) (hbr.ntM okc), ?_⟩; conv => whnf)
  refine VIf.dec (fun ht => ?_) (fun ht => ?_)
  · have ht : (i : Int) < (n1 : Int) := ht
    have hil : i < maps.length := by omega
    obtain ⟨b, off, rfl, -⟩ := hmS.some_ (by omega)
    conv => whnf
    refine VDraw.abs fun N2 hN2 => ?_
    refine VDraw.q (by kernel_rfl) (by kernel_rfl) ?_
    conv => whnf
    (refine ⟨_, fun w' hw' => Loads.one (by kernel_rfl) ((hbr.only hw' (by simp)).ntM okc), ?_⟩; conv => whnf)
    refine ⟨_, _, rfl, i, off + i * 20, rfl, by omega, rfl, ?_⟩
    conv => whnf
    (refine ⟨_, fun w' hw' => Loads.one (by kernel_rfl) ((hzr.o hw').fld nmC_len hil ((nm_tail _ 2).trans rfl)), ?_⟩; conv => whnf)
    (refine ⟨_, fun w' hw' => Loads.one (by kernel_rfl) ((hbr.only hw' (by simp)).ntLife okc), ?_⟩; conv => whnf)
    intro w2 ho2
    conv => whnf
    refine hN2 _ _ ?_
    have hw2 := ho.t0 ho2
    have hrow2 := hrow.only ho2 (by simp)
    by_cases hx : IntKind.i64.wrap (now - maps[i].used) < cf.life
    · have hag : (!aged now maps[i].used cf.life) = true := by
        unfold aged
        rw [decide_eq_false (show ¬ IntKind.i64.wrap (now - maps[i].used) ≥ cf.life by omega)]
        rfl
      refine vc.T (congrArg Value.bool (decide_eq_true hx)) ?_
      conv => whnf
      (refine ⟨_, Loads.one (by kernel_rfl) ((hbr.only ho2 (by simp)).ntM okc), ?_⟩; conv => whnf)
      refine ⟨_, _, rfl, i, off + i * 20, rfl, by omega, rfl, ?_⟩
      conv => whnf
      refine ⟨_, (hmS.o hw2).elem nmC_len hil (by kernel_rfl) (by kernel_rfl), ?_⟩
      conv => whnf
      refine lenIs.of (Nat.succ.inj (nmC_len maps[i])) ?_
      conv => whnf
      have hxl : (nmC maps[i] ++ []).length = 1 * 20 := by rw [List.append_nil, nmC_len]
      refine vFall.append 48 20 48 rfl (by kernel_rfl) rfl (hrow2.alloc _) rfl (Sl.new w2 48 20 (nmC maps[i] ++ []) 1 hxl) (by rw [List.append_nil]; exact fun u hu => cell_of_one (one_nmC _ u hu)) (by omega) (by omega) ?_
      intro A5 c5 F5 w5 hr5 ho5 hF5
      have hal := (Only.refl [] w2).alloc (.cells ⟨nmC maps[i] ++ []⟩ 48)
      conv => whnf
      refine ⟨(i + 1, A5, m + 1, c5), ⟨rfl, congrArg (Value.int .i64) ei, trivial⟩, ⟨by omega, by omega, F5, ?_, (hw2.t0 hal).trans ho5 (fun x hx => .inr (hF x hx)), fun k hk => ?_⟩, by show n1 - (i + 1) < n1 - i; omega⟩
      · refine hr5.cast ?_
        rw [filter_snoc hil, if_pos hag, List.append_nil, List.flatMap_append]
        simp
      · rcases hF5 k hk with h1 | h1
        · exact hF k h1
        · exact Nat.le_trans (hw2.t0 hal).size h1
    · have hag : (!aged now maps[i].used cf.life) = false := by
        unfold aged
        rw [decide_eq_true (show IntKind.i64.wrap (now - maps[i].used) ≥ cf.life by omega)]
        rfl
      refine vc.N (congrArg Value.bool (decide_eq_false hx)) ?_
      refine vc.S ?_
      conv => whnf
      refine ⟨(i + 1, B, m, d), ⟨rfl, congrArg (Value.int .i64) ei, trivial⟩, ⟨by omega, by omega, F, ?_, hw2, hF⟩, by show n1 - (i + 1) < n1 - i; omega⟩
      refine hrow2.cast ?_
      rw [filter_snoc hil, hag]
      simp
  · have ht : ¬ (i : Int) < (n1 : Int) := ht
    obtain rfl : i = n1 := by omega
    rw [List.take_of_length_le (by omega)] at hrow
    have nF : ∀ k ∈ F, k ∉ [T] := fun k hk h => by
      obtain rfl : k = T := by simpa using h
      have := hF _ hk
      omega
    conv => whnf
    refine vStore.one hbr (by kernel_rfl) rfl (i := 42) (u := .slice A1 i c1) ((nat_tail okc 7).trans rfl) (fun hb2 hoS2 => ?_)
    rw [natC_setM okc] at hb2
    have hrow2 := hrow.only hoS2 nF
    have hoSo2 := (hoSo.o ho).only hoS2 t2
    have hoSi2 := (hoSi.o ho).only hoS2 t3
    obtain ⟨w2, hw2⟩ : ∃ w2, wr.setCell ⟨T, 42, none⟩ (.slice B m d) = w2 := ⟨_, rfl⟩
    have how2 : Only [T] w w2 := by
      rw [← hw2]
      exact (hoS.f0 ho).ff hoS2
    rw [hw2] at hb2 hrow2 hoSo2 hoSi2 hoS2
    conv => whnf
    rw [hw2]
    (refine ⟨_, Loads.one (by kernel_rfl) (hb2.ntO okc), ?_⟩; conv => whnf)
    refine (rlives_does hb2 okc hoSo2 (by omega)).mono ?_
    rintro v w3 ⟨AO, nO, cO, FO, rfl, hrO, ho3, hFO⟩
    have hb3 := hb2.only ho3 (by simp)
    have nFO : ∀ k ∈ FO, k ∉ [T] := fun k hk h => by
      obtain rfl : k = T := by simpa using h
      have := hFO _ hk
      have := hb2.lt
      omega
    conv => whnf
    refine vStore.one hb3 (by kernel_rfl) rfl (i := 43) (u := .slice A2 n2 c2) ((nat_tail okc 8).trans rfl) (fun hb4 hoS4 => ?_)
    rw [natC_setO okc] at hb4
    have hrow4 := (hrow2.only ho3 (by simp)).only hoS4 nF
    have hrO4 := hrO.only hoS4 nFO
    have hoSi4 := (hoSi2.o ho3).only hoS4 t3
    obtain ⟨w4, hw4⟩ : ∃ w4, w3.setCell ⟨T, 43, none⟩ (.slice AO nO cO) = w4 := ⟨_, rfl⟩
    have how4 : Only [T] w w4 := by
      rw [← hw4]
      exact (how2.f0 ho3).ff hoS4
    rw [hw4] at hb4 hrow4 hrO4 hoSi4 hoS4
    conv => whnf
    rw [hw4]
    (refine ⟨_, Loads.one (by kernel_rfl) (hb4.ntI okc), ?_⟩; conv => whnf)
    refine (rlives_does hb4 okc hoSi4 (by omega)).mono ?_
    rintro v w5 ⟨AI, nI, cI, FI, rfl, hrI, ho5, hFI⟩
    have hb5 := hb4.only ho5 (by simp)
    have nFI : ∀ k ∈ FI, k ∉ [T] := fun k hk h => by
      obtain rfl : k = T := by simpa using h
      have := hFI _ hk
      have := hb4.lt
      omega
    conv => whnf
    refine vStore.one hb5 (by kernel_rfl) rfl (i := 44) (u := .slice A3 n3 c3) ((nat_tail okc 9).trans rfl) (fun hb6 hoS6 => ?_)
    rw [natC_setI okc] at hb6
    have hrow6 := (hrow4.only ho5 (by simp)).only hoS6 nF
    have hrO6 := (hrO4.only ho5 (by simp)).only hoS6 nFO
    have hrI6 := hrI.only hoS6 nFI
    have how6 := (how4.f0 ho5).ff hoS6
    have z1 := hoS.size
    have z2 := ho.size
    have z3 := hoS2.size
    have z4 := ho3.size
    have z5 := hoS4.size
    have z6 := ho5.size
    have lrow := hrow.lt
    have lO := hrO.lt
    conv => whnf
    refine ⟨rfl, T :: (F ++ (FO ++ FI)), ⟨B, m, d, F, AO, nO, cO, FO, AI, nI, cI, FI, ⟨hb6, hrow6, hrO6.sl, hrI6.sl, ?_, ?_, ?_, ?_, hrO6.lt, hrI6.lt⟩, rfl⟩, how6, ?_⟩
    · exact fun hk => nFO T hk (by simp)
    · exact fun hk => nFI T hk (by simp)
    · intro k hk hk2
      have a1 := lrow k hk
      have a2 := hFO k hk2
      omega
    · intro k hk hk2
      have a1 := lrow k hk
      have a2 := hFI k hk2
      omega
    · intro k hk
      simp only [List.mem_cons, List.mem_append] at hk
      rcases hk with rfl | hk | hk | hk
      · exact .inl (by simp)
      · exact .inr (by have := hF k hk; omega)
      · exact .inr (by have := hFO k hk; omega)
      · exact .inr (by have := hFI k hk; omega)
end Go.Proofs.YtofomopdaponbaaGreatDoor
/-
  The document's nat (mosaicref30): noted, Notes, May, New.
-/
namespace Go.Proofs.YtofomopdaponbaaGreatDoor
open Go.RowKit
set_option linter.unusedVariables false
set_option linter.unusedSimpArgs false

set_option maxHeartbeats 4000000 in
set_option maxRecDepth 100000 in
theorem rnoted_does {w : World} {T : Nat} {t : TypeId} {c : Cf} {now : Int} {M O I : Value} {A : Option Addr} {n cc : Nat} {G : List Nat} {z : List Nt} {k : Ky} {a : Ad} (hb : Blk w T t ⟨natC c now M O I⟩) (ok : okCf c) (hz : Sl w 55 G A n (z.flatMap ntC)) (hk : okKy k) (ha : okAd a) (okz : ∀ x ∈ z, okKy x.key ∧ okAd x.addr) (hn : n ≤ 1000000) (hp : 1 ≤ c.parts) :
    Does Tryz.prog 118 [.pointer (some ⟨T, 0, none⟩), .slice A n cc, .agg ⟨kyC k⟩, .agg ⟨adC a⟩] w (fun v w' => ∃ A' n' c' F', v = .slice A' n' c' ∧ Sl w' 55 F' A' n' ((notedL c.parts now z k a).flatMap ntC) ∧ Only [] w w' ∧ ∀ k ∈ F', w.heap.size ≤ k ∧ k < w'.heap.size) := by
  have hzn := hz.num ntC_len (by decide)
  have b6 := (Blk.new w 173 ⟨kyC k⟩).alloc (.cells ⟨adC a⟩ 24)
  have b7 := Blk.new (w.alloc (.cells ⟨kyC k⟩ 173)) 24 ⟨adC a⟩
  have hA := ((Only.refl [] w).alloc (.cells ⟨kyC k⟩ 173)).alloc (.cells ⟨adC a⟩ 24)
  refine Does.enter (fn := Tryz.f118) (by kernel_rfl) rfl (by kernel_rfl) (by kernel_rfl) ?_
  conv => whnf
  refine VLoop.inv (α := Nat × Option Addr × Nat × Nat) [(9, 31)] (fun | (i, B, m, d) => [(9, .slice B m d), (10, .int .i64 (i : Nat))]) (fun | (i, B, m, d) => fun w' => i ≤ n ∧ m ≤ i ∧ ∃ F, Row w' 226 55 F B m d (((z.take i).filter (fun x => !decide (x.key = k))).flatMap ntC) ∧ Only [] ((w.alloc (.cells ⟨kyC k⟩ 173)).alloc (.cells ⟨adC a⟩ 24)) w' ∧ ∀ k' ∈ F, ((w.alloc (.cells ⟨kyC k⟩ 173)).alloc (.cells ⟨adC a⟩ 24)).heap.size ≤ k') (fun | (i, B, m, d) => n - i) (0, none, 0, 0) (by kernel_rfl) ⟨rfl, rfl, trivial⟩ ⟨Nat.zero_le _, Nat.le_refl _, [], Row.nil _ _ _ _, Only.refl _ _, by simp⟩ ?_
  rintro ⟨i, B, m, d⟩ wr j ⟨hi, hm, F, hrow, ho, hF⟩
  have how := hA.t0 ho
  have b6r := b6.only ho (by simp)
  have b7r := b7.only ho (by simp)
  have hbr := hb.only how (by simp)
  have hzr := hz.o how
  have ei : IntKind.i64.wrap ((i : Int) + 1) = ((i + 1 : Nat) : Int) := by rw [wi64]; omega
  conv => whnf
  refine VIf.dec (fun ht => ?_) (fun ht => ?_)
  · have ht : (i : Int) < (n : Int) := ht
    have hil : i < z.length := by omega
    obtain ⟨b, off, rfl, -⟩ := hz.some_ (by omega)
    have okx := okz _ (List.getElem_mem hil)
    conv => whnf
    refine VDraw.abs fun N2 hN2 => ?_
    refine VDraw.q (by kernel_rfl) (by kernel_rfl) ?_
    conv => whnf
    refine ⟨_, _, rfl, i, off + i * 55, rfl, by omega, rfl, ?_⟩
    conv => whnf
    refine ⟨_, fun w' hw' => (hzr.o hw').sub ntC_len hil (ntC_key _) rfl (by kernel_rfl) (by rw [kyC_len]; kernel_rfl), ?_⟩
    conv => whnf
    refine ⟨_, fun w' hw' => Loads.all (b6r.only hw' (by simp)) (by kernel_rfl) (by rw [kyC_len]; kernel_rfl), ?_⟩
    conv => whnf
    refine ⟨_, eql_ky okx.1 hk _ _, ?_⟩
    conv => whnf
    intro w2 ho2
    conv => whnf
    refine hN2 _ _ ?_
    have hw2 := how.t0 ho2
    have ho2a := ho.t0 ho2
    have hrow2 := hrow.only ho2 (by simp)
    by_cases hx : z[i].key = k
    · have hag : (!decide (z[i].key = k)) = false := by rw [decide_eq_true hx]; rfl
      refine vc.N (congrArg Value.bool hag) ?_
      refine vc.S ?_
      conv => whnf
      refine ⟨(i + 1, B, m, d), ⟨rfl, congrArg (Value.int .i64) ei, trivial⟩, ⟨by omega, by omega, F, ?_, ho2a, hF⟩, by show n - (i + 1) < n - i; omega⟩
      refine hrow2.cast ?_
      rw [filter_snoc hil, hag]
      simp
    · have hag : (!decide (z[i].key = k)) = true := by rw [decide_eq_false hx]; rfl
      refine vc.T (congrArg Value.bool hag) ?_
      conv => whnf
      refine ⟨_, _, rfl, i, off + i * 55, rfl, by omega, rfl, ?_⟩
      conv => whnf
      refine ⟨_, (hz.o hw2).elem ntC_len hil (by kernel_rfl) (by kernel_rfl), ?_⟩
      conv => whnf
      refine lenIs.of (Nat.succ.inj (Nat.succ.inj (ntC_len z[i]))) ?_
      conv => whnf
      have hxl : (ntC z[i] ++ []).length = 1 * 55 := by rw [List.append_nil, ntC_len]
      refine vFall.append 226 55 104 rfl (by kernel_rfl) rfl (hrow2.alloc _) rfl (Sl.new w2 226 55 (ntC z[i] ++ []) 1 hxl) (by rw [List.append_nil]; exact fun u hu => cell_of_one (one_ntC _ u hu)) (by omega) (by omega) ?_
      intro A5 c5 F5 w5 hr5 ho5 hF5
      have hal := (Only.refl [] w2).alloc (.cells ⟨ntC z[i] ++ []⟩ 226)
      have hs2 := hA.size
      conv => whnf
      refine ⟨(i + 1, A5, m + 1, c5), ⟨rfl, congrArg (Value.int .i64) ei, trivial⟩, ⟨by omega, by omega, F5, ?_, ?_, fun k hk => ?_⟩, by show n - (i + 1) < n - i; omega⟩
      · refine hr5.cast ?_
        rw [filter_snoc hil, if_pos hag, List.append_nil, List.flatMap_append]
        simp
      · exact (ho2a.t0 hal).trans ho5 (fun x hx => .inr (hF x hx))
      · rcases hF5 k hk with h1 | h1
        · exact hF k h1
        · exact Nat.le_trans (ho2a.t0 hal).size h1
  have ht : ¬ (i : Int) < (n : Int) := ht
  obtain rfl : i = n := by omega
  rw [List.take_of_length_le (by omega)] at hrow
  have lrow := hrow.lt
  conv => whnf
  refine VDraw.abs fun N1 hN1 => ?_
  refine VDraw.held (fun w' => Blk w' w.heap.size 173 ⟨kyC k⟩ ∧ Blk w' (w.alloc (.cells ⟨kyC k⟩ 173)).heap.size 24 ⟨adC a⟩ ∧ Blk w' T t ⟨natC c now M O I⟩) [0, 1, 2, 3, 4, 5, 6, 7, 8, 9, 10] (by kernel_rfl) (by kernel_rfl) ⟨b6r.drew, b7r.drew, hbr.drew⟩ ?_
  conv => whnf
  refine ⟨_, fun w' hw' => Loads.all hw'.1 (by kernel_rfl) (by rw [kyC_len]; kernel_rfl), ?_⟩
  conv => whnf
  refine ⟨_, fun w' hw' => Loads.all hw'.2.1 (by kernel_rfl) (by rw [adC_len ha]; kernel_rfl), ?_⟩
  conv => whnf
  (refine ⟨_, fun w' hw' => Loads.one (by kernel_rfl) (hw'.2.2.ntNow ok), ?_⟩; conv => whnf)
  refine lenIs.of (Nat.succ.inj (Nat.succ.inj (kyC_len k))) ?_
  conv => whnf
  refine lenIs.of (by rw [List.length_map]; exact ha.2.2) ?_
  conv => whnf
  have ex : (kyC k ++ (adC a ++ [Value.int .i64 now])) ++ [] = ntC ⟨k, a, now⟩ := by simp [ntC, adP_id ha]
  have e55 : ((kyC k ++ (adC a ++ [Value.int .i64 now])) ++ []).length = 55 := by rw [ex, ntC_len]
  have e56 : (kyC k ++ (adC a ++ [Value.int .i64 now])).length = 55 := by rw [← e55]; simp
  refine lenIs.of (Nat.succ.inj (Nat.succ.inj e56)) ?_
  conv => whnf
  refine ⟨⟨b6r.drew.alloc _, b7r.drew.alloc _, hbr.drew.alloc _⟩, ?_⟩
  conv => whnf
  refine vFall.append 226 55 104 rfl (by kernel_rfl) rfl (hrow.drew.alloc _) rfl (Sl.new wr.drew 226 55 ((kyC k ++ (adC a ++ [Value.int .i64 now])) ++ []) 1 e55) (by rw [ex]; exact fun u hu => cell_of_one (one_ntC _ u hu)) (by omega) (by omega) ?_
  intro A5 c5 F5 w5 hr5 ho5 hF5
  have hal := (Only.refl [] wr.drew).alloc (.cells ⟨(kyC k ++ (adC a ++ [Value.int .i64 now])) ++ []⟩ 226)
  have hoA : Only F wr.drew w5 := hal.zf ho5
  have how5 : Only F ((w.alloc (.cells ⟨kyC k⟩ 173)).alloc (.cells ⟨adC a⟩ 24)) w5 := (ho.drew).zf hoA
  have nF : ∀ {x : Nat}, x < ((w.alloc (.cells ⟨kyC k⟩ 173)).alloc (.cells ⟨adC a⟩ 24)).heap.size → x ∉ F := fun hx hm => by
    have := hF _ hm
    omega
  have hw05 : Only [] w w5 := hA.trans how5 (fun x hx => .inr (Nat.le_trans hA.size (hF x hx)))
  have hb5 := hb.only hw05 (by simp)
  refine ⟨⟨b6r.drew.only hoA (nF b6.lt), b7r.drew.only hoA (nF b7.lt), hb5⟩, ?_⟩
  have hr5' := hr5.cast (ys := (z.filter (fun x => !decide (x.key = k)) ++ [(⟨k, a, now⟩ : Nt)]).flatMap ntC) (by rw [ex]; simp)
  generalize hy : z.filter (fun x => !decide (x.key = k)) ++ [(⟨k, a, now⟩ : Nt)] = y at hr5'
  have hyl : y.length = m + 1 := hr5'.sl.num ntC_len (by decide)
  have lr5 := hr5'.lt
  have hle := hr5'.le
  have hF5' : ∀ k' ∈ F5, w.heap.size ≤ k' ∧ k' < w5.heap.size := fun k' hk' => by
    refine ⟨?_, lr5 k' hk'⟩
    have h0 := hA.size
    rcases hF5 k' hk' with h | h
    · exact Nat.le_trans h0 (hF k' h)
    · exact Nat.le_trans (how.drew.t0 hal).size h
  have hres : notedL c.parts now z k a = if (y.length : Int) > c.parts then y.drop 1 else y := by rw [← hy]; rfl
  conv => whnf
  refine hN1 _ _ ?_
  conv => whnf
  refine VJoin.go (by kernel_rfl) ?_
  conv => whnf
  (refine ⟨_, Loads.one (by kernel_rfl) (hb5.ntParts ok), ?_⟩; conv => whnf)
  refine VIf.dec (fun ht => ?_) (fun ht => ?_)
  · have ht : ((m + 1 : Nat) : Int) > c.parts := ht
    conv => whnf
    refine ⟨1, m + 1, c5, rfl, rfl, rfl, by omega, hle.1, Nat.le_refl _, if c5 = 1 then A5 else A5.map (·.add (1 * 55)), m + 1 - 1, c5 - 1, rfl, rfl, rfl, ?_⟩
    conv => whnf
    refine ⟨_, _, _, F5, rfl, ?_, hw05, hF5'⟩
    rw [hres, if_pos (show (y.length : Int) > c.parts by omega)]
    refine (hr5'.sl.cut (l := 1) (h := m + 1) (m := c5) (by omega) hle.1 (Nat.le_refl _) rfl).cast ?_
    rw [drop_flat ntC_len, List.take_of_length_le]
    rw [flat_len ntC_len, List.length_drop]
    omega
  · have ht : ¬ ((m + 1 : Nat) : Int) > c.parts := ht
    conv => whnf
    refine ⟨_, _, _, F5, rfl, ?_, hw05, hF5'⟩
    rw [hres, if_neg (show ¬ (y.length : Int) > c.parts by omega)]
    exact hr5'.sl
set_option maxRecDepth 100000 in
theorem rnotes_does {w : World} {T : Nat} {s : NatS} {F : List Nat} (h : St30 w T s F) (ok : okS s) :
    Does Tryz.prog 46 [.pointer (some ⟨T, 0, none⟩)] w (fun v w' => v = .tuple ⟨[.int .i64 s.outs.length, .int .i64 s.ins.length]⟩ ∧ Only [] w w') := by
  obtain ⟨A1, n1, c1, F1, A2, n2, c2, F2, A3, n3, c3, F3, hr, rfl⟩ := h
  have okc := ok.cf
  have e2 : s.outs.length = n2 := hr.o.num ntC_len (by decide)
  have e3 : s.ins.length = n3 := hr.i.num ntC_len (by decide)
  rw [e2, e3]
  have hb := hr.b
  refine Does.enter (fn := Tryz.f46) (by kernel_rfl) rfl (by kernel_rfl) (by kernel_rfl) ?_
  conv => whnf
  refine VDraw.q (by kernel_rfl) (by kernel_rfl) ?_
  conv => whnf
  (refine ⟨_, fun w' hw' => Loads.one (by kernel_rfl) ((hb.only hw' (by simp)).ntO okc), ?_⟩; conv => whnf)
  (refine ⟨_, fun w' hw' => Loads.one (by kernel_rfl) ((hb.only hw' (by simp)).ntI okc), ?_⟩; conv => whnf)
  intro w2 ho2
  conv => whnf
  exact ⟨rfl, ho2⟩
set_option maxHeartbeats 4000000 in
set_option maxRecDepth 100000 in
theorem rmay_does {w : World} {c : Cf} (ok : okCf c) : Does Tryz.prog 43 [.agg ⟨cfC c⟩] w (fun v w' => v = .bool (mayB c) ∧ Only [] w w') := by
  have okm := maskA_ok ok.net c.bits
  have hA := Only.alloc (Only.refl [] w) (.cells ⟨cfC c⟩ 26)
  have b1 := Blk.new w 26 ⟨cfC c⟩
  refine Does.enter (fn := Tryz.f43) (by kernel_rfl) rfl (by kernel_rfl) (by kernel_rfl) ?_
  refine vc.abs fun N0 hN0 => ?_
  conv => whnf
  refine hN0 _ _ ?_
  refine vc.abs fun N1 hN1 => ?_
  conv => whnf
  refine ⟨_, b1.cfNet ok, ?_⟩
  conv => whnf
  (refine ⟨_, Loads.one (by kernel_rfl) (b1.cfBits ok), ?_⟩; conv => whnf)
  (refine (rmask_does ok.net).mono ?_; rintro v w2 ⟨rfl, ho2⟩)
  have b1 := b1.only ho2 (by simp)
  have how := hA.t0 ho2
  conv => whnf
  refine vStore.fresh (cs := adC (maskA c.net c.bits)) (by rw [adC_len okm]; kernel_rfl) (by rw [adC_len okm]; rfl) (one_adC _) (fun w3 b3 ho3 hz3 => ?_)
  have b1 := b1.only ho3 (by simp)
  have how := how.t0 ho3
  conv => whnf
  refine hN1 _ _ ?_
  refine vc.abs2 rfl fun N2 hN2 => ?_
  conv => whnf
  (refine ⟨_, Loads.one (by kernel_rfl) (b1.cfNetV), ?_⟩; conv => whnf)
  refine VIf.ne (fun h1 => ?_) (fun h1 => ?_)
  · conv => whnf
    refine hN2 _ _ ?_
    conv => whnf
    exact ⟨congrArg Value.bool (by unfold mayB; rw [decide_eq_false h1]; simp), how⟩
  conv => whnf
  refine VIf.ne (fun h2 => ?_) (fun h2 => ?_)
  · conv => whnf
    refine hN2 _ _ ?_
    conv => whnf
    exact ⟨congrArg Value.bool (by unfold mayB; rw [decide_eq_false h2]; simp), how⟩
  conv => whnf
  refine ⟨_, Loads.all b3 (by kernel_rfl) (by rw [adC_len okm]; kernel_rfl), ?_⟩
  conv => whnf
  refine ⟨_, b1.cfNet ok, ?_⟩
  conv => whnf
  refine ⟨_, eql_ad okm ok.net _ _, ?_⟩
  conv => whnf
  refine VIf.not (VIf.of (b := decide (maskA c.net c.bits = c.net)) (fun h3 => ?_) (fun h3 => ?_))
  rotate_left
  · conv => whnf
    refine hN2 _ _ ?_
    conv => whnf
    exact ⟨congrArg Value.bool (by unfold mayB; rw [h3]; simp), how⟩
  conv => whnf
  refine ⟨_, b1.cfOutside ok, ?_⟩
  conv => whnf
  (refine (rplain_does ok.outside).mono ?_; rintro v w4 ⟨rfl, ho4⟩)
  have b1 := b1.only ho4 (by simp)
  have how := how.t0 ho4
  conv => whnf
  refine VIf.not (VIf.of (b := plainA c.outside) (fun h4 => ?_) (fun h4 => ?_))
  rotate_left
  · conv => whnf
    refine hN2 _ _ ?_
    conv => whnf
    refine ⟨congrArg Value.bool ?_, how⟩
    unfold plainA at h4
    unfold mayB
    by_cases h5 : c.outside.1 = 4
    · rw [decide_eq_true h5, Bool.true_and] at h4
      rw [h4]
      simp
    · rw [decide_eq_false h5]
      simp
  have h45 : decide (c.outside.1 = 4) = true ∧ decide (kindA c.outside = 5) = true := by
    unfold plainA at h4
    rwa [Bool.and_eq_true] at h4
  conv => whnf
  refine ⟨_, b1.cfOutside ok, ?_⟩
  conv => whnf
  refine ⟨_, b1.cfNet ok, ?_⟩
  conv => whnf
  (refine ⟨_, Loads.one (by kernel_rfl) (b1.cfBits ok), ?_⟩; conv => whnf)
  (refine (rwithin_does ok.outside ok.net).mono ?_; rintro v w5 ⟨rfl, ho5⟩)
  rw [rwithin_eq ok.outside ok.net]
  have b1 := b1.only ho5 (by simp)
  have how := how.t0 ho5
  conv => whnf
  refine hN2 _ _ ?_
  conv => whnf
  refine VIf.of (b := withinA c.outside c.net c.bits) (fun h6 => ?_) (fun h6 => ?_)
  · conv => whnf
    exact ⟨congrArg Value.bool (by unfold mayB; rw [h6]; simp), how⟩
  clear hN2 N2 hN1 N1 hN0 N0
  refine vc.S ?_
  refine vc.abs2 rfl fun N3 hN3 => ?_
  conv => whnf
  (refine ⟨_, Loads.one (by kernel_rfl) (b1.at (i := 35) ((cf_tail ok 0).trans rfl)), ?_⟩; conv => whnf)
  refine VIf.dec (fun g1 => ?_) (fun g1 => ?_)
  · have e : decide (1 ≤ c.first) = false := by simp; omega
    conv => whnf
    refine hN3 _ _ ?_
    conv => whnf
    exact ⟨congrArg Value.bool (by unfold mayB; rw [e]; simp), how⟩
  conv => whnf
  (refine ⟨_, Loads.one (by kernel_rfl) (b1.at (i := 36) ((cf_tail ok 1).trans rfl)), ?_⟩; conv => whnf)
  refine VIf.dec (fun g2 => ?_) (fun g2 => ?_)
  · have e : decide (c.last ≤ 65535) = false := by simp; omega
    conv => whnf
    refine hN3 _ _ ?_
    conv => whnf
    exact ⟨congrArg Value.bool (by unfold mayB; rw [e]; simp), how⟩
  conv => whnf
  (refine ⟨_, Loads.one (by kernel_rfl) (b1.at (i := 36) ((cf_tail ok 1).trans rfl)), ?_⟩; conv => whnf)
  (refine ⟨_, Loads.one (by kernel_rfl) (b1.at (i := 35) ((cf_tail ok 0).trans rfl)), ?_⟩; conv => whnf)
  refine VIf.dec (fun g3 => ?_) (fun g3 => ?_)
  · have e : decide (c.first ≤ c.last) = false := by simp; omega
    conv => whnf
    refine hN3 _ _ ?_
    conv => whnf
    exact ⟨congrArg Value.bool (by unfold mayB; rw [e]; simp), how⟩
  conv => whnf
  (refine ⟨_, Loads.one (by kernel_rfl) (b1.at (i := 37) ((cf_tail ok 2).trans rfl)), ?_⟩; conv => whnf)
  refine VIf.dec (fun g4 => ?_) (fun g4 => ?_)
  · have e : betweenI c.life 1 1099511627776 = false := by simp [betweenI]; omega
    conv => whnf
    refine hN3 _ _ ?_
    conv => whnf
    exact ⟨congrArg Value.bool (by unfold mayB; rw [e]; simp), how⟩
  conv => whnf
  (refine ⟨_, Loads.one (by kernel_rfl) (b1.at (i := 37) ((cf_tail ok 2).trans rfl)), ?_⟩; conv => whnf)
  refine VIf.dec (fun g5 => ?_) (fun g5 => ?_)
  · have e : betweenI c.life 1 1099511627776 = false := by simp [betweenI]; omega
    conv => whnf
    refine hN3 _ _ ?_
    conv => whnf
    exact ⟨congrArg Value.bool (by unfold mayB; rw [e]; simp), how⟩
  conv => whnf
  (refine ⟨_, Loads.one (by kernel_rfl) (b1.at (i := 40) ((cf_tail ok 5).trans rfl)), ?_⟩; conv => whnf)
  refine VIf.dec (fun g6 => ?_) (fun g6 => ?_)
  · have e : betweenI c.hold 1 1099511627776 = false := by simp [betweenI]; omega
    conv => whnf
    refine hN3 _ _ ?_
    conv => whnf
    exact ⟨congrArg Value.bool (by unfold mayB; rw [e]; simp), how⟩
  conv => whnf
  (refine ⟨_, Loads.one (by kernel_rfl) (b1.at (i := 40) ((cf_tail ok 5).trans rfl)), ?_⟩; conv => whnf)
  refine hN3 _ _ ?_
  conv => whnf
  refine VIf.dec (fun g7 => ?_) (fun g7 => ?_)
  · have e : betweenI c.hold 1 1099511627776 = false := by simp [betweenI]; omega
    conv => whnf
    exact ⟨congrArg Value.bool (by unfold mayB; rw [e]; simp), how⟩
  have hM : mayB c = (betweenI c.maps 1 256 && betweenI c.parts 1 64) := by
    have x7 : betweenI c.life 1 1099511627776 = true := by simp [betweenI]; omega
    have x8 : betweenI c.hold 1 1099511627776 = true := by simp [betweenI]; omega
    unfold mayB
    rw [decide_eq_true h1, decide_eq_true h2, h3, h45.1, h45.2, h6, decide_eq_true (show 1 ≤ c.first by omega), decide_eq_true (show c.last ≤ 65535 by omega), decide_eq_true (show c.first ≤ c.last by omega), x7, x8]
    rfl
  rw [hM]
  clear hN3 N3
  conv => whnf
  (refine ⟨_, Loads.one (by kernel_rfl) (b1.at (i := 38) ((cf_tail ok 3).trans rfl)), ?_⟩; conv => whnf)
  refine VIf.dec (fun k1 => ?_) (fun k1 => ?_)
  rotate_left
  · conv => whnf
    exact ⟨congrArg Value.bool (by simp [betweenI]; omega), how⟩
  conv => whnf
  (refine ⟨_, Loads.one (by kernel_rfl) (b1.at (i := 38) ((cf_tail ok 3).trans rfl)), ?_⟩; conv => whnf)
  refine VIf.dec (fun k2 => ?_) (fun k2 => ?_)
  rotate_left
  · conv => whnf
    exact ⟨congrArg Value.bool (by simp [betweenI]; omega), how⟩
  have y1 : betweenI c.maps 1 256 = true := by simp [betweenI]; omega
  conv => whnf
  (refine ⟨_, Loads.one (by kernel_rfl) (b1.at (i := 39) ((cf_tail ok 4).trans rfl)), ?_⟩; conv => whnf)
  refine VIf.dec (fun k3 => ?_) (fun k3 => ?_)
  rotate_left
  · conv => whnf
    exact ⟨congrArg Value.bool (by simp [betweenI]; omega), how⟩
  conv => whnf
  (refine ⟨_, Loads.one (by kernel_rfl) (b1.at (i := 39) ((cf_tail ok 4).trans rfl)), ?_⟩; conv => whnf)
  refine ⟨congrArg Value.bool ?_, how⟩
  rw [y1, Bool.true_and]
  unfold betweenI
  rw [decide_eq_true (show c.parts ≥ 1 by omega), Bool.true_and]
set_option maxRecDepth 100000 in
theorem rnew_does {w : World} {c : Cf} (ok : okCf c) : Does Tryz.prog 12 [.agg ⟨cfC c⟩] w (fun v w' => Only [] w w' ∧ ((mayB c = false ∧ v = .tuple ⟨[.pointer none, .int .i64 1]⟩) ∨
    (mayB c = true ∧ ∃ T, v = .tuple ⟨[.pointer (some ⟨T, 0, none⟩), .int .i64 0]⟩ ∧ w.heap.size ≤ T ∧ St30 w' T (newS c) [T]))) := by
  have hA := Only.alloc (Only.refl [] w) (.cells ⟨cfC c⟩ 26)
  have b1 := Blk.new w 26 ⟨cfC c⟩
  refine Does.enter (fn := Tryz.f12) (by kernel_rfl) rfl (by kernel_rfl) (by kernel_rfl) ?_
  conv => whnf
  refine ⟨_, Loads.all b1 (by kernel_rfl) (by rw [cf_len ok]; kernel_rfl), ?_⟩
  conv => whnf
  (refine (rmay_does ok).mono ?_; rintro v w2 ⟨rfl, ho2⟩)
  have b12 := b1.only ho2 (by simp)
  have how := hA.t0 ho2
  conv => whnf
  refine VIf.not (VIf.of (b := mayB c) (fun h1 => ?_) (fun h1 => ?_))
  rotate_left
  · conv => whnf
    exact ⟨how, .inl ⟨h1, rfl⟩⟩
  conv => whnf
  refine ⟨_, Loads.all b12 (by kernel_rfl) (by rw [cf_len ok]; kernel_rfl), ?_⟩
  have hlen : (cfC c).length = 41 := cf_len ok
  conv => whnf
  refine lenIs.of (Nat.succ.inj hlen) ?_
  conv => whnf
  refine ⟨how.alloc _, .inr ⟨h1, w2.heap.size, rfl, how.size, none, 0, 0, [], none, 0, 0, [], none, 0, 0, [], ⟨?_, Row.nil _ _ _ _, Sl.nil _ _ _ _, Sl.nil _ _ _ _, by simp, by simp, by simp, by simp, by simp, by simp⟩, rfl⟩⟩
  show Blk _ _ _ ⟨natC c 0 (.slice none 0 0) (.slice none 0 0) (.slice none 0 0)⟩
  rw [natC_cf]
  exact Blk.new w2 106 _
end Go.Proofs.YtofomopdaponbaaGreatDoor
