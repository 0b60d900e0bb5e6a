/-
  May the bytes differ at a place? (differs); a nat with so many ports (wide).
-/
import Derived.Test.YtofomopdaponbaaGreatDoorYNva
namespace Go.Proofs.YtofomopdaponbaaGreatDoor
open Go.RowKit
set_option linter.unusedVariables false
set_option linter.unusedSimpArgs false

def fromN (inn : Bool) : Nat := if inn = true then 16 else 12
def portN (inn : Bool) (h : Nat) : Nat := if inn = true then h + 2 else h
def diff1 (k : Nat) (inn : Bool) : Bool := (decide (fromN inn ≤ k) && decide (k < fromN inn + 4)) || decide (k = 10) || decide (k = 11)
def diff2 (k h : Nat) : Bool := (decide (h + 2 ≤ k) && decide (k < h + 4)) || decide (h + 8 ≤ k)
def diff3 (k h : Nat) (inn : Bool) (off : Int) : Bool := decide (off = 0) && ((decide (portN inn h ≤ k) && decide (k < portN inn h + 2)) || (decide (h + 6 ≤ k) && decide (k < h + 8)))
def differsB (k h : Nat) (inn : Bool) (proto off : Int) : Bool := if diff1 k inn = true then true else if proto = 1 then diff2 k h else diff3 k h inn off
theorem nadd_e {n k : Nat} (h : n ≤ 2 ^ 48) (hk : k ≤ 2 ^ 48) : IntKind.i64.wrap ((n : Int) + (k : Int)) = ((n + k : Nat) : Int) := by rw [wi64]; omega
set_option maxRecDepth 100000 in
theorem differs_does {w : World} {k h : Nat} {inn : Bool} {proto off : Int} (hk : k ≤ 2 ^ 48) (hh : h ≤ 2 ^ 47) :
    Does Tryz.prog 22 [.int .i64 k, .int .i64 h, .bool inn, .int .i64 proto, .int .i64 off] w (fun v w' => v = .bool (differsB k h inn proto off) ∧ w = w') := by
  have e4 := nadd_e (n := fromN inn) (k := 4) (by unfold fromN; split <;> decide) (by decide)
  have e2 := nadd_e (n := h) (k := 2) (by omega) (by decide)
  have e44 := nadd_e (n := h) (k := 4) (by omega) (by decide)
  have e6 := nadd_e (n := h) (k := 6) (by omega) (by decide)
  have e8 := nadd_e (n := h) (k := 8) (by omega) (by decide)
  have hpn : portN inn h ≤ 2 ^ 47 + 2 := by unfold portN; split <;> omega
  have ep := nadd_e (n := portN inn h) (k := 2) (by omega) (by decide)
  refine Does.enter (fn := Tryz.f22) (by kernel_rfl) rfl (by kernel_rfl) (by kernel_rfl) ?_
  conv => whnf
  refine VJoin.cut (α := Unit) [(11, 12), (13, 14)] (fun _ => [(11, .int .i64 (fromN inn))]) (fun _ w' => w' = w) (by kernel_rfl) ?_ ?_
  · conv => whnf
    refine VIf.of (b := inn) (fun hi => ?_) (fun hi => ?_)
    · conv => whnf
      exact ⟨(), ⟨congrArg (Value.int .i64) (by rw [hi]; rfl), trivial⟩, rfl⟩
    · conv => whnf
      exact ⟨(), ⟨congrArg (Value.int .i64) (by rw [hi]; rfl), trivial⟩, rfl⟩
  rintro _ wr j rfl
  conv => whnf
  refine VIf.dec (fun h1 => ?_) (fun h1 => ?_)
  · have h1 : fromN inn ≤ k := Int.ofNat_le.1 h1
    conv => whnf
    refine VIf.dec (fun h2 => ?_) (fun h2 => ?_)
    · have h2 : k < fromN inn + 4 := Int.ofNat_lt.1 (Int.lt_of_lt_of_le h2 (Int.le_of_eq (e4)))
      conv => whnf
      refine ⟨congrArg Value.bool ?_, rfl⟩
      rw [Bool.eq_iff_iff]
      simp [differsB, diff1, diff2, diff3]
      try omega
    have h2 : ¬ (k < fromN inn + 4) := fun hx => h2 (Int.lt_of_lt_of_le (Int.ofNat_lt.2 hx) (Int.le_of_eq (e4).symm))
    conv => whnf
    refine VIf.dec (fun h3 => ?_) (fun h3 => ?_)
    · have h3 : k = 10 := Int.ofNat_inj.1 h3
      conv => whnf
      refine ⟨congrArg Value.bool ?_, rfl⟩
      rw [Bool.eq_iff_iff]
      simp [differsB, diff1, diff2, diff3]
      try omega
    have h3 : ¬ (k = 10) := fun hx => h3 (congrArg Int.ofNat hx)
    conv => whnf
    refine VIf.dec (fun h4 => ?_) (fun h4 => ?_)
    · have h4 : k = 11 := Int.ofNat_inj.1 h4
      conv => whnf
      refine ⟨congrArg Value.bool ?_, rfl⟩
      rw [Bool.eq_iff_iff]
      simp [differsB, diff1, diff2, diff3]
      try omega
    have h4 : ¬ (k = 11) := fun hx => h4 (congrArg Int.ofNat hx)
    conv => whnf
    refine VIf.eq (fun hp => ?_) (fun hp => ?_)
    · have hp : proto = 1 := hp
      conv => whnf
      refine VIf.dec (fun h5 => ?_) (fun h5 => ?_)
      · have h5 : h + 2 ≤ k := Int.ofNat_le.1 (Int.le_trans (Int.le_of_eq (e2).symm) h5)
        conv => whnf
        refine VIf.dec (fun h6 => ?_) (fun h6 => ?_)
        · have h6 : k < h + 4 := Int.ofNat_lt.1 (Int.lt_of_lt_of_le h6 (Int.le_of_eq (e44)))
          conv => whnf
          refine ⟨congrArg Value.bool ?_, rfl⟩
          rw [Bool.eq_iff_iff]
          simp [differsB, diff1, diff2, diff3, hp]
          try omega
        have h6 : ¬ (k < h + 4) := fun hx => h6 (Int.lt_of_lt_of_le (Int.ofNat_lt.2 hx) (Int.le_of_eq (e44).symm))
        conv => whnf
        refine ⟨congrArg Value.bool ?_, rfl⟩
        show decide ((k : Int) ≥ IntKind.i64.wrap ((h : Int) + 8)) = _
        rw [show IntKind.i64.wrap ((h : Int) + 8) = ((h + 8 : Nat) : Int) from e8]
        rw [Bool.eq_iff_iff]
        simp [differsB, diff1, diff2, diff3, hp]
        try omega
      have h5 : ¬ (h + 2 ≤ k) := fun hx => h5 (Int.le_trans (Int.le_of_eq (e2)) (Int.ofNat_le.2 hx))
      conv => whnf
      refine ⟨congrArg Value.bool ?_, rfl⟩
      show decide ((k : Int) ≥ IntKind.i64.wrap ((h : Int) + 8)) = _
      rw [show IntKind.i64.wrap ((h : Int) + 8) = ((h + 8 : Nat) : Int) from e8]
      rw [Bool.eq_iff_iff]
      simp [differsB, diff1, diff2, diff3, hp]
      try omega
    have hp : ¬ proto = 1 := hp
    conv => whnf
    refine VJoin.cut (α := Unit) [(12, 13), (50, 53)] (fun _ => [(12, .int .i64 (portN inn h))]) (fun _ w' => w' = wr) (by kernel_rfl) ?_ ?_
    · conv => whnf
      refine VIf.of (b := inn) (fun hi => ?_) (fun hi => ?_)
      · conv => whnf
        exact ⟨(), ⟨congrArg (Value.int .i64) (e2.trans (by rw [hi]; rfl)), trivial⟩, rfl⟩
      · conv => whnf
        exact ⟨(), ⟨congrArg (Value.int .i64) (by rw [hi]; rfl), trivial⟩, rfl⟩
    rintro _ wr j rfl
    refine vc.abs fun N1 hN1 => ?_
    conv => whnf
    refine VIf.eq (fun ho => ?_) (fun ho => ?_)
    rotate_left
    · have ho : ¬ off = 0 := ho
      conv => whnf
      refine hN1 _ _ ?_
      conv => whnf
      refine ⟨congrArg Value.bool ?_, rfl⟩
      rw [Bool.eq_iff_iff]
      simp [differsB, diff1, diff2, diff3, hp, ho]
      try omega
    have ho : off = 0 := ho
    conv => whnf
    refine VIf.dec (fun h7 => ?_) (fun h7 => ?_)
    · have h7 : portN inn h ≤ k := Int.ofNat_le.1 h7
      conv => whnf
      refine VIf.dec (fun h8 => ?_) (fun h8 => ?_)
      · have h8 : k < portN inn h + 2 := Int.ofNat_lt.1 (Int.lt_of_lt_of_le h8 (Int.le_of_eq (ep)))
        conv => whnf
        refine hN1 _ _ ?_
        conv => whnf
        refine ⟨congrArg Value.bool ?_, rfl⟩
        rw [Bool.eq_iff_iff]
        simp [differsB, diff1, diff2, diff3, hp, ho]
        try omega
      have h8 : ¬ (k < portN inn h + 2) := fun hx => h8 (Int.lt_of_lt_of_le (Int.ofNat_lt.2 hx) (Int.le_of_eq (ep).symm))
      conv => whnf
      refine VIf.dec (fun h9 => ?_) (fun h9 => ?_)
      · have h9 : h + 6 ≤ k := Int.ofNat_le.1 (Int.le_trans (Int.le_of_eq (e6).symm) h9)
        conv => whnf
        refine hN1 _ _ ?_
        conv => whnf
        refine ⟨congrArg Value.bool ?_, rfl⟩
        show decide ((k : Int) < IntKind.i64.wrap ((h : Int) + 8)) = _
        rw [show IntKind.i64.wrap ((h : Int) + 8) = ((h + 8 : Nat) : Int) from e8]
        rw [Bool.eq_iff_iff]
        simp [differsB, diff1, diff2, diff3, hp, ho]
        try omega
      have h9 : ¬ (h + 6 ≤ k) := fun hx => h9 (Int.le_trans (Int.le_of_eq (e6)) (Int.ofNat_le.2 hx))
      conv => whnf
      refine hN1 _ _ ?_
      conv => whnf
      refine ⟨congrArg Value.bool ?_, rfl⟩
      rw [Bool.eq_iff_iff]
      simp [differsB, diff1, diff2, diff3, hp, ho]
      try omega
    have h7 : ¬ (portN inn h ≤ k) := fun hx => h7 (Int.ofNat_le.2 hx)
    conv => whnf
    refine VIf.dec (fun h10 => ?_) (fun h10 => ?_)
    · have h10 : h + 6 ≤ k := Int.ofNat_le.1 (Int.le_trans (Int.le_of_eq (e6).symm) h10)
      conv => whnf
      refine hN1 _ _ ?_
      conv => whnf
      refine ⟨congrArg Value.bool ?_, rfl⟩
      show decide ((k : Int) < IntKind.i64.wrap ((h : Int) + 8)) = _
      rw [show IntKind.i64.wrap ((h : Int) + 8) = ((h + 8 : Nat) : Int) from e8]
      rw [Bool.eq_iff_iff]
      simp [differsB, diff1, diff2, diff3, hp, ho]
      try omega
    have h10 : ¬ (h + 6 ≤ k) := fun hx => h10 (Int.le_trans (Int.le_of_eq (e6)) (Int.ofNat_le.2 hx))
    conv => whnf
    refine hN1 _ _ ?_
    conv => whnf
    refine ⟨congrArg Value.bool ?_, rfl⟩
    rw [Bool.eq_iff_iff]
    simp [differsB, diff1, diff2, diff3, hp, ho]
    try omega
  have h1 : ¬ (fromN inn ≤ k) := fun hx => h1 (Int.ofNat_le.2 hx)
  conv => whnf
  refine VIf.dec (fun h11 => ?_) (fun h11 => ?_)
  · have h11 : k = 10 := Int.ofNat_inj.1 h11
    conv => whnf
    refine ⟨congrArg Value.bool ?_, rfl⟩
    rw [Bool.eq_iff_iff]
    simp [differsB, diff1, diff2, diff3]
    try omega
  have h11 : ¬ (k = 10) := fun hx => h11 (congrArg Int.ofNat hx)
  conv => whnf
  refine VIf.dec (fun h12 => ?_) (fun h12 => ?_)
  · have h12 : k = 11 := Int.ofNat_inj.1 h12
    conv => whnf
    refine ⟨congrArg Value.bool ?_, rfl⟩
    rw [Bool.eq_iff_iff]
    simp [differsB, diff1, diff2, diff3]
    try omega
  have h12 : ¬ (k = 11) := fun hx => h12 (congrArg Int.ofNat hx)
  conv => whnf
  refine VIf.eq (fun hp => ?_) (fun hp => ?_)
  · have hp : proto = 1 := hp
    conv => whnf
    refine VIf.dec (fun h13 => ?_) (fun h13 => ?_)
    · have h13 : h + 2 ≤ k := Int.ofNat_le.1 (Int.le_trans (Int.le_of_eq (e2).symm) h13)
      conv => whnf
      refine VIf.dec (fun h14 => ?_) (fun h14 => ?_)
      · have h14 : k < h + 4 := Int.ofNat_lt.1 (Int.lt_of_lt_of_le h14 (Int.le_of_eq (e44)))
        conv => whnf
        refine ⟨congrArg Value.bool ?_, rfl⟩
        rw [Bool.eq_iff_iff]
        simp [differsB, diff1, diff2, diff3, hp]
        try omega
      have h14 : ¬ (k < h + 4) := fun hx => h14 (Int.lt_of_lt_of_le (Int.ofNat_lt.2 hx) (Int.le_of_eq (e44).symm))
      conv => whnf
      refine ⟨congrArg Value.bool ?_, rfl⟩
      show decide ((k : Int) ≥ IntKind.i64.wrap ((h : Int) + 8)) = _
      rw [show IntKind.i64.wrap ((h : Int) + 8) = ((h + 8 : Nat) : Int) from e8]
      rw [Bool.eq_iff_iff]
      simp [differsB, diff1, diff2, diff3, hp]
      try omega
    have h13 : ¬ (h + 2 ≤ k) := fun hx => h13 (Int.le_trans (Int.le_of_eq (e2)) (Int.ofNat_le.2 hx))
    conv => whnf
    refine ⟨congrArg Value.bool ?_, rfl⟩
    show decide ((k : Int) ≥ IntKind.i64.wrap ((h : Int) + 8)) = _
    rw [show IntKind.i64.wrap ((h : Int) + 8) = ((h + 8 : Nat) : Int) from e8]
    rw [Bool.eq_iff_iff]
    simp [differsB, diff1, diff2, diff3, hp]
    try omega
  have hp : ¬ proto = 1 := hp
  conv => whnf
  refine VJoin.cut (α := Unit) [(12, 13), (50, 53)] (fun _ => [(12, .int .i64 (portN inn h))]) (fun _ w' => w' = wr) (by kernel_rfl) ?_ ?_
  · conv => whnf
    refine VIf.of (b := inn) (fun hi => ?_) (fun hi => ?_)
    · conv => whnf
      exact ⟨(), ⟨congrArg (Value.int .i64) (e2.trans (by rw [hi]; rfl)), trivial⟩, rfl⟩
    · conv => whnf
      exact ⟨(), ⟨congrArg (Value.int .i64) (by rw [hi]; rfl), trivial⟩, rfl⟩
  rintro _ wr j rfl
  refine vc.abs fun N1 hN1 => ?_
  conv => whnf
  refine VIf.eq (fun ho => ?_) (fun ho => ?_)
  rotate_left
  · have ho : ¬ off = 0 := ho
    conv => whnf
    refine hN1 _ _ ?_
    conv => whnf
    refine ⟨congrArg Value.bool ?_, rfl⟩
    rw [Bool.eq_iff_iff]
    simp [differsB, diff1, diff2, diff3, hp, ho]
    try omega
  have ho : off = 0 := ho
  conv => whnf
  refine VIf.dec (fun h15 => ?_) (fun h15 => ?_)
  · have h15 : portN inn h ≤ k := Int.ofNat_le.1 h15
    conv => whnf
    refine VIf.dec (fun h16 => ?_) (fun h16 => ?_)
    · have h16 : k < portN inn h + 2 := Int.ofNat_lt.1 (Int.lt_of_lt_of_le h16 (Int.le_of_eq (ep)))
      conv => whnf
      refine hN1 _ _ ?_
      conv => whnf
      refine ⟨congrArg Value.bool ?_, rfl⟩
      rw [Bool.eq_iff_iff]
      simp [differsB, diff1, diff2, diff3, hp, ho]
      try omega
    have h16 : ¬ (k < portN inn h + 2) := fun hx => h16 (Int.lt_of_lt_of_le (Int.ofNat_lt.2 hx) (Int.le_of_eq (ep).symm))
    conv => whnf
    refine VIf.dec (fun h17 => ?_) (fun h17 => ?_)
    · have h17 : h + 6 ≤ k := Int.ofNat_le.1 (Int.le_trans (Int.le_of_eq (e6).symm) h17)
      conv => whnf
      refine hN1 _ _ ?_
      conv => whnf
      refine ⟨congrArg Value.bool ?_, rfl⟩
      show decide ((k : Int) < IntKind.i64.wrap ((h : Int) + 8)) = _
      rw [show IntKind.i64.wrap ((h : Int) + 8) = ((h + 8 : Nat) : Int) from e8]
      rw [Bool.eq_iff_iff]
      simp [differsB, diff1, diff2, diff3, hp, ho]
      try omega
    have h17 : ¬ (h + 6 ≤ k) := fun hx => h17 (Int.le_trans (Int.le_of_eq (e6)) (Int.ofNat_le.2 hx))
    conv => whnf
    refine hN1 _ _ ?_
    conv => whnf
    refine ⟨congrArg Value.bool ?_, rfl⟩
    rw [Bool.eq_iff_iff]
    simp [differsB, diff1, diff2, diff3, hp, ho]
    try omega
  have h15 : ¬ (portN inn h ≤ k) := fun hx => h15 (Int.ofNat_le.2 hx)
  conv => whnf
  refine VIf.dec (fun h18 => ?_) (fun h18 => ?_)
  · have h18 : h + 6 ≤ k := Int.ofNat_le.1 (Int.le_trans (Int.le_of_eq (e6).symm) h18)
    conv => whnf
    refine hN1 _ _ ?_
    conv => whnf
    refine ⟨congrArg Value.bool ?_, rfl⟩
    show decide ((k : Int) < IntKind.i64.wrap ((h : Int) + 8)) = _
    rw [show IntKind.i64.wrap ((h : Int) + 8) = ((h + 8 : Nat) : Int) from e8]
    rw [Bool.eq_iff_iff]
    simp [differsB, diff1, diff2, diff3, hp, ho]
    try omega
  have h18 : ¬ (h + 6 ≤ k) := fun hx => h18 (Int.le_trans (Int.le_of_eq (e6)) (Int.ofNat_le.2 hx))
  conv => whnf
  refine hN1 _ _ ?_
  conv => whnf
  refine ⟨congrArg Value.bool ?_, rfl⟩
  rw [Bool.eq_iff_iff]
  simp [differsB, diff1, diff2, diff3, hp, ho]
  try omega
end Go.Proofs.YtofomopdaponbaaGreatDoor
