/-
  A walk by looking: what is asked of a piece of code, as a function of the code, over frames that are functions: each step is a reduction, and only what the machine cannot see is asked. No program in sight.
-/
import Derived.WalkKit
import Derived.Scope
import Derived.Deep.Quiet
import Derived.KernelRfl
import Derived.ChangeKeysEq
import Derived.Laws.Tables
import Derived.StillTail
import Derived.Deep.RegionHeld3
namespace Go.Proofs.YtofomopdaponbaaGreatDoor
set_option linter.unusedVariables false
set_option linter.unusedSimpArgs false

abbrev Fr := Nat → Value
def fr (a : Act) : Fr := fun t => a.tmps.getD t undef
def ev (ρ : Fr) : Operand → Value
  | .tmp t => ρ t
  | .const v => v
  | .global g => .pointer (some ⟨g, 0, none⟩)
  | .func f => .func (.func f) #[] #[]
theorem ev_fr (a : Act) : ev (fr a) = a.eval := by
  funext x
  cases x <;> rfl
def up (ρ : Fr) (d : Option Nat) (v : Value) : Fr :=
  match d with
  | none => ρ
  | some d => fun t => bif Nat.beq t d then v else ρ t
def dstOk (n : Nat) (o : Oper) : Bool :=
  match o.dst with
  | none => true
  | some d => Nat.blt d n
theorem fr_put {a : Act} {d : Option Nat} {v : Value} {n : Nat} (hn : a.tmps.size = n) (h : ∀ x, d = some x → x < n) : fr (a.put d v) = up (fr a) d v := by
  cases d with
  | none => rfl
  | some d =>
    have hd := h d rfl
    funext t
    simp only [fr, up, Act.put]
    by_cases e : t = d
    · subst e
      simp [hn, hd]
    · have : Nat.beq t d = false := by
        cases hb : Nat.beq t d
        · rfl
        · exact absurd (Nat.eq_of_beq_eq_true hb) e
      simp [this, Array.getElem?_setIfInBounds_ne (Ne.symm e)]
theorem dstOk_spec {n : Nat} {o : Oper} (h : dstOk n o = true) : ∀ x, o.dst = some x → x < n := by
  intro x hx
  simp only [dstOk, hx] at h
  exact Nat.le_of_ble_eq_true h
theorem size_put (a : Act) (d : Option Nat) (v : Value) : (a.put d v).tmps.size = a.tmps.size := by
  cases d <;> simp [Act.put]
theorem defers_put (a : Act) (d : Option Nat) (v : Value) : (a.put d v).defers = a.defers := by
  cases d <;> rfl

/-- What a guard's temporary says. -/
def yl (l : List Oper) (ρ : Fr) (j : Nat) : Option Bool :=
  match l[j]? with
  | none => none
  | some o =>
    match o.dst with
    | none => none
    | some t =>
      match ρ t with
      | .bool b => some b
      | _ => none
theorem yl_fr (ops : Array Oper) (a : Act) (j : Nat) : yl ops.toList (fr a) j = yielded ops a.tmps j := by
  unfold yl yielded fr
  rw [Array.getElem?_toList]
  cases h : ops[j]? with
  | none => simp
  | some o =>
    cases hd : o.dst with
    | none => simp [hd]
    | some t =>
      simp only [Option.bind_some, hd, Array.getD_eq_getD_getElem?]
      cases ht : a.tmps[t]? with
      | none => simp [undef]
      | some v => cases v <;> simp

/-- The two ways of a test. -/
def VIf (b : Bool) (X Y : Prop) : Prop :=
  match b with
  | true => X
  | false => Y
theorem VIf.of {b : Bool} {X Y : Prop} (h : b = true → X) (k : b = false → Y) : VIf b X Y := by
  cases b
  · exact k rfl
  · exact h rfl
theorem VIf.yes {b : Bool} {X Y : Prop} (e : b = true) (h : X) : VIf b X Y := by
  subst e
  exact h
theorem VIf.no {b : Bool} {X Y : Prop} (e : b = false) (h : Y) : VIf b X Y := by
  subst e
  exact h
theorem VIf.dec {p : Prop} [Decidable p] {X Y : Prop} (h : p → X) (k : ¬ p → Y) : VIf (decide p) X Y := VIf.of (fun e => h (of_decide_eq_true e)) (fun e => k (of_decide_eq_false e))
theorem VIf.eq {a b : Int} {X Y : Prop} (h : a = b → X) (k : a ≠ b → Y) : VIf (a == b) X Y := VIf.of (fun e => h (by simpa using e)) (fun e => k (by simpa using e))
theorem VIf.ne {a b : Int} {X Y : Prop} (h : a ≠ b → X) (k : a = b → Y) : VIf (a != b) X Y := VIf.of (fun e => h (by simpa using e)) (fun e => k (by simpa using e))
theorem VIf.not {b : Bool} {X Y : Prop} (h : VIf b Y X) : VIf (!b) X Y := by
  cases b <;> exact h
theorem VIf.elim {b : Bool} {X Y : Prop} (h : VIf b X Y) : (b = true ∧ X) ∨ (b = false ∧ Y) := by
  cases b
  · exact .inr ⟨rfl, h⟩
  · exact .inl ⟨rfl, h⟩

/-- May a function be called by its number? -/
def callable (P : Program) (f : FuncId) : Bool :=
  match P.funcs[f]? with
  | none => false
  | some fn => fn.name != "runtime.NumGoroutine" && fn.body.isSome
/-- A call that returns: what holds of its value and of the world behind it. -/
structure Does (P : Program) (f : FuncId) (args : List Value) (w : World) (R : Value → World → Prop) : Prop where
  ok : callable P f = true
  h : Calls P f ⟨args⟩ w (fun e w' => ∃ v, e = .returned v ∧ R v w')
theorem Does.mono {P : Program} {f : FuncId} {args : List Value} {w : World} {R R' : Value → World → Prop} (h : Does P f args w R) (k : ∀ v w', R v w' → R' v w') : Does P f args w R' :=
  ⟨h.ok, h.h.mono fun _ _ ⟨v, e, hv⟩ => ⟨v, e, k v _ hv⟩⟩

/-- An operation that yields a value. -/
structure Runs (P : Program) (o : Oper) (ρ : Operand → Value) (w : World) (v : Value) (w' : World) : Prop where
  h : (execOp ρ o).run P w = .ok (.value v) w'
structure Loads (P : Program) (t : TypeId) (a : Addr) (w : World) (v : Value) : Prop where
  h : (loadVar t a).run P w = .ok v w
structure Stores (P : Program) (t : TypeId) (a : Addr) (v : Value) (w w' : World) : Prop where
  h : (storeVar t a v).run P w = .ok () w'
structure Eql (P : Program) (t : TypeId) (x y : Operand) (u v : Value) (b : Bool) : Prop where
  h : ∀ w, ((do eqGuard .eql t x y u v; binOp .eql t u v : Sem Value)).run P w = .ok (.bool b) w
  k : ∀ w, ((do eqGuard .neq t x y u v; binOp .neq t u v : Sem Value)).run P w = .ok (.bool (!b)) w

def descOf (P : Program) (t : TypeId) : Option TypeDesc :=
  match P.types.toList[t]? with
  | none => none
  | some i =>
    match i.desc with
    | .named _ u =>
      match P.types.toList[u]? with
      | none => none
      | some j => some j.desc
    | d => some d
def infoOf (P : Program) (t : TypeId) : Option TypeInfo := P.types.toList[t]?
def sizeOfT (P : Program) (t : TypeId) : Option Nat :=
  match P.types.toList[t]? with
  | none => none
  | some i => some i.size
def zeroOf (P : Program) (t : TypeId) : Option Value :=
  match P.types.toList[t]? with
  | none => none
  | some i => i.zero

section
variable {P : Program} {t : TypeId} {w : World}
theorem infoOf_spec {i : TypeInfo} (h : infoOf P t = some i) : P.info? t = some i := by
  unfold infoOf at h
  rw [Array.getElem?_toList] at h
  have hlt : t < P.types.size := (Array.getElem?_eq_some_iff.1 h).1
  unfold Tables.info?
  rw [if_pos hlt]
  exact h
theorem info_lt {i : TypeInfo} (h : P.types.toList[t]? = some i) : P.info? t = some i := infoOf_spec h
theorem descOf_spec {d : TypeDesc} (h : descOf P t = some d) : P.underlying t = some d := by
  unfold descOf at h
  unfold Program.underlying
  cases h1 : P.types.toList[t]? with
  | none => simp [h1] at h
  | some i =>
    rw [info_lt h1]
    simp only [h1] at h
    obtain ⟨desc, _⟩ := i
    cases desc
    case named n u =>
      simp only at h
      cases h2 : P.types.toList[u]? with
      | none => simp [h2] at h
      | some j =>
        simp only [h2] at h
        simp only [info_lt h2]
        simpa using h
    all_goals (simp only at h ⊢; exact h)
theorem run_underlying_of {d : TypeDesc} (h : descOf P t = some d) : (underlying t).run P w = .ok d w := by
  simp [underlying, program, Sem.run, Sem.run_bind, descOf_spec h]
theorem run_sizeOf_of {n : Nat} (h : sizeOfT P t = some n) : (sizeOf t).run P w = .ok n w := by
  unfold sizeOfT at h
  cases h1 : P.types.toList[t]? with
  | none => simp [h1] at h
  | some i =>
    simp only [h1, Option.some.injEq] at h
    simp [sizeOf, typeInfo, program, Sem.run, Sem.run_bind, info_lt h1, h]
theorem run_zero_of {v : Value} (h : zeroOf P t = some v) : (zeroValue t).run P w = .ok v w := by
  unfold zeroOf at h
  cases h1 : P.types.toList[t]? with
  | none => simp [h1] at h
  | some i =>
    simp only [h1] at h
    simp [zeroValue, typeInfo, program, Sem.run, Sem.run_bind, info_lt h1, h]
end

/-- What an operation does: a value, nothing, or a call. -/
def OpDoes (P : Program) (o : Oper) (ρ : Operand → Value) (w : World) (K : Value → World → Prop) : Prop :=
  (∃ v w', (execOp ρ o).run P w = .ok (.value v) w' ∧ K v w') ∨ (∃ w', (execOp ρ o).run P w = .ok .skip w' ∧ K undef w') ∨
  ∃ f args w', (execOp ρ o).run P w = .ok (.enter f args) w' ∧ Calls P f args w' (fun e w'' => ∃ v, e = .returned v ∧ K v w'')
theorem OpDoes.wp {P : Program} {o : Oper} {a : Act} {w : World} {K : Value → World → Prop} {next : Act → World → Prop} {Q : Exit → Act → World → Prop}
    (h : OpDoes P o a.eval w K) (k : ∀ v w', K v w' → next (a.put o.dst v) w') : o.wp P a w next Q := by
  unfold Oper.wp
  rcases h with ⟨v, w', hr, hk⟩ | ⟨w', hr, hk⟩ | ⟨f, args, w', hr, hk⟩
  · rw [hr]; exact k _ _ hk
  · rw [hr]; exact k _ _ hk
  · rw [hr]
    refine Calls.mono hk ?_
    rintro e w'' ⟨v, rfl, hv⟩
    exact k _ _ hv

def sameK : IntKind → IntKind → Bool
  | .i8, .i8 | .i16, .i16 | .i32, .i32 | .i64, .i64 | .u8, .u8 | .u16, .u16 | .u32, .u32 | .u64, .u64 => true
  | _, _ => false
theorem sameK_eq {k k' : IntKind} (h : sameK k k' = true) : k = k' := by
  cases k <;> cases k' <;> first | rfl | (exact absurd h (by decide))
/-- The number is not 0, which a literal shows by itself. -/
def nz (b : Int) (X : Prop) : Prop :=
  match b with
  | .ofNat 0 => False
  | .ofNat (_ + 1) => X
  | .negSucc _ => X
theorem nz.of {b : Int} {X : Prop} (h : b ≠ 0) (x : X) : nz b X := by
  unfold nz
  split
  · exact h rfl
  · exact x
  · exact x
theorem nz.elim {b : Int} {X : Prop} (h : nz b X) : b ≠ 0 ∧ X := by
  unfold nz at h
  split at h
  · exact h.elim
  · exact ⟨by simp; omega, h⟩
  · exact ⟨by simp, h⟩
def ge0 (b : Int) (X : Prop) : Prop :=
  match b with
  | .ofNat _ => X
  | .negSucc _ => False
theorem ge0.of {b : Int} {X : Prop} (h : 0 ≤ b) (x : X) : ge0 b X := by
  unfold ge0
  split
  · exact x
  · exact absurd h (by simp)
theorem ge0.elim {b : Int} {X : Prop} (h : ge0 b X) : 0 ≤ b ∧ X := by
  unfold ge0 at h
  split at h
  · exact ⟨by simp, h⟩
  · exact h.elim
def VSome {α : Type} (e : Option α) (K : α → Prop) : Prop :=
  match e with
  | some v => K v
  | none => False
theorem VSome.of {α : Type} {e : Option α} {K : α → Prop} {v : α} (h : e = some v) (k : K v) : VSome e K := by
  subst h
  exact k
theorem VSome.elim {α : Type} {e : Option α} {K : α → Prop} (h : VSome e K) : ∃ v, e = some v ∧ K v := by
  cases e with
  | none => exact (show False from h).elim
  | some v => exact ⟨v, rfl, h⟩
def lenIs (l : List Value) (n : Nat) (X : Prop) : Prop :=
  match l, n with
  | [], 0 => X
  | _ :: r, n + 1 => lenIs r n X
  | _, _ => False
theorem lenIs.of {l : List Value} {n : Nat} {X : Prop} (h : l.length = n) (x : X) : lenIs l n X := by
  induction l generalizing n with
  | nil => subst h; exact x
  | cons v l ih =>
    cases n with
    | zero => simp at h
    | succ n => exact ih (by simpa using h)
theorem lenIs.elim {l : List Value} {n : Nat} {X : Prop} (h : lenIs l n X) : l.length = n ∧ X := by
  induction l generalizing n with
  | nil =>
    cases n with
    | zero => exact ⟨rfl, h⟩
    | succ n => exact (show False from h).elim
  | cons v l ih =>
    cases n with
    | zero => exact (show False from h).elim
    | succ n =>
      obtain ⟨h1, h2⟩ := ih h
      exact ⟨by simp [h1], h2⟩

/-- A value, looked at. -/
def force (v : Value) (K : Value → Prop) : Prop :=
  match v with
  | .bool b => K (.bool b)
  | .int k n => K (.int k n)
  | .float k b => K (.float k b)
  | .complex k a b => K (.complex k a b)
  | .string s => K (.string s)
  | .pointer a => K (.pointer a)
  | .slice a n c => K (.slice a n c)
  | .map r => K (.map r)
  | .chan r => K (.chan r)
  | .func f x y => K (.func f x y)
  | .nilFunc => K .nilFunc
  | .iface t u => K (.iface t u)
  | .nilIface => K .nilIface
  | .agg cs => K (.agg cs)
  | .tuple vs => K (.tuple vs)
theorem force_elim {v : Value} {K : Value → Prop} (h : force v K) : K v := by
  cases v <;> exact h
/-- The cells of a value. -/
def cellsA (v : Value) : Array Value :=
  match v with
  | .agg cs => cs
  | v => ⟨[v]⟩
theorem cellsA_eq (v : Value) : cellsA v = v.cells := by
  cases v <;> rfl
/-- The cells of a value, looked at. -/
def forceC (v : Value) (K : Array Value → Prop) : Prop :=
  match v with
  | .agg cs => K cs
  | v => K ⟨[v]⟩
theorem forceC_elim {v : Value} {K : Array Value → Prop} (h : forceC v K) : K v.cells := by
  cases v <;> exact h
/-- Bits of two numbers. -/
def andI (k : IntKind) (a b : Int) : Int := k.wrap ((BitVec.ofInt k.bits a &&& BitVec.ofInt k.bits b).toNat : Int)
def orI (k : IntKind) (a b : Int) : Int := k.wrap ((BitVec.ofInt k.bits a ||| BitVec.ofInt k.bits b).toNat : Int)
def xorI (k : IntKind) (a b : Int) : Int := k.wrap ((BitVec.ofInt k.bits a ^^^ BitVec.ofInt k.bits b).toNat : Int)
def andNotI (k : IntKind) (a b : Int) : Int := k.wrap ((BitVec.ofInt k.bits a &&& ~~~ BitVec.ofInt k.bits b).toNat : Int)
/-- 2 to so much, as a shift has it. -/
def pw (b : Int) (k : IntKind) : Int := 2 ^ (min b.toNat k.bits)
theorem pw_pos (b : Int) (k : IntKind) : 0 < pw b k := Int.pow_pos (by decide)
/-- Two numbers, or other values of one cell, under an operation. -/
def vInt (op : BinOp) (k : IntKind) (a : Int) (k' : IntKind) (b : Int) (K : Value → Prop) : Prop :=
  match op with
  | .shl => ge0 b (K (.int k (k.wrap (a * pw b k))))
  | .shr => ge0 b (K (.int k (a / pw b k)))
  | op =>
    bif sameK k k' then
      match op with
      | .add => K (.int k (k.wrap (a + b)))
      | .sub => K (.int k (k.wrap (a - b)))
      | .mul => K (.int k (k.wrap (a * b)))
      | .quo => nz b (K (.int k (k.wrap (a.tdiv b))))
      | .rem => nz b (K (.int k (a.tmod b)))
      | .and => K (.int k (andI k a b))
      | .or => K (.int k (orI k a b))
      | .xor => K (.int k (xorI k a b))
      | .andNot => K (.int k (andNotI k a b))
      | .eql => K (.bool (a == b))
      | .neq => K (.bool (a != b))
      | .lss => K (.bool (decide (a < b)))
      | .leq => K (.bool (decide (a ≤ b)))
      | .gtr => K (.bool (decide (a > b)))
      | .geq => K (.bool (decide (a ≥ b)))
      | _ => False
    else False
theorem vInt_spec {P : Program} {op : BinOp} {k k' : IntKind} {a b : Int} {K : Value → Prop} {t : TypeId} (h : vInt op k a k' b K) :
    ∃ v, (∀ w, (binOp op t (.int k a) (.int k' b)).run P w = .ok v w) ∧ K v := by
  unfold vInt at h
  cases op
  case shl =>
    obtain ⟨h0, hk⟩ := ge0.elim h
    refine ⟨_, fun w => ?_, hk⟩
    simp only [binOp, Op.shift]
    rw [if_neg (by omega)]
    rfl
  case shr =>
    obtain ⟨h0, hk⟩ := ge0.elim h
    refine ⟨_, fun w => ?_, hk⟩
    simp only [binOp, Op.shift]
    have e : a.fdiv (2 ^ min b.toNat k.bits) = a / pw b k := Int.fdiv_eq_ediv_of_nonneg _ (Int.le_of_lt (pw_pos b k))
    rw [if_neg (by omega), e]
    rfl
  all_goals
    simp only at h
    cases hs : sameK k k' with
    | false => simp only [hs, cond_false] at h
    | true =>
      obtain rfl := sameK_eq hs
      simp only [hs, cond_true] at h
      first
        | (obtain ⟨h0, hk⟩ := nz.elim h
           refine ⟨_, fun w => ?_, hk⟩
           simp only [binOp, Op.intDiv, ne_eq, not_true_eq_false, if_false, if_neg h0]
           rfl)
        | (refine ⟨_, fun w => ?_, h⟩
           simp only [binOp, ne_eq, not_true_eq_false, if_false]
           rfl)
        | exact h.elim

/-- What is asked where the machine must be run by a law. -/
def vFall (P : Program) (o : Oper) (ρ : Operand → Value) (w : World) (K : Value → World → Prop) : Prop := ∃ v w', Runs P o ρ w v w' ∧ K v w'
theorem vFall.does {P : Program} {o : Oper} {ρ : Operand → Value} {w : World} {K : Value → World → Prop} (h : vFall P o ρ w K) : OpDoes P o ρ w K :=
  let ⟨v, w', hr, hk⟩ := h
  .inl ⟨v, w', hr.h, hk⟩
theorem OpDoes.val {P : Program} {o : Oper} {ρ : Operand → Value} {w : World} {K : Value → World → Prop} {v : Value} (h : (execOp ρ o).run P w = .ok (.value v) w) (k : K v w) : OpDoes P o ρ w K :=
  .inl ⟨v, w, h, k⟩

/-- Two bounds. -/
def bnd (x : Option Value) (d n : Nat) : Prop :=
  match x with
  | none => n = d
  | some v =>
    match v with
    | .int _ i => i = (n : Int)
    | _ => False

def vBin (P : Program) (op : BinOp) (t : TypeId) (xo yo : Operand) (x y : Value) (K : Value → Prop) : Prop :=
  match x with
  | .int k a =>
    match y with
    | .int k' b => vInt op k a k' b K
    | _ => False
  | .string a =>
    match y with
    | .string b =>
      match op with
      | .eql => K (.bool (a.toList == b.toList))
      | .neq => K (.bool (!(a.toList == b.toList)))
      | _ => ∃ v, (∀ w, (binOp op t (.string a) (.string b)).run P w = .ok v w) ∧ K v
    | _ => False
  | .bool a =>
    match y with
    | .bool b =>
      match descOf P t with
      | some .bool =>
        match op with
        | .eql => K (.bool (a == b))
        | .neq => K (.bool (!(a == b)))
        | _ => False
      | _ => False
    | _ => False
  | .slice a n c =>
    match y with
    | .slice none _ _ =>
      match descOf P t with
      | some (.slice _) =>
        match op with
        | .eql => K (.bool a.isNone)
        | .neq => K (.bool (!a.isNone))
        | _ => False
      | _ => False
    | _ => False
  | .pointer a =>
    match y with
    | .pointer none =>
      match descOf P t with
      | some (.pointer _) =>
        match op with
        | .eql => K (.bool a.isNone)
        | .neq => K (.bool (!a.isNone))
        | _ => False
      | _ => False
    | y =>
      match op with
      | .eql => ∃ b, Eql P t xo yo (.pointer a) y b ∧ K (.bool b)
      | .neq => ∃ b, Eql P t xo yo (.pointer a) y b ∧ K (.bool (!b))
      | _ => False
  | .func fn first cap =>
    match y with
    | .nilFunc =>
      match descOf P t with
      | some (.func _ _ _) =>
        match op with
        | .eql => K (.bool false)
        | .neq => K (.bool true)
        | _ => False
      | _ => False
    | _ => False
  | x =>
    match op with
    | .eql => ∃ b, Eql P t xo yo x y b ∧ K (.bool b)
    | .neq => ∃ b, Eql P t xo yo x y b ∧ K (.bool (!b))
    | _ => False

/-- Neither two structs or arrays, nor two nil values of interface types. -/
def plainPair : Value → Bool
  | .agg _ | .nilIface => false
  | _ => true
theorem eqGuard_quiet {P : Program} {op : BinOp} {t : TypeId} {xo yo : Operand} {x y : Value} (w : World) (h : plainPair x = true) :
    (eqGuard op t xo yo x y).run P w = .ok () w := by
  unfold eqGuard
  cases x <;> first | (exact Bool.noConfusion h) | (cases op <;> rfl)
theorem run_equal {P : Program} {t : TypeId} {x y : Value} {b : Bool} {w : World} (h : ∀ d, (Op.equalIn (d + 1) t x y).run P w = .ok b w) : (Op.equal t x y).run P w = .ok b w := h 9999
theorem run_eql {P : Program} {t : TypeId} {x y : Value} {b : Bool} {w : World} {xo yo : Operand} (hp : plainPair x = true) (hb : binOp .eql t x y = (do pure (.bool (← Op.equal t x y)))) (h : ∀ d, (Op.equalIn (d + 1) t x y).run P w = .ok b w) :
    ((do eqGuard .eql t xo yo x y; binOp .eql t x y : Sem Value)).run P w = .ok (.bool b) w := by
  rw [Sem.run_bind, eqGuard_quiet w hp, Result.andThen_ok, hb, Sem.run_bind, run_equal h]
  rfl
theorem run_neq {P : Program} {t : TypeId} {x y : Value} {b : Bool} {w : World} {xo yo : Operand} (hp : plainPair x = true) (hb : binOp .neq t x y = (do pure (.bool (!(← Op.equal t x y))))) (h : ∀ d, (Op.equalIn (d + 1) t x y).run P w = .ok b w) :
    ((do eqGuard .neq t xo yo x y; binOp .neq t x y : Sem Value)).run P w = .ok (.bool (!b)) w := by
  rw [Sem.run_bind, eqGuard_quiet w hp, Result.andThen_ok, hb, Sem.run_bind, run_equal h]
  rfl
theorem eqIn_bool {P : Program} {t : TypeId} {w : World} (hd : descOf P t = some .bool) (a b : Bool) (d : Nat) : (Op.equalIn (d + 1) t (.bool a) (.bool b)).run P w = .ok (a == b) w := by
  simp only [Op.equalIn, Sem.run_bind, run_underlying_of hd, Result.andThen_ok]
  rfl
theorem eqIn_slice {P : Program} {t e : TypeId} {w : World} (hd : descOf P t = some (.slice e)) (a : Option Addr) (n c n' c' d : Nat) : (Op.equalIn (d + 1) t (.slice a n c) (.slice none n' c')).run P w = .ok a.isNone w := by
  cases a <;> simp only [Op.equalIn, Sem.run_bind, run_underlying_of hd, Result.andThen_ok] <;> rfl
theorem eqIn_ptr {P : Program} {t e : TypeId} {w : World} (hd : descOf P t = some (.pointer e)) (a : Option Addr) (d : Nat) : (Op.equalIn (d + 1) t (.pointer a) (.pointer none)).run P w = .ok a.isNone w := by
  cases a <;> simp only [Op.equalIn, Sem.run_bind, run_underlying_of hd, Result.andThen_ok] <;> rfl
theorem eqIn_func {P : Program} {t : TypeId} {w : World} {ps rs : Array TypeId} {v : Bool} (hd : descOf P t = some (.func ps rs v)) (fn : Fn) (xs ys : Array Value) (d : Nat) : (Op.equalIn (d + 1) t (.func fn xs ys) .nilFunc).run P w = .ok false w := by
  simp only [Op.equalIn, Sem.run_bind, run_underlying_of hd, Result.andThen_ok]
  rfl
theorem vBin_spec {P : Program} {op : BinOp} {t : TypeId} {xo yo : Operand} {x y : Value} {K : Value → Prop} (h : vBin P op t xo yo x y K) :
    ∃ v, (∀ w, ((do eqGuard op t xo yo x y; binOp op t x y : Sem Value)).run P w = .ok v w) ∧ K v := by
  unfold vBin at h
  split at h
  · split at h
    · obtain ⟨v, h1, h2⟩ := vInt_spec (P := P) (t := t) h
      refine ⟨v, fun w => ?_, h2⟩
      rw [Sem.run_bind, eqGuard_quiet w rfl, Result.andThen_ok]
      exact h1 w
    · exact h.elim
  · split at h
    · split at h
      · refine ⟨_, fun w => ?_, h⟩
        rw [Sem.run_bind, eqGuard_quiet w rfl, Result.andThen_ok]
        rfl
      · refine ⟨_, fun w => ?_, h⟩
        rw [Sem.run_bind, eqGuard_quiet w rfl, Result.andThen_ok]
        rfl
      · obtain ⟨v, h1, h2⟩ := h
        refine ⟨v, fun w => ?_, h2⟩
        rw [Sem.run_bind, eqGuard_quiet w rfl, Result.andThen_ok]
        exact h1 w
    · exact h.elim
  · split at h
    · split at h
      · rename_i hd
        split at h
        · exact ⟨_, fun w => run_eql rfl rfl (eqIn_bool hd _ _), h⟩
        · exact ⟨_, fun w => run_neq rfl rfl (eqIn_bool hd _ _), h⟩
        · exact h.elim
      · exact h.elim
    · exact h.elim
  · split at h
    · split at h
      · rename_i hd
        split at h
        · exact ⟨_, fun w => run_eql rfl rfl (eqIn_slice hd _ _ _ _ _), h⟩
        · exact ⟨_, fun w => run_neq rfl rfl (eqIn_slice hd _ _ _ _ _), h⟩
        · exact h.elim
      · exact h.elim
    · exact h.elim
  · split at h
    · split at h
      · rename_i hd
        split at h
        · exact ⟨_, fun w => run_eql rfl rfl (eqIn_ptr hd _), h⟩
        · exact ⟨_, fun w => run_neq rfl rfl (eqIn_ptr hd _), h⟩
        · exact h.elim
      · exact h.elim
    · split at h
      · obtain ⟨b, h1, h2⟩ := h
        exact ⟨_, h1.h, h2⟩
      · obtain ⟨b, h1, h2⟩ := h
        exact ⟨_, h1.k, h2⟩
      · exact h.elim
  · split at h
    · split at h
      · rename_i hd
        split at h
        · exact ⟨_, fun w => run_eql rfl rfl (eqIn_func hd _ _ _), h⟩
        · exact ⟨_, fun w => run_neq rfl rfl (eqIn_func hd _ _ _), h⟩
        · exact h.elim
      · exact h.elim
    · exact h.elim
  · split at h
    · obtain ⟨b, h1, h2⟩ := h
      exact ⟨_, h1.h, h2⟩
    · obtain ⟨b, h1, h2⟩ := h
      exact ⟨_, h1.k, h2⟩
    · exact h.elim

/-- A part of a struct or an array. -/
def vPart (P : Program) (t : TypeId) (cs : Array Value) (off : Nat) (K : Value → Prop) : Prop :=
  match descOf P t with
  | none => False
  | some (.struct _) | some (.array _ _) =>
    match sizeOfT P t with
    | some s => K (.agg ⟨(cs.toList.drop off).take s⟩)
    | none => False
  | some _ => VSome cs.toList[off]? K
theorem isAgg_of {P : Program} {t : TypeId} {w : World} {d : TypeDesc} (hd : descOf P t = some d) : (isAgg t).run P w = .ok (match d with | .struct _ | .array _ _ => true | _ => false) w := by
  simp only [isAgg, Sem.run_bind, run_underlying_of hd, Result.andThen_ok]
  cases d <;> rfl
theorem extract_eq (cs : Array Value) (off s : Nat) : cs.extract off (off + s) = ⟨(cs.toList.drop off).take s⟩ := by
  apply Array.ext'
  simp [Array.toList_extract, List.extract_eq_take_drop]
theorem vPart_spec {P : Program} {t : TypeId} {cs : Array Value} {off : Nat} {K : Value → Prop} (h : vPart P t cs off K) : ∃ v, (∀ w, (part t cs off).run P w = .ok v w) ∧ K v := by
  unfold vPart at h
  split at h
  · exact h.elim
  · rename_i hd
    split at h
    · rename_i s hs
      refine ⟨_, fun w => ?_, h⟩
      simp only [part, Sem.run_bind, isAgg_of hd, Result.andThen_ok, if_true, run_sizeOf_of hs, extract_eq]
      rfl
    · exact h.elim
  · rename_i hd
    split at h
    · rename_i s hs
      refine ⟨_, fun w => ?_, h⟩
      simp only [part, Sem.run_bind, isAgg_of hd, Result.andThen_ok, if_true, run_sizeOf_of hs, extract_eq]
      rfl
    · exact h.elim
  · rename_i d hd h1 h2
    obtain ⟨v, hv, hk⟩ := VSome.elim h
    refine ⟨v, fun w => ?_, hk⟩
    rw [Array.getElem?_toList] at hv
    have ha := isAgg_of (w := w) h2
    cases d <;> first | exact (hd _ rfl).elim | exact (h1 _ _ rfl).elim | simp only [part, Sem.run_bind, ha, Result.andThen_ok, Bool.false_eq_true, if_false, hv, Sem.run_pure]

def vLoad (P : Program) (t : TypeId) (a : Value) (w : World) (K : Value → Prop) : Prop :=
  match a with
  | .pointer (some a) => ∃ v, Loads P t a w v ∧ K v
  | _ => False
def vStore (P : Program) (t : TypeId) (a : Value) (v : Value) (w : World) (K : World → Prop) : Prop :=
  match a with
  | .pointer (some a) => ∃ w', Stores P t a v w w' ∧ K w'
  | _ => False

def fieldOf (P : Program) (t : TypeId) (f : Nat) : Option Field :=
  match descOf P t with
  | some (.struct fs) => fs.toList[f]?
  | _ => none
def posSize (P : Program) (t : TypeId) : Bool :=
  match sizeOfT P t with
  | some (_ + 1) => true
  | _ => false
theorem posSize_spec {P : Program} {t : TypeId} (h : posSize P t = true) : ∃ n, sizeOfT P t = some (n + 1) := by
  unfold posSize at h
  split at h
  · rename_i n hn
    exact ⟨n, hn⟩
  · exact Bool.noConfusion h
def vFieldAddr (P : Program) (t : TypeId) (a : Value) (f : Nat) (K : Value → Prop) : Prop :=
  match a with
  | .pointer (some ⟨b, o, none⟩) =>
    match fieldOf P t f with
    | some fd => bif posSize P fd.type then K (.pointer (some ⟨b, o + fd.offset, none⟩)) else False
    | none => False
  | _ => False
theorem add_plain (b o n : Nat) : (⟨b, o, none⟩ : Addr).add n = ⟨b, o + n, none⟩ := by
  unfold Addr.add
  split
  · rename_i h
    subst h
    rfl
  · rfl
theorem fieldOf_spec {P : Program} {t : TypeId} {f : Nat} {fd : Field} (h : fieldOf P t f = some fd) : ∃ fs, descOf P t = some (.struct fs) ∧ fs[f]? = some fd := by
  unfold fieldOf at h
  split at h
  · rename_i fs hd
    exact ⟨fs, hd, by rw [Array.getElem?_toList] at h; exact h⟩
  · cases h
theorem vFieldAddr_spec {P : Program} {t : TypeId} {a : Value} {f : Nat} {K : Value → Prop} (h : vFieldAddr P t a f K) : ∃ v, (∀ w, (Instr.fieldAt t a f).run P w = .ok v w) ∧ K v := by
  unfold vFieldAddr at h
  split at h
  · rename_i b o
    split at h
    · rename_i fd hf
      cases hp : posSize P fd.type with
      | false => simp [hp] at h
      | true =>
        simp only [hp, cond_true] at h
        obtain ⟨fs, hd, hfs⟩ := fieldOf_spec hf
        obtain ⟨n, hn⟩ := posSize_spec hp
        refine ⟨_, fun w => ?_, h⟩
        simp only [Instr.fieldAt, Sem.run_bind, run_underlying_of hd, Result.andThen_ok, hfs, Instr.sureAddr, fieldPlace, run_sizeOf_of hn, Sem.run_pure, add_plain]
        simp
    · exact h.elim
  · exact h.elim

def vIndexAddr (P : Program) (t : TypeId) (x i : Value) (K : Value → Prop) : Prop :=
  match i with
  | .int _ i =>
    match x with
    | .slice base len _ =>
      match descOf P t with
      | some (.slice e) =>
        match sizeOfT P e with
        | some s => ∃ b o, base = some ⟨b, o, none⟩ ∧ ∃ k p : Nat, i = (k : Int) ∧ k < len ∧ p = o + k * s ∧ K (.pointer (some ⟨b, p, none⟩))
        | none => False
      | _ => False
    | .pointer (some ⟨b, o, none⟩) =>
      match descOf P t with
      | some (.array n e) =>
        match sizeOfT P e with
        | some s => ∃ k p : Nat, i = (k : Int) ∧ k < n ∧ p = o + k * s ∧ K (.pointer (some ⟨b, p, none⟩))
        | none => False
      | _ => False
    | _ => False
  | _ => False
theorem vIndexAddr_spec {P : Program} {t : TypeId} {x i : Value} {K : Value → Prop} (h : vIndexAddr P t x i K) : ∃ v, (∀ w, (Instr.indexAt t x i).run P w = .ok v w) ∧ K v := by
  unfold vIndexAddr at h
  split at h
  · split at h
    · split at h
      · rename_i e hd
        split at h
        · rename_i s hs
          obtain ⟨b, o, rfl, k, p, rfl, hk, rfl, h⟩ := h
          refine ⟨_, fun w => ?_, h⟩
          simp only [Instr.indexAt, asIntOf, Sem.run_bind, Sem.run_pure, run_underlying_of hd, Result.andThen_ok]
          rw [if_pos (by omega)]
          simp only [Sem.run_bind, run_sizeOf_of hs, Result.andThen_ok, Sem.run_pure, add_plain, Int.toNat_natCast]
        · exact h.elim
      · exact h.elim
    · split at h
      · rename_i n e hd
        split at h
        · rename_i s hs
          obtain ⟨k, p, rfl, hk, rfl, h⟩ := h
          refine ⟨_, fun w => ?_, h⟩
          simp only [Instr.indexAt, asIntOf, Sem.run_bind, Sem.run_pure, run_underlying_of hd, Result.andThen_ok, Instr.sureAddr]
          rw [if_pos (by omega)]
          simp only [Sem.run_bind, run_sizeOf_of hs, Result.andThen_ok, Sem.run_pure, add_plain, Int.toNat_natCast]
        · exact h.elim
      · exact h.elim
    · exact h.elim
  · exact h.elim
def vIndex (P : Program) (t : TypeId) (x i : Value) (K : Value → Prop) : Prop :=
  match i with
  | .int _ i =>
    match x with
    | .agg cs =>
      match descOf P t with
      | some (.array n e) =>
        match sizeOfT P e with
        | some s => ∃ k p : Nat, i = (k : Int) ∧ k < n ∧ p = k * s ∧ vPart P e cs p K
        | none => False
      | _ => False
    | .string s =>
      match descOf P t with
      | some .string => ∃ (k : Nat) (c : UInt8), i = (k : Int) ∧ s[k]? = some c ∧ K (.int .u8 (c.toNat : Int))
      | _ => False
    | _ => False
  | _ => False
theorem vIndex_spec {P : Program} {t : TypeId} {x i : Value} {K : Value → Prop} (h : vIndex P t x i K) : ∃ v, (∀ w, (Instr.index t x i).run P w = .ok v w) ∧ K v := by
  unfold vIndex at h
  split at h
  · split at h
    · split at h
      · rename_i n e hd
        split at h
        · rename_i s hs
          obtain ⟨k, p, rfl, hk, rfl, h⟩ := h
          obtain ⟨v, hr, hk2⟩ := vPart_spec h
          refine ⟨v, fun w => ?_, hk2⟩
          simp only [Instr.index, asIntOf, Sem.run_bind, Sem.run_pure, run_underlying_of hd, Result.andThen_ok]
          rw [if_pos (by omega)]
          simp only [Sem.run_bind, run_sizeOf_of hs, Result.andThen_ok, Int.toNat_natCast, hr]
        · exact h.elim
      · exact h.elim
    · split at h
      · rename_i hd
        obtain ⟨k, c, rfl, hc, h⟩ := h
        refine ⟨_, fun w => ?_, h⟩
        simp only [Instr.index, asIntOf, Sem.run_bind, Sem.run_pure, run_underlying_of hd, Result.andThen_ok]
        rw [if_pos (by omega)]
        simp only [Int.toNat_natCast, hc, Sem.run_pure]
      · exact h.elim
    · exact h.elim
  · exact h.elim

/-- The cells of a struct that is built: each part in its place. -/
def segsOf (P : Program) (z : List Value) : List Field → List (List Value)
  | [] => []
  | f :: fs =>
    match sizeOfT P f.type with
    | some s => (z.drop f.offset).take s :: segsOf P z fs
    | none => []
def setSeg (segs : List (List Value)) (i : Nat) (v : List Value) : List (List Value) := segs.set i v
/-- The fields lie one behind another from here, to the end. -/
def contig (P : Program) : Nat → Nat → List Field → Bool
  | at_, n, [] => Nat.beq at_ n
  | at_, n, f :: fs =>
    match sizeOfT P f.type with
    | some s => Nat.beq f.offset at_ && contig P (at_ + s) n fs
    | none => false
def partsIn (sz : Nat → Option Nat) (ρ : Operand → Value) (parts : List (Nat × Operand)) (segs : List (List Value)) (K : List (List Value) → Prop) : Prop :=
  match parts with
  | [] => K segs
  | (i, x) :: r =>
    match sz i with
    | some s => forceC (ρ x) (fun cs => lenIs cs.toList s (partsIn sz ρ r (setSeg segs i cs.toList) K))
    | none => False
def joinL (segs : List (List Value)) : List Value :=
  match segs with
  | [] => []
  | s :: r => s ++ joinL r
theorem joinL_eq (segs : List (List Value)) : joinL segs = segs.flatten := by
  induction segs with
  | nil => rfl
  | cons s r ih => simp [joinL, ih]
def szField (P : Program) (fs : Array Field) (i : Nat) : Option Nat :=
  match fs.toList[i]? with
  | some f => sizeOfT P f.type
  | none => none
/-- An array's cells, element by element. -/
def arrSegs (s : Nat) (n : Nat) (z : List Value) : List (List Value) :=
  match n with
  | 0 => []
  | n + 1 => z.take s :: arrSegs s n (z.drop s)
def vBuild (P : Program) (t : TypeId) (parts : List (Nat × Operand)) (ρ : Operand → Value) (K : Value → Prop) : Prop :=
  match descOf P t with
  | some (.struct fs) =>
    match zeroOf P t with
    | some z =>
      bif contig P 0 z.cells.toList.length fs.toList then
        partsIn (szField P fs) ρ parts (segsOf P z.cells.toList fs.toList) (fun segs => K (.agg ⟨joinL segs⟩))
      else False
    | none => False
  | some (.array n e) =>
    match sizeOfT P e with
    | some s =>
      match zeroOf P t with
      | some z =>
        bif Nat.beq z.cells.toList.length (n * s) then
          partsIn (fun i => bif Nat.blt i n then some s else none) ρ parts (arrSegs s n z.cells.toList) (fun segs => K (.agg ⟨joinL segs⟩))
        else False
      | none => False
    | none => False
  | _ => False

theorem foldl_set (off : Nat) : ∀ (vs : List Value) (k : Nat) (cs : Array Value) (i : Nat),
    ((vs.zipIdx k).foldl (fun (cs : Array Value) (p : Value × Nat) => cs.setIfInBounds (off + p.2) p.1) cs)[i]? =
      if off + k ≤ i ∧ i < off + k + vs.length ∧ i < cs.size then vs[i - (off + k)]? else cs[i]?
  | [], k, cs, i => by
    simp only [List.zipIdx_nil, List.foldl_nil, List.length_nil]
    rw [if_neg (by omega)]
  | v :: vs, k, cs, i => by
    rw [List.zipIdx_cons, List.foldl_cons, foldl_set off vs (k + 1)]
    simp only [List.length_cons, Array.size_setIfInBounds]
    by_cases h1 : i = off + k
    · subst h1
      rw [if_neg (by omega)]
      by_cases h2 : off + k < cs.size
      · rw [if_pos (by omega)]
        simp [h2]
      · rw [if_neg (by omega)]
        simp [Array.getElem?_eq_none, Nat.le_of_not_lt h2]
    · rw [Array.getElem?_setIfInBounds_ne (by omega)]
      by_cases h2 : off + (k + 1) ≤ i ∧ i < off + (k + 1) + vs.length ∧ i < cs.size
      · rw [if_pos h2, if_pos (by omega), show i - (off + k) = (i - (off + (k + 1))) + 1 by omega, List.getElem?_cons_succ]
      · rw [if_neg h2, if_neg (by omega)]
theorem split_at (l : List (List Value)) (i : Nat) (h : i < l.length) : l = l.take i ++ l[i] :: l.drop (i + 1) := by
  rw [List.getElem_cons_drop, List.take_append_drop]
theorem set_flatten (segs : List (List Value)) (i : Nat) (v : List Value) (hi : i < segs.length) (hv : v.length = (segs[i]).length) (j : Nat) :
    (segs.set i v).flatten[j]? = if (segs.take i).flatten.length ≤ j ∧ j < (segs.take i).flatten.length + v.length ∧ j < segs.flatten.length then v[j - (segs.take i).flatten.length]? else segs.flatten[j]? := by
  have e1 : segs = segs.take i ++ segs[i] :: segs.drop (i + 1) := split_at segs i hi
  have e2 : segs.set i v = segs.take i ++ v :: segs.drop (i + 1) := by
    rw [List.set_eq_take_append_cons_drop, if_pos hi]
  have hs : segs.flatten.length = (segs.take i).flatten.length + v.length + (segs.drop (i + 1)).flatten.length := by
    conv => lhs; rw [e1]
    simp only [List.flatten_append, List.flatten_cons, List.length_append, hv]
    omega
  rw [e2]
  have e3 : segs.flatten = (segs.take i).flatten ++ (segs[i] ++ (segs.drop (i + 1)).flatten) := by
    conv => lhs; rw [e1]
    rw [List.flatten_append, List.flatten_cons]
  rw [hs, e3]
  simp only [List.flatten_append, List.flatten_cons]
  generalize (segs.take i).flatten = A
  generalize (segs.drop (i + 1)).flatten = C
  generalize segs[i] = B at hv ⊢
  rcases Nat.lt_or_ge j A.length with h | h
  · rw [if_neg (by omega), List.getElem?_append_left h, List.getElem?_append_left h]
  · rw [List.getElem?_append_right h, List.getElem?_append_right h]
    by_cases h2 : j < A.length + v.length
    · rw [if_pos (by omega), List.getElem?_append_left (by omega)]
    · rw [if_neg (by omega), List.getElem?_append_right (by omega), List.getElem?_append_right (by omega), hv]
theorem fill_spec (place : Nat → Option (Nat × Nat)) (ρ : Operand → Value) (sz : Nat → Option Nat) (K : List (List Value) → Prop) :
    ∀ (parts : List (Nat × Operand)) (segs : List (List Value)),
      (∀ i s, sz i = some s → ∃ h : i < segs.length, (segs[i]).length = s ∧ place i = some ((segs.take i).flatten.length, s)) →
      partsIn sz ρ parts segs K → ∃ segs', Instr.fill place ⟨segs.flatten⟩ (parts.map fun p => (p.1, ρ p.2)) = some ⟨segs'.flatten⟩ ∧ K segs'
  | [], segs, _, h => ⟨segs, rfl, h⟩
  | (i, x) :: r, segs, hp, h => by
    unfold partsIn at h
    cases hs : sz i with
    | none => simp [hs] at h
    | some s =>
      simp only [hs] at h
      have h := forceC_elim (K := fun cs => lenIs cs.toList s (partsIn sz ρ r (setSeg segs i cs.toList) K)) h
      obtain ⟨hl, h⟩ := lenIs.elim h
      obtain ⟨hi, hlen, hpl⟩ := hp i s hs
      have hset : ∀ j, (setSeg segs i (ρ x).cells.toList).flatten[j]? = _ := set_flatten segs i (ρ x).cells.toList hi (by rw [hl, hlen])
      have hsum : (segs.take i).flatten.length + s ≤ segs.flatten.length := by
        have e1 : segs = segs.take i ++ segs[i] :: segs.drop (i + 1) := split_at segs i hi
        conv => rhs; rw [e1]
        simp only [List.flatten_append, List.flatten_cons, List.length_append, hlen]
        omega
      obtain ⟨segs', hf, hk⟩ := fill_spec place ρ sz K r (setSeg segs i (ρ x).cells.toList) (by
        intro j s' hj
        obtain ⟨h1, h2, h3⟩ := hp j s' hj
        refine ⟨by simp [setSeg, h1], ?_, ?_⟩
        · unfold setSeg
          by_cases e : i = j
          · subst e
            rw [hs] at hj
            simp only [Option.some.injEq] at hj
            simp [hl, hj]
          · simp [List.getElem_set_ne e, h2]
        · rw [h3]
          have : ((setSeg segs i (ρ x).cells.toList).take j).flatten.length = (segs.take j).flatten.length := by
            unfold setSeg
            rw [List.take_set]
            rcases Nat.lt_or_ge i (segs.take j).length with h | h
            · have e1 : (segs.take j).set i (ρ x).cells.toList = (segs.take j).take i ++ (ρ x).cells.toList :: (segs.take j).drop (i + 1) := by
                rw [List.set_eq_take_append_cons_drop, if_pos h]
              have e2 : segs.take j = (segs.take j).take i ++ (segs.take j)[i] :: (segs.take j).drop (i + 1) := split_at _ i h
              rw [e1]
              conv => rhs; rw [e2]
              simp only [List.flatten_append, List.flatten_cons, List.length_append, List.getElem_take, hl, hlen]
            · rw [List.set_eq_of_length_le h]
          rw [this]) h
      refine ⟨segs', ?_, hk⟩
      simp only [List.map_cons, Instr.fill, hpl]
      have hsz : (ρ x).cells.size = s := by simpa using hl
      rw [if_neg (by simp [hsz]; simpa using hsum)]
      rw [← hf]
      congr 1
      apply Array.ext'
      apply List.ext_getElem?
      intro j
      rw [hset j]
      rw [← Array.foldl_toList, Array.toList_zipIdx, Array.getElem?_toList, foldl_set]
      simp only [Nat.add_zero, Array.getElem?_toList, Array.length_toList, List.getElem?_toArray, List.size_toArray]
theorem segsOf_spec {P : Program} (z : List Value) : ∀ (fs : List Field) (at_ : Nat), contig P at_ z.length fs = true → at_ ≤ z.length →
    (segsOf P z fs).flatten = z.drop at_ ∧ (segsOf P z fs).length = fs.length ∧ ∀ i (f : Field), fs[i]? = some f → ∃ s, sizeOfT P f.type = some s ∧ ∃ h : i < (segsOf P z fs).length, ((segsOf P z fs)[i]).length = s ∧ f.offset = at_ + ((segsOf P z fs).take i).flatten.length
  | [], at_, h, _ => by
    have : at_ = z.length := Nat.eq_of_beq_eq_true h
    subst this
    exact ⟨by simp [segsOf], rfl, fun i f hf => by simp at hf⟩
  | f :: fs, at_, h, hle => by
    unfold contig at h
    cases hs : sizeOfT P f.type with
    | none => simp [hs] at h
    | some s =>
      simp only [hs, Bool.and_eq_true] at h
      obtain ⟨h1, h2⟩ := h
      have ho : f.offset = at_ := Nat.eq_of_beq_eq_true h1
      have hle2 : at_ + s ≤ z.length := by
        clear h1 ho hle hs
        induction fs generalizing at_ s with
        | nil => exact Nat.le_of_eq (Nat.eq_of_beq_eq_true h2)
        | cons g gs ih =>
          unfold contig at h2
          cases hg : sizeOfT P g.type with
          | none => simp [hg] at h2
          | some s' =>
            simp only [hg, Bool.and_eq_true] at h2
            have := ih (at_ + s) s' h2.2
            omega
      obtain ⟨k1, k2, k3⟩ := segsOf_spec z fs (at_ + s) h2 hle2
      have hl : ((z.drop f.offset).take s).length = s := by
        rw [List.length_take, List.length_drop, ho]
        omega
      unfold segsOf
      simp only [hs]
      refine ⟨?_, by simp [k2], ?_⟩
      · rw [List.flatten_cons, k1, ho, ← List.drop_drop, List.take_append_drop]
      · intro i g hg
        cases i with
        | zero =>
          simp only [List.getElem?_cons_zero, Option.some.injEq] at hg
          subst hg
          exact ⟨s, hs, by simp, hl, by simp [ho]⟩
        | succ i =>
          obtain ⟨s', e1, e2, e3, e4⟩ := k3 i g (by simpa using hg)
          refine ⟨s', e1, by simpa using e2, by simpa using e3, ?_⟩
          rw [List.take_succ_cons, List.flatten_cons, List.length_append, hl, e4]
          omega

theorem sizeOfT_spec {P : Program} {t : TypeId} {s : Nat} (h : sizeOfT P t = some s) : ∃ i, P.info? t = some i ∧ i.size = s := by
  unfold sizeOfT at h
  cases h1 : P.types.toList[t]? with
  | none => simp [h1] at h
  | some i =>
    simp only [h1, Option.some.injEq] at h
    exact ⟨i, info_lt h1, h⟩
theorem zeroOf_spec {P : Program} {t : TypeId} {z : Value} (h : zeroOf P t = some z) : ∃ i, P.info? t = some i ∧ i.zero = some z := by
  unfold zeroOf at h
  cases h1 : P.types.toList[t]? with
  | none => simp [h1] at h
  | some i =>
    simp only [h1] at h
    exact ⟨i, info_lt h1, h⟩
theorem places_of {P : Program} (n : Nat) : ∀ (fs : List Field) (at_ : Nat), contig P at_ n fs = true →
    ∃ places : List (Nat × Nat), fs.mapM (fun f => (P.info? f.type).map fun i => (f.offset, i.size)) = some places ∧ ∀ (i : Nat) (f : Field) (s : Nat), fs[i]? = some f → sizeOfT P f.type = some s → places[i]? = some (f.offset, s)
  | [], _, _ => ⟨[], rfl, fun i f s h => by simp at h⟩
  | f :: fs, at_, h => by
    unfold contig at h
    cases hs : sizeOfT P f.type with
    | none => simp [hs] at h
    | some s =>
      simp only [hs, Bool.and_eq_true] at h
      obtain ⟨places, h1, h2⟩ := places_of n fs _ h.2
      obtain ⟨i, hi, hz⟩ := sizeOfT_spec hs
      refine ⟨(f.offset, s) :: places, by simp [List.mapM_cons, hi, h1, hz], ?_⟩
      intro j g s' hg hs'
      cases j with
      | zero =>
        simp only [List.getElem?_cons_zero, Option.some.injEq] at hg
        subst hg
        rw [hs] at hs'
        simp only [Option.some.injEq] at hs'
        simp [hs']
      | succ j => exact h2 j g s' (by simpa using hg) hs'
theorem arrSegs_spec (s : Nat) : ∀ (n : Nat) (z : List Value), z.length = n * s → (arrSegs s n z).flatten = z ∧ (arrSegs s n z).length = n ∧ ∀ i (h : i < (arrSegs s n z).length), ((arrSegs s n z)[i]).length = s ∧ ((arrSegs s n z).take i).flatten.length = i * s
  | 0, z, h => ⟨by have : z = [] := List.eq_nil_of_length_eq_zero (by simpa using h); simp [arrSegs, this], rfl, fun i h => by simp [arrSegs] at h⟩
  | n + 1, z, h => by
    have hz : s ≤ z.length := by rw [h, Nat.succ_mul]; omega
    obtain ⟨k1, k2, k3⟩ := arrSegs_spec s n (z.drop s) (by rw [List.length_drop, h, Nat.succ_mul]; omega)
    have ht : (z.take s).length = s := by rw [List.length_take]; omega
    unfold arrSegs
    refine ⟨by rw [List.flatten_cons, k1, List.take_append_drop], by simp [k2], ?_⟩
    intro i hi
    cases i with
    | zero => exact ⟨ht, by simp⟩
    | succ i =>
      obtain ⟨e1, e2⟩ := k3 i (by simpa using hi)
      refine ⟨by simpa using e1, ?_⟩
      rw [List.take_succ_cons, List.flatten_cons, List.length_append, ht, e2, Nat.succ_mul]
      omega
theorem vBuild_spec {P : Program} {t : TypeId} {parts : Array (Nat × Operand)} {ρ : Operand → Value} {K : Value → Prop} (h : vBuild P t parts.toList ρ K) :
    ∃ v, (∀ w, (Instr.build t (parts.map fun (i, x) => (i, ρ x))).run P w = .ok v w) ∧ K v := by
  unfold vBuild at h
  have hmap : (parts.map fun (i, x) => (i, ρ x)).toList = parts.toList.map fun p => (p.1, ρ p.2) := by simp
  split at h
  · rename_i fs hd
    split at h
    · rename_i z hz
      cases hc : contig P 0 z.cells.toList.length fs.toList with
      | false => simp only [hc, cond_false] at h
      | true =>
        simp only [hc, cond_true] at h
        obtain ⟨k1, k2, k3⟩ := segsOf_spec z.cells.toList fs.toList 0 hc (Nat.zero_le _)
        obtain ⟨places, p1, p2⟩ := places_of _ fs.toList 0 hc
        obtain ⟨i, hi, hzi⟩ := zeroOf_spec hz
        obtain ⟨segs', hf, hk⟩ := fill_spec (places.toArray[·]?) ρ (szField P fs) _ parts.toList (segsOf P z.cells.toList fs.toList) (by
          intro j s hs
          unfold szField at hs
          cases hj : fs.toList[j]? with
          | none => simp [hj] at hs
          | some f =>
            simp only [hj] at hs
            obtain ⟨s', e1, e2, e3, e4⟩ := k3 j f hj
            rw [hs] at e1
            simp only [Option.some.injEq] at e1
            subst e1
            refine ⟨e2, e3, ?_⟩
            have := p2 j f s hj hs
            simp only [List.getElem?_toArray]
            rw [this, e4, Nat.zero_add]) h
        refine ⟨_, fun w => run_build w t _ ⟨segs'.flatten⟩ ?_, by rw [← joinL_eq]; exact hk⟩
        unfold Program.built
        rw [hi, descOf_spec hd, hmap]
        simp only [hzi, p1]
        rw [← hf]
        congr 1
        rw [k1, List.drop_zero]
    · exact h.elim
  · rename_i n e hd
    split at h
    · rename_i s hs
      split at h
      · rename_i z hz
        cases hc : Nat.beq z.cells.toList.length (n * s) with
        | false => simp only [hc, cond_false] at h
        | true =>
          simp only [hc, cond_true] at h
          obtain ⟨k1, k2, k3⟩ := arrSegs_spec s n z.cells.toList (Nat.eq_of_beq_eq_true hc)
          obtain ⟨i, hi, hzi⟩ := zeroOf_spec hz
          obtain ⟨ie, hie, hse⟩ := sizeOfT_spec hs
          obtain ⟨segs', hf, hk⟩ := fill_spec (fun i => some (i * s, s)) ρ (fun i => bif Nat.blt i n then some s else none) _ parts.toList (arrSegs s n z.cells.toList) (by
            intro j s' hj
            cases hb : Nat.blt j n with
            | false => simp [hb] at hj
            | true =>
              simp only [hb, cond_true, Option.some.injEq] at hj
              subst hj
              have hlt : j < n := Nat.le_of_ble_eq_true hb
              obtain ⟨e1, e2⟩ := k3 j (by rw [k2]; exact hlt)
              exact ⟨by rw [k2]; exact hlt, e1, by rw [e2]⟩) h
          refine ⟨_, fun w => run_build w t _ ⟨segs'.flatten⟩ ?_, by rw [← joinL_eq]; exact hk⟩
          unfold Program.built
          rw [hi, descOf_spec hd, hmap]
          simp only [hzi, hie, hse]
          rw [← hf]
          congr 1
          rw [k1]
      · exact h.elim
    · exact h.elim
  · exact h.elim

/-- A slice that is written out. -/
def vBuildSlice (P : Program) (t : TypeId) (len : Nat) (parts : List (Nat × Operand)) (ρ : Operand → Value) (w : World) (K : Value → World → Prop) : Prop :=
  match descOf P t with
  | some (.slice e) =>
    match sizeOfT P e with
    | some s =>
      match zeroOf P e with
      | some z =>
        bif Nat.beq z.cells.toList.length s && Nat.ble (len * s) 4096 && Nat.blt 0 s then
          partsIn (fun i => bif Nat.blt i len then some s else none) ρ parts (List.replicate len z.cells.toList) (fun segs => K (.slice (some ⟨w.heap.size, 0, none⟩) len len) (w.alloc (.cells ⟨joinL segs⟩ e)))
        else False
      | none => False
    | none => False
  | _ => False
theorem range_cells (z : Array Value) (n : Nat) (h : 0 < z.size) : (Array.range (n * z.size)).map (fun i => z[i % z.size]!) = ⟨(List.replicate n z.toList).flatten⟩ := by
  apply Array.ext'
  simp only [Array.toList_map, Array.toList_range]
  induction n with
  | zero => simp
  | succ n ih =>
    rw [List.replicate_succ', List.flatten_append, ← ih, Nat.succ_mul, List.range_add, List.map_append]
    congr 1
    simp only [List.map_map, List.flatten_cons, List.flatten_nil, List.append_nil]
    apply List.ext_getElem
    · simp
    · intro i h1 h2
      simp only [List.length_map, List.length_range] at h1
      simp only [List.getElem_map, Function.comp_apply, List.getElem_range, Array.getElem_toList]
      rw [show n * z.size + i = i + z.size * n by rw [Nat.mul_comm, Nat.add_comm], Nat.add_mul_mod_self_left, Nat.mod_eq_of_lt h1]
      simp [h1]
theorem vBuildSlice_spec {P : Program} {t : TypeId} {len : Nat} {parts : Array (Nat × Operand)} {ρ : Operand → Value} {w : World} {K : Value → World → Prop} (h : vBuildSlice P t len parts.toList ρ w K) :
    ∃ v w', (Instr.buildSlice t len (parts.map fun (i, x) => (i, ρ x))).run P w = .ok v w' ∧ K v w' := by
  unfold vBuildSlice at h
  have hmap : (parts.map fun (i, x) => (i, ρ x)).toList = parts.toList.map fun p => (p.1, ρ p.2) := by simp
  split at h
  · rename_i e hd
    split at h
    · rename_i s hs
      split at h
      · rename_i z hz
        cases hc : (Nat.beq z.cells.toList.length s && Nat.ble (len * s) 4096 && Nat.blt 0 s) with
        | false => simp only [hc, cond_false] at h
        | true =>
          simp only [hc, cond_true] at h
          simp only [Bool.and_eq_true] at hc
          obtain ⟨⟨c1, c2⟩, c3⟩ := hc
          have hzl : z.cells.toList.length = s := Nat.eq_of_beq_eq_true c1
          have hzs : z.cells.size = s := by simpa using hzl
          have hle : len * s ≤ 4096 := Nat.le_of_ble_eq_true c2
          have hpos : 0 < s := Nat.le_of_ble_eq_true c3
          obtain ⟨segs', hf, hk⟩ := fill_spec (fun i => some (i * s, s)) ρ (fun i => bif Nat.blt i len then some s else none) _ parts.toList (List.replicate len z.cells.toList) (by
            intro j s' hj
            cases hb : Nat.blt j len with
            | false => simp [hb] at hj
            | true =>
              simp only [hb, cond_true, Option.some.injEq] at hj
              subst hj
              have hlt : j < len := Nat.le_of_ble_eq_true hb
              refine ⟨by simpa using hlt, by simpa using hzl, ?_⟩
              rw [List.take_replicate, Nat.min_eq_left (Nat.le_of_lt hlt)]
              simp [hzs]) h
          refine ⟨_, _, ?_, hk⟩
          have hr := range_cells z.cells len (by omega)
          rw [hzs] at hr
          simp only [Instr.buildSlice, Sem.run_bind, run_underlying_of hd, Result.andThen_ok, run_sizeOf_of hs]
          rw [if_neg (by omega)]
          by_cases h0 : len * s = 0
          · have : len = 0 := by
              rcases Nat.mul_eq_zero.1 h0 with h | h
              · exact h
              · omega
            subst this
            simp only [List.replicate_zero, List.flatten_nil] at hf
            rw [joinL_eq]
            simp only [Nat.zero_mul, if_true, Sem.run_bind, Sem.run_pure, Result.andThen_ok, hmap]
            rw [show (Array.range 0).map (fun x => (#[] : Array Value)[x % (#[] : Array Value).size]!) = #[] from Array.ext' (by simp), hf]
            rfl
          · rw [if_neg h0]
            rw [joinL_eq]
            simp only [Sem.run_bind, run_zero_of hz, Sem.run_pure, Result.andThen_ok, hmap, hzs, hr, hf]
            rfl
      · exact h.elim
    · exact h.elim
  · exact h.elim

def vLen (P : Program) (ats : List TypeId) (args : List Value) (K : Value → Prop) (F : Prop) : Prop :=
  match ats with
  | t :: _ =>
    match args with
    | x :: _ =>
      match descOf P t with
      | some (.slice _) =>
        match x with
        | .slice _ n _ => K (.int .i64 (n : Int))
        | _ => F
      | some .string =>
        match x with
        | .string s => K (.int .i64 (s.size : Int))
        | _ => F
      | some (.array n _) => K (.int .i64 (n : Int))
      | _ => F
    | _ => F
  | _ => F
def vCap (P : Program) (ats : List TypeId) (args : List Value) (K : Value → Prop) (F : Prop) : Prop :=
  match ats with
  | t :: _ =>
    match args with
    | x :: _ =>
      match descOf P t with
      | some (.slice _) =>
        match x with
        | .slice _ _ n => K (.int .i64 (n : Int))
        | _ => F
      | _ => F
    | _ => F
  | _ => F
theorem minI_eq (a b : Int) : (if b < a then b else a) = min a b := by
  split <;> omega
theorem maxI_eq (a b : Int) : (if b > a then b else a) = max a b := by
  split <;> omega
def vMin (args : List Value) (K : Value → Prop) (F : Prop) : Prop :=
  match args with
  | [.int k a, .int _ b] => K (.int k (min a b))
  | _ => F
def vMax (args : List Value) (K : Value → Prop) (F : Prop) : Prop :=
  match args with
  | [.int k a, .int _ b] => K (.int k (max a b))
  | _ => F
/-- A slice of a slice, of a string, of an array. -/
def vSlice (P : Program) (t : TypeId) (x : Value) (lo hi mx : Option Value) (K : Value → Prop) : Prop :=
  match descOf P t with
  | some (.slice e) =>
    match x with
    | .slice a len cap =>
      match sizeOfT P e with
      | some s => ∃ l h m : Nat, bnd lo 0 l ∧ bnd hi len h ∧ bnd mx cap m ∧ l ≤ h ∧ h ≤ m ∧ m ≤ cap ∧ ∃ (a' : Option Addr) (n c : Nat), a' = (if m = l then a else a.map (·.add (l * s))) ∧ n = h - l ∧ c = m - l ∧ K (.slice a' n c)
      | none => False
    | _ => False
  | some .string =>
    match x with
    | .string s =>
      match mx with
      | none => ∃ l h : Nat, bnd lo 0 l ∧ bnd hi s.size h ∧ l ≤ h ∧ h ≤ s.size ∧ K (.string (s.extract l h))
      | some _ => False
    | _ => False
  | some (.array n e) =>
    match x with
    | .pointer (some a) =>
      match sizeOfT P e with
      | some s => ∃ l h m : Nat, bnd lo 0 l ∧ bnd hi n h ∧ bnd mx n m ∧ l ≤ h ∧ h ≤ m ∧ m ≤ n ∧ ∃ (a' : Addr) (k c : Nat), a' = (if m = l then a else a.add (l * s)) ∧ k = h - l ∧ c = m - l ∧ K (.slice (some a') k c)
      | none => False
    | _ => False
  | _ => False
theorem run_bound {P : Program} {x : Value} {y n d : Nat} {code : BoundsCode} {w : World} (h : bnd (some x) d n) (hn : n ≤ y) : (Instr.sliceBound x y code).run P w = .ok n w := by
  unfold bnd at h
  cases x <;> try (exact (show False from h).elim)
  simp only at h
  subst h
  simp only [Instr.sliceBound, asIntOf, Sem.run_bind, Sem.run_pure, Result.andThen_ok]
  rw [if_pos (by omega)]
  simp
theorem run_bounds {P : Program} {sl : Bool} {len cap l h m : Nat} {lo hi mx : Option Value} {w : World} (hl : bnd lo 0 l) (hh : bnd hi len h) (hm : bnd mx cap m) (h1 : l ≤ h) (h2 : h ≤ m) (h3 : m ≤ cap) (hx : mx.isSome = true → hi.isSome = true) :
    (Instr.sliceBounds sl len cap lo hi mx).run P w = .ok (l, h, m) w := by
  unfold Instr.sliceBounds
  cases mx with
  | none =>
    obtain rfl : m = cap := hm
    cases hi with
    | none =>
      obtain rfl : h = len := hh
      cases lo with
      | none =>
        obtain rfl : l = 0 := hl
        rfl
      | some v => simp only [Sem.run_bind, Sem.run_pure, Result.andThen_ok, run_bound hl h1]
    | some u =>
      cases lo with
      | none =>
        obtain rfl : l = 0 := hl
        simp only [Sem.run_bind, Sem.run_pure, Result.andThen_ok, run_bound hh h2]
      | some v => simp only [Sem.run_bind, Sem.run_pure, Result.andThen_ok, run_bound hh h2, run_bound hl h1]
  | some x =>
    cases hi with
    | none => exact absurd (hx rfl) (by simp)
    | some u =>
      cases lo with
      | none =>
        obtain rfl : l = 0 := hl
        simp only [Sem.run_bind, Sem.run_pure, Result.andThen_ok, run_bound hm h3, run_bound hh h2]
      | some v => simp only [Sem.run_bind, Sem.run_pure, Result.andThen_ok, run_bound hm h3, run_bound hh h2, run_bound hl h1]
def hiOk (hi mx : Option Value) : Bool :=
  match mx with
  | none => true
  | some _ =>
    match hi with
    | none => false
    | some _ => true
theorem hiOk_spec {hi mx : Option Value} (h : hiOk hi mx = true) : mx.isSome = true → hi.isSome = true := by
  cases mx <;> cases hi <;> first | (exact Bool.noConfusion h) | (intro _; rfl) | (intro hx; exact absurd hx (by simp))
theorem vSlice_spec {P : Program} {t : TypeId} {x : Value} {lo hi mx : Option Value} {K : Value → Prop} (h : (bif hiOk hi mx then vSlice P t x lo hi mx K else False)) :
    ∃ v, (∀ w, (Instr.sliceAt t x lo hi mx).run P w = .ok v w) ∧ K v := by
  cases hok : hiOk hi mx with
  | false => simp only [hok, cond_false] at h
  | true =>
    simp only [hok, cond_true] at h
    have hx := hiOk_spec hok
    unfold vSlice at h
    split at h
    · rename_i e hd
      split at h
      · split at h
        · rename_i s hs
          obtain ⟨l, h', m, b1, b2, b3, c1, c2, c3, a', n, c, rfl, rfl, rfl, hk⟩ := h
          refine ⟨_, fun w => ?_, hk⟩
          simp only [Instr.sliceAt, Instr.slice, Sem.run_bind, run_underlying_of hd, Result.andThen_ok, run_bounds b1 b2 b3 c1 c2 c3 hx, run_sizeOf_of hs, Sem.run_pure]
        · exact h.elim
      · exact h.elim
    · rename_i hd
      split at h
      · split at h
        · obtain ⟨l, h', b1, b2, c1, c2, hk⟩ := h
          refine ⟨_, fun w => ?_, hk⟩
          simp only [Instr.sliceAt, Instr.slice, Sem.run_bind, run_underlying_of hd, Result.andThen_ok, Option.isSome_none, Bool.false_eq_true, if_false, Sem.run_pure, run_bounds (mx := none) b1 b2 rfl c1 c2 (Nat.le_refl _) (by simp)]
        · exact h.elim
      · exact h.elim
    · rename_i n e hd
      split at h
      · split at h
        · rename_i s hs
          obtain ⟨l, h', m, b1, b2, b3, c1, c2, c3, a', k, c, rfl, rfl, rfl, hk⟩ := h
          refine ⟨_, fun w => ?_, hk⟩
          simp only [Instr.sliceAt, Sem.run_bind, run_underlying_of hd, Result.andThen_ok, Instr.sureAddr, Sem.run_pure, run_bounds b1 b2 b3 c1 c2 c3 hx, run_sizeOf_of hs]
        · exact h.elim
      · exact h.elim
    · exact h.elim

def vUn (op : UnOp) (x : Value) (K : Value → Prop) : Prop :=
  match op with
  | .not =>
    match x with
    | .bool b => K (.bool (!b))
    | _ => False
  | .neg =>
    match x with
    | .int k n => K (.int k (k.wrap (0 - n)))
    | _ => False
  | .xor =>
    match x with
    | .int k n => K (.int k (xorI k (if k.signed then -1 else k.max) n))
    | _ => False
  | _ => False
def hasDesc (P : Program) (t : TypeId) : Bool :=
  match descOf P t with
  | some _ => true
  | none => false
def vConvert (P : Program) (src dst : TypeId) (x : Value) (K : Value → Prop) (F : Prop) : Prop :=
  match x with
  | .int _ n =>
    match descOf P dst with
    | some (.int k) => bif hasDesc P src then K (.int k (k.wrap n)) else False
    | _ => F
  | _ => F

/-- What is asked of an operation: K holds of its value and of the world behind it. -/
def vOp (P : Program) (o : Oper) (ρ : Operand → Value) (w : World) (K : Value → World → Prop) : Prop :=
  match o.op with
  | .move x => force (ρ x) (fun v => K v w)
  | .assign x => force (ρ x) (fun v => K v w)
  | .pick c a b =>
    match ρ c with
    | .bool t => VIf t (force (ρ a) (fun v => K v w)) (force (ρ b) (fun v => K v w))
    | _ => False
  | .alloc e =>
    match zeroOf P e with
    | some z => forceC z (fun cs => K (.pointer (some ⟨w.heap.size, 0, none⟩)) (w.alloc (.cells cs e)))
    | none => False
  | .box e x => forceC (ρ x) (fun cs => K (.pointer (some ⟨w.heap.size, 0, none⟩)) (w.alloc (.cells cs e)))
  | .build t ps => vBuild P t ps.toList ρ (fun v => K v w)
  | .buildSlice t n ps => vBuildSlice P t n ps.toList ρ w K
  | .load t a => vLoad P t (ρ a) w (fun v => K v w)
  | .store t a x => force (ρ x) (fun v => vStore P t (ρ a) v w (fun w' => K undef w'))
  | .nilCheck x =>
    match ρ x with
    | .pointer (some a) => K (.pointer (some a)) w
    | _ => vFall P o ρ w K
  | .binOp op t x y _ => vBin P op t x y (ρ x) (ρ y) (fun v => K v w)
  | .unOp op _ x => vUn op (ρ x) (fun v => K v w)
  | .convert s d x => vConvert P s d (ρ x) (fun v => K v w) (vFall P o ρ w K)
  | .makeFunc f xs ys => K (.func f ⟨xs.toList.map ρ⟩ ⟨ys.toList.map ρ⟩) w
  | .slice t x lo hi mx => bif hiOk (hi.map ρ) (mx.map ρ) then vSlice P t (ρ x) (lo.map ρ) (hi.map ρ) (mx.map ρ) (fun v => K v w) else False
  | .fieldAddr t x f => vFieldAddr P t (ρ x) f (fun v => K v w)
  | .field t x f =>
    match fieldOf P t f with
    | some fd =>
      match ρ x with
      | .agg cs => vPart P fd.type cs fd.offset (fun v => K v w)
      | _ => False
    | none => False
  | .indexAddr t x i => vIndexAddr P t (ρ x) (ρ i) (fun v => K v w)
  | .index t x i => vIndex P t (ρ x) (ρ i) (fun v => K v w)
  | .extract x i =>
    match ρ x with
    | .tuple vs => VSome vs.toList[i]? (fun v => K v w)
    | _ => False
  | .call c =>
    match c.callee with
    | .value f =>
      match ρ f with
      | .func (.func g) first cap => Does P g (first.toList ++ c.args.toList.map ρ ++ cap.toList) w K
      | _ => False
    | .builtin b =>
      match b with
      | .len => vLen P c.argTypes.toList (c.args.toList.map ρ) (fun v => K v w) (vFall P o ρ w K)
      | .cap => vCap P c.argTypes.toList (c.args.toList.map ρ) (fun v => K v w) (vFall P o ρ w K)
      | .min => vMin (c.args.toList.map ρ) (fun v => K v w) (vFall P o ρ w K)
      | .max => vMax (c.args.toList.map ρ) (fun v => K v w) (vFall P o ρ w K)
      | _ => vFall P o ρ w K
    | .invoke _ _ => vFall P o ρ w K
  | _ => vFall P o ρ w K

theorem fn_callable {P : Program} {f : FuncId} (h : callable P f = true) : ∃ fn, P.funcs[f]? = some fn ∧ (fn.name == "runtime.NumGoroutine") = false ∧ fn.body.isNone = false := by
  unfold callable at h
  cases hf : P.funcs[f]? with
  | none => simp [hf] at h
  | some fn =>
    simp only [hf, Bool.and_eq_true] at h
    refine ⟨fn, rfl, ?_, ?_⟩
    · have := h.1
      simp only [bne, Bool.not_eq_true'] at this
      exact this
    · cases hb : fn.body
      · simp [hb] at h
      · rfl
theorem vLen_spec {P : Program} {o : Oper} {ρ : Operand → Value} {w : World} {K : Value → World → Prop} {c : Call} (ho : o.op = .call c) (hc : c.callee = .builtin .len)
    (h : vLen P c.argTypes.toList (c.args.toList.map ρ) (fun v => K v w) (vFall P o ρ w K)) : OpDoes P o ρ w K := by
  obtain ⟨callee, args, ats⟩ := c
  subst hc
  unfold vLen at h
  split at h
  · rename_i t tr hat
    split at h
    · rename_i x xr hxs
      have hargs : (args.map ρ) = ⟨x :: xr⟩ := Array.ext' (by simpa using hxs)
      have hats : ats = ⟨t :: tr⟩ := Array.ext' hat
      have key : ∀ n : Int, (Builtin.len_ ats o.type (args.map ρ)).run P w = .ok (.int .i64 n) w → (execOp ρ o).run P w = .ok (.value (.int .i64 n)) w := by
        intro n hn
        simp only [execOp, ho, resolve, invoke, builtin, Sem.run_bind, Sem.run_pure, Result.andThen_ok, hn]
      split at h
      · rename_i e hd
        split at h
        · refine .val (key _ ?_) h
          simp only [hats, hargs, Builtin.len_, List.getElem?_toArray, List.getElem?_cons_zero, Sem.run_bind, run_underlying_of hd, Result.andThen_ok, Sem.run_pure, goInt]
        · exact vFall.does h
      · rename_i hd
        split at h
        · refine .val (key _ ?_) h
          simp only [hats, hargs, Builtin.len_, List.getElem?_toArray, List.getElem?_cons_zero, Sem.run_bind, run_underlying_of hd, Result.andThen_ok, Sem.run_pure, goInt]
        · exact vFall.does h
      · rename_i hd
        refine .val (key _ ?_) h
        simp only [hats, hargs, Builtin.len_, List.getElem?_toArray, List.getElem?_cons_zero, Sem.run_bind, run_underlying_of hd, Result.andThen_ok, Sem.run_pure, goInt]
      · exact vFall.does h
    · exact vFall.does h
  · exact vFall.does h
theorem vCap_spec {P : Program} {o : Oper} {ρ : Operand → Value} {w : World} {K : Value → World → Prop} {c : Call} (ho : o.op = .call c) (hc : c.callee = .builtin .cap)
    (h : vCap P c.argTypes.toList (c.args.toList.map ρ) (fun v => K v w) (vFall P o ρ w K)) : OpDoes P o ρ w K := by
  obtain ⟨callee, args, ats⟩ := c
  subst hc
  unfold vCap at h
  split at h
  · rename_i t tr hat
    split at h
    · rename_i x xr hxs
      have hargs : (args.map ρ) = ⟨x :: xr⟩ := Array.ext' (by simpa using hxs)
      have hats : ats = ⟨t :: tr⟩ := Array.ext' hat
      split at h
      · rename_i e hd
        split at h
        · refine .val ?_ h
          simp only [execOp, ho, resolve, invoke, builtin, Sem.run_bind, Sem.run_pure, Result.andThen_ok]
          simp only [hats, hargs, Builtin.cap_, List.getElem?_toArray, List.getElem?_cons_zero, Sem.run_bind, run_underlying_of hd, Result.andThen_ok, Sem.run_pure, goInt]
        · exact vFall.does h
      · exact vFall.does h
    · exact vFall.does h
  · exact vFall.does h
theorem vMin_spec {P : Program} {o : Oper} {ρ : Operand → Value} {w : World} {K : Value → World → Prop} {c : Call} (ho : o.op = .call c) (hc : c.callee = .builtin .min)
    (h : vMin (c.args.toList.map ρ) (fun v => K v w) (vFall P o ρ w K)) : OpDoes P o ρ w K := by
  obtain ⟨callee, args, ats⟩ := c
  subst hc
  unfold vMin at h
  split at h
  · rename_i k a k' b hxs
    have hargs : (args.map ρ).toList = [.int k a, .int k' b] := by simpa using hxs
    refine .val ?_ h
    simp only [execOp, ho, resolve, invoke, builtin, Sem.run_bind, Sem.run_pure, Result.andThen_ok, Builtin.min_, hargs, List.foldlM_cons, List.foldlM_nil, Builtin.min2, minI_eq]
  · exact vFall.does h
theorem vMax_spec {P : Program} {o : Oper} {ρ : Operand → Value} {w : World} {K : Value → World → Prop} {c : Call} (ho : o.op = .call c) (hc : c.callee = .builtin .max)
    (h : vMax (c.args.toList.map ρ) (fun v => K v w) (vFall P o ρ w K)) : OpDoes P o ρ w K := by
  obtain ⟨callee, args, ats⟩ := c
  subst hc
  unfold vMax at h
  split at h
  · rename_i k a k' b hxs
    have hargs : (args.map ρ).toList = [.int k a, .int k' b] := by simpa using hxs
    refine .val ?_ h
    simp only [execOp, ho, resolve, invoke, builtin, Sem.run_bind, Sem.run_pure, Result.andThen_ok, Builtin.max_, hargs, List.foldlM_cons, List.foldlM_nil, Builtin.max2, maxI_eq]
  · exact vFall.does h

theorem OpDoes.of {P : Program} {o : Oper} {ρ : Operand → Value} {w : World} {K : Value → World → Prop} {s : Sem Value} (ho : ∀ w, (execOp ρ o).run P w = ((do pure (.value (← s)) : Sem Next)).run P w)
    (h : ∃ v, (∀ w, s.run P w = .ok v w) ∧ K v w) : OpDoes P o ρ w K := by
  obtain ⟨v, hv, hk⟩ := h
  refine .val ?_ hk
  rw [ho, Sem.run_bind, hv]
  rfl
theorem vOp_spec {P : Program} {o : Oper} {ρ : Operand → Value} {w : World} {K : Value → World → Prop} (h : vOp P o ρ w K) : OpDoes P o ρ w K := by
  unfold vOp at h
  split at h
  case h_1 x ho => exact .val (by simp only [execOp, ho]; rfl) (force_elim (K := fun v => K v w) h)
  case h_2 x ho => exact .val (by simp only [execOp, ho]; rfl) (force_elim (K := fun v => K v w) h)
  case h_3 c a b ho =>
    split at h
    · rename_i t ht
      rcases VIf.elim h with ⟨rfl, hk⟩ | ⟨rfl, hk⟩
      · exact .val (by simp only [execOp, ho, ht, asBool]; rfl) (force_elim (K := fun v => K v w) hk)
      · exact .val (by simp only [execOp, ho, ht, asBool]; rfl) (force_elim (K := fun v => K v w) hk)
    · exact h.elim
  case h_4 e ho =>
    split at h
    · rename_i z hz
      refine .inl ⟨_, _, ?_, forceC_elim (K := fun cs => K (.pointer (some ⟨w.heap.size, 0, none⟩)) (w.alloc (.cells cs e))) h⟩
      simp only [execOp, ho, Instr.alloc, Sem.run_bind, run_zero_of hz, Result.andThen_ok]
      rfl
    · exact h.elim
  case h_5 e x ho =>
    refine .inl ⟨_, _, ?_, forceC_elim (K := fun cs => K (.pointer (some ⟨w.heap.size, 0, none⟩)) (w.alloc (.cells cs e))) h⟩
    simp only [execOp, ho, Instr.box]
    rfl
  case h_6 t ps ho => exact .of (fun w => by simp only [execOp, ho]) (vBuild_spec h)
  case h_7 t n ps ho =>
    obtain ⟨v, w', hr, hk⟩ := vBuildSlice_spec h
    refine .inl ⟨v, w', ?_, hk⟩
    simp only [execOp, ho, Sem.run_bind, hr, Result.andThen_ok]
    rfl
  case h_8 t a ho =>
    unfold vLoad at h
    split at h
    · rename_i ad had
      obtain ⟨v, hl, hk⟩ := h
      refine .val ?_ hk
      simp only [execOp, ho, Instr.loadAt, had, Instr.sureAddr, Sem.run_bind, Sem.run_pure, Result.andThen_ok, hl.h]
    · exact h.elim
  case h_9 t a x ho =>
    have h := force_elim (K := fun v => vStore P t (ρ a) v w (fun w' => K undef w')) h
    unfold vStore at h
    split at h
    · rename_i ad had
      obtain ⟨w', hl, hk⟩ := h
      refine .inr (.inl ⟨w', ?_, hk⟩)
      simp only [execOp, ho, Instr.storeAt, had, Instr.sureAddr, Sem.run_bind, Sem.run_pure, Result.andThen_ok, hl.h]
    · exact h.elim
  case h_10 x ho =>
    split at h
    · rename_i ad had
      exact .val (by simp only [execOp, ho, had]; rfl) h
    · exact vFall.does h
  case h_11 op t x y ty ho => exact .of (fun w => by simp only [execOp, ho]) (vBin_spec h)
  case h_12 op t x ho =>
    refine .of (s := Op.unary op (ρ x)) (fun w => by simp only [execOp, ho]) ?_
    unfold vUn at h
    split at h
    · split at h
      · rename_i hx
        exact ⟨_, fun w => by rw [hx]; rfl, h⟩
      · exact h.elim
    · split at h
      · rename_i hx
        exact ⟨_, fun w => by rw [hx]; rfl, h⟩
      · exact h.elim
    · split at h
      · rename_i hx
        exact ⟨_, fun w => by rw [hx]; rfl, h⟩
      · exact h.elim
    · exact h.elim
  case h_13 s d x ho =>
    unfold vConvert at h
    split at h
    · rename_i k' n hx
      split at h
      · rename_i k hd
        cases hs : hasDesc P s with
        | false => simp only [hs, cond_false] at h
        | true =>
          simp only [hs, cond_true] at h
          unfold hasDesc at hs
          split at hs
          · rename_i d' hd'
            refine .of (s := convert s d (ρ x)) (fun w => by simp only [execOp, ho]) ⟨_, fun w => ?_, h⟩
            simp only [convert, Sem.run_bind, run_underlying_of hd, run_underlying_of hd', Result.andThen_ok, hx]
            cases d' <;> rfl
          · exact Bool.noConfusion hs
      · exact vFall.does h
    · exact vFall.does h
  case h_14 fn xs ys ho =>
    refine .val ?_ h
    simp only [execOp, ho, Instr.makeFunc, Sem.run_bind, Sem.run_pure, Result.andThen_ok]
    rw [show xs.map ρ = ⟨xs.toList.map ρ⟩ from Array.ext' (by simp), show ys.map ρ = ⟨ys.toList.map ρ⟩ from Array.ext' (by simp)]
  case h_15 t x lo hi mx ho => exact .of (fun w => by simp only [execOp, ho]) (vSlice_spec h)
  case h_16 t x f ho => exact .of (fun w => by simp only [execOp, ho]) (vFieldAddr_spec h)
  case h_17 t x f ho =>
    split at h
    · rename_i fd hf
      split at h
      · rename_i cs hx
        obtain ⟨fs, hd, hfs⟩ := fieldOf_spec hf
        obtain ⟨v, hv, hk⟩ := vPart_spec h
        refine .of (s := Instr.field t (ρ x) f) (fun w => by simp only [execOp, ho]) ⟨v, fun w => ?_, hk⟩
        simp only [Instr.field, Sem.run_bind, run_underlying_of hd, Result.andThen_ok, hfs, hx, asAgg, Sem.run_pure, hv]
      · exact h.elim
    · exact h.elim
  case h_18 t x i ho => exact .of (fun w => by simp only [execOp, ho]) (vIndexAddr_spec h)
  case h_19 t x i ho => exact .of (fun w => by simp only [execOp, ho]) (vIndex_spec h)
  case h_20 x i ho =>
    split at h
    · rename_i vs hx
      obtain ⟨v, hv, hk⟩ := VSome.elim h
      rw [Array.getElem?_toList] at hv
      exact .val (by simp only [execOp, ho, hx, Instr.extract, hv]; rfl) hk
    · exact h.elim
  case h_21 c ho =>
    split at h
    · rename_i f hc
      split at h
      · rename_i g first cap hf
        obtain ⟨fn, hfn, hn, hb⟩ := fn_callable h.ok
        refine .inr (.inr ⟨g, ⟨first.toList ++ c.args.toList.map ρ ++ cap.toList⟩, w, ?_, h.h⟩)
        simp only [execOp, ho, resolve, hc, hf, Deferred.ofValue, Sem.run_bind, Sem.run_pure, Result.andThen_ok, invoke, callFunc, program, Sem.run, hfn, hn, hb, Bool.false_eq_true, if_false]
        rw [show first ++ c.args.map ρ ++ cap = ⟨first.toList ++ c.args.toList.map ρ ++ cap.toList⟩ from Array.ext' (by simp)]
      · exact h.elim
    · rename_i b hc
      split at h
      · exact vLen_spec ho hc h
      · exact vCap_spec ho hc h
      · exact vMin_spec ho hc h
      · exact vMax_spec ho hc h
      · exact vFall.does h
    · exact vFall.does h
  case h_22 => exact vFall.does h

/-- Does a guard look at operation k? -/
def isGuard (k : Nat) : List Oper → Bool
  | [] => false
  | o :: r =>
    match o.guard with
    | none => isGuard k r
    | some (g, _) => Nat.beq g k || isGuard k r
/-- A Bool that a guard looks at is decided where it is reckoned. -/
def splitB (g : Bool) (v : Value) (K : Value → Prop) : Prop :=
  match g with
  | false => K v
  | true =>
    match v with
    | .bool b => VIf b (K (.bool true)) (K (.bool false))
    | v => K v
theorem splitB_elim {g : Bool} {v : Value} {K : Value → Prop} (h : splitB g v K) : K v := by
  unfold splitB at h
  split at h
  · exact h
  · split at h
    · rcases VIf.elim h with ⟨rfl, h⟩ | ⟨rfl, h⟩
      · exact h
      · exact h
    · exact h
/-- A list of operations, one behind another. -/
def vcOps (P : Program) (l : List Oper) (N : Fr → World → Prop) : Nat → List Oper → Fr → World → Prop
  | _, [], ρ, w => N ρ w
  | k, o :: r, ρ, w =>
    match o.guard with
    | none => vOp P o (ev ρ) w (fun v w' => splitB (isGuard k l) v (fun v => vcOps P l N (k + 1) r (up ρ o.dst v) w'))
    | some (g, want) =>
      match yl l ρ g with
      | none => vcOps P l N (k + 1) r (up ρ o.dst undef) w
      | some b =>
        match want with
        | true => VIf b (vOp P o (ev ρ) w (fun v w' => splitB (isGuard k l) v (fun v => vcOps P l N (k + 1) r (up ρ o.dst v) w'))) (vcOps P l N (k + 1) r (up ρ o.dst undef) w)
        | false => VIf b (vcOps P l N (k + 1) r (up ρ o.dst undef) w) (vOp P o (ev ρ) w (fun v w' => splitB (isGuard k l) v (fun v => vcOps P l N (k + 1) r (up ρ o.dst v) w')))

def dstsOf : List Oper → List Nat
  | [] => []
  | o :: r =>
    match o.dst with
    | none => dstsOf r
    | some d => d :: dstsOf r
def agree (ws : List Nat) (ρ' ρ : Fr) : Prop := ∀ t, t ∉ ws → ρ' t = ρ t
theorem agree.refl (ws : List Nat) (ρ : Fr) : agree ws ρ ρ := fun _ _ => rfl
theorem agree.trans {ws : List Nat} {a b c : Fr} (h : agree ws a b) (k : agree ws b c) : agree ws a c := fun t ht => (h t ht).trans (k t ht)
theorem agree.mono {ws vs : List Nat} {a b : Fr} (h : agree ws a b) (hs : ∀ t ∈ ws, t ∈ vs) : agree vs a b := fun t ht => h t (fun hm => ht (hs t hm))
theorem agree_up (ρ : Fr) (d : Option Nat) (v : Value) (ws : List Nat) (h : ∀ x, d = some x → x ∈ ws) : agree ws (up ρ d v) ρ := by
  intro t ht
  cases d with
  | none => rfl
  | some d =>
    have : t ≠ d := fun e => ht (e ▸ h d rfl)
    simp only [up]
    cases hb : Nat.beq t d
    · rfl
    · exact absurd (Nat.eq_of_beq_eq_true hb) this
theorem mem_dsts {l : List Oper} {o : Oper} (ho : o ∈ l) : ∀ x, o.dst = some x → x ∈ dstsOf l := by
  induction l with
  | nil => cases ho
  | cons p r ih =>
    intro x hx
    unfold dstsOf
    rcases List.mem_cons.1 ho with rfl | hm
    · simp only [hx]
      exact List.mem_cons_self
    · cases hp : p.dst with
      | none => exact ih hm x hx
      | some d => exact List.mem_cons_of_mem _ (ih hm x hx)

def okOps (n : Nat) : List Oper → Bool
  | [] => true
  | o :: r => dstOk n o && okOps n r
theorem okOps_mem {n : Nat} {l : List Oper} (h : okOps n l = true) : ∀ o ∈ l, dstOk n o = true := by
  induction l with
  | nil => intro o ho; cases ho
  | cons p r ih =>
    simp only [okOps, Bool.and_eq_true] at h
    intro o ho
    rcases List.mem_cons.1 ho with rfl | hm
    · exact h.1
    · exact ih h.2 o hm

theorem vcOps_sound {P : Program} {n : Nat} {ops : Array Oper} (hok : okOps n ops.toList = true) {N : Fr → World → Prop} {Q : Exit → Act → World → Prop} {ρ0 : Fr}
    (hQ : ∀ a' w', a'.tmps.size = n → a'.defers = [] → agree (dstsOf ops.toList) (fr a') ρ0 → N (fr a') w' → Q .normal a' w') :
    ∀ (r : List Oper) (k : Nat), ops.toList.drop k = r → ∀ (a : Act) (w : World), a.tmps.size = n → a.defers = [] → agree (dstsOf ops.toList) (fr a) ρ0 → ∀ q, vcOps P ops.toList N q r (fr a) w → wpOps P ops Q (List.range' k r.length) a w
  | [], k, _, a, w, hn, hd, hag, q, h => hQ a w hn hd hag h
  | o :: r, k, hdrop, a, w, hn, hd, hag, q, h => by
    have hk : ops.toList[k]? = some o := by
      have := congrArg (·[0]?) hdrop
      simpa using this
    have hmem : o ∈ ops.toList := List.mem_of_getElem? hk
    have hdrop' : ops.toList.drop (k + 1) = r := by
      have := congrArg (List.drop 1) hdrop
      simpa using this
    have hdst := dstOk_spec (okOps_mem hok o hmem)
    have hput : ∀ v, fr (a.put o.dst v) = up (fr a) o.dst v := fun v => fr_put hn hdst
    have hagp : ∀ v, agree (dstsOf ops.toList) (fr (a.put o.dst v)) ρ0 := fun v => by
      rw [hput]
      exact (agree_up _ _ _ _ (mem_dsts hmem)).trans hag
    have ih : ∀ v w', vcOps P ops.toList N (q + 1) r (up (fr a) o.dst v) w' → wpOps P ops Q (List.range' (k + 1) r.length) (a.put o.dst v) w' := fun v w' hv =>
      vcOps_sound hok hQ r (k + 1) hdrop' (a.put o.dst v) w' (by rw [size_put, hn]) (by rw [defers_put, hd]) (hagp v) (q + 1) (by rw [hput]; exact hv)
    have hk' : ops[k]? = some o := by rw [Array.getElem?_toList] at hk; exact hk
    have run : vOp P o (ev (fr a)) w (fun v w' => splitB (isGuard q ops.toList) v (fun v => vcOps P ops.toList N (q + 1) r (up (fr a) o.dst v) w')) → o.wp P a w (wpOps P ops Q (List.range' (k + 1) r.length)) Q := fun hv => by
      have := vOp_spec hv
      rw [ev_fr] at this
      exact this.wp (fun v w' hk => ih v w' (splitB_elim hk))
    rw [List.length_cons, List.range'_succ]
    simp only [wpOps, hk']
    unfold vcOps at h
    split at h
    · rename_i hg
      rw [if_pos (by simp [Region.wanted, hg])]
      exact .inl (run h)
    · rename_i g want hg
      rw [yl_fr] at h
      split at h
      · rename_i hy
        rw [if_neg (by simp [Region.wanted, hg, hy])]
        exact ih _ _ h
      · rename_i b hy
        split at h
        · rcases VIf.elim h with ⟨rfl, h⟩ | ⟨rfl, h⟩
          · rw [if_pos (by simp [Region.wanted, hg, hy])]
            exact .inl (run h)
          · rw [if_neg (by simp [Region.wanted, hg, hy])]
            exact ih _ _ h
        · rcases VIf.elim h with ⟨rfl, h⟩ | ⟨rfl, h⟩
          · rw [if_neg (by simp [Region.wanted, hg, hy])]
            exact ih _ _ h
          · rw [if_pos (by simp [Region.wanted, hg, hy])]
            exact .inl (run h)

def writes : Code → List Nat
  | .region _ ops _ => dstsOf ops.toList
  | .seq a b => writes a ++ writes b
  | .cond _ a b => writes a ++ writes b
  | .block _ b => writes b
  | .scope b => writes b
  | .loop b => writes b
  | _ => []
def okCode (n : Nat) : Code → Bool
  | .region _ ops _ => okOps n ops.toList
  | .seq a b => okCode n a && okCode n b
  | .cond _ a b => okCode n a && okCode n b
  | .block _ b => okCode n b
  | .scope b => okCode n b
  | .loop b => okCode n b
  | _ => true

/-- A region that draws its order. -/
structure VDraw (P : Program) (n : Nat) (ops : Array Oper) (N : Fr → World → Prop) (ρ : Fr) (w : World) : Prop where
  run : ∀ (id : Nat) (a : Act) (Q : Exit → Act → World → Prop), a.tmps.size = n → a.defers = [] → fr a = ρ →
    (∀ a' w', a'.tmps.size = n → a'.defers = [] → agree (dstsOf ops.toList) (fr a') ρ → N (fr a') w' → Q .normal a' w') → (Code.region id ops true).wp P Q a w
/-- A loop: it is left by an exit alone. -/
structure VLoop (P : Program) (n : Nat) (b : Code) (X : Exit → Fr → World → Prop) (ρ : Fr) (w : World) : Prop where
  run : ∀ (a : Act) (Q : Exit → Act → World → Prop), a.tmps.size = n → a.defers = [] → fr a = ρ →
    (∀ e a' w', e ≠ .normal → a'.tmps.size = n → a'.defers = [] → agree (writes b) (fr a') ρ → X e (fr a') w' → Q e a' w') → (Code.loop b).wp P Q a w

/-- How often a piece of code names an exit. -/
def exitsOf (id : Nat) : Code → Nat
  | .exit i => bif Nat.beq i id then 1 else 0
  | .seq a b => exitsOf id a + exitsOf id b
  | .cond _ a b => exitsOf id a + exitsOf id b
  | .block _ b => exitsOf id b
  | .scope b => exitsOf id b
  | .loop b => exitsOf id b
  | _ => 0
/-- May a piece of code go on behind itself? -/
def falls : Code → Bool
  | .ret => false
  | .exit _ => false
  | .goto _ => false
  | .loop _ => false
  | .seq a b => falls a && falls b
  | .cond _ a b => falls a || falls b
  | .block id b => falls b || Nat.blt 0 (exitsOf id b)
  | .scope b => falls b
  | _ => true
/-- Do ways meet behind a piece of code? -/
def joins : Code → Bool
  | .seq a b => joins a || joins b
  | .cond _ a b => falls a && falls b
  | .block id b => Nat.blt 1 (exitsOf id b)
  | .scope b => joins b
  | _ => false
/-- A piece of code behind which ways meet, and what follows. -/
structure VJoin (P : Program) (n : Nat) (c d : Code) (N : Fr → World → Prop) (X : Exit → Fr → World → Prop) (ρ : Fr) (w : World) : Prop where
  run : ∀ (a : Act) (Q : Exit → Act → World → Prop), a.tmps.size = n → a.defers = [] → fr a = ρ →
    (∀ a' w', a'.tmps.size = n → a'.defers = [] → agree (writes c ++ writes d) (fr a') ρ → N (fr a') w' → Q .normal a' w') →
    (∀ e a' w', e ≠ .normal → a'.tmps.size = n → a'.defers = [] → agree (writes c ++ writes d) (fr a') ρ → X e (fr a') w' → Q e a' w') → (Code.seq c d).wp P Q a w

/-- What is asked of a piece of code: N where it goes on, X where it leaves. -/
def vc (P : Program) (n : Nat) : Code → (Fr → World → Prop) → (Exit → Fr → World → Prop) → Fr → World → Prop
  | .skip, N, X, ρ, w => N ρ w
  | .region _ ops draw, N, X, ρ, w =>
    match draw with
    | false => vcOps P ops.toList N 0 ops.toList ρ w
    | true => VDraw P n ops N ρ w
  | .seq a b, N, X, ρ, w => bif joins a then VJoin P n a b N X ρ w else vc P n a (fun ρ' w' => vc P n b N X ρ' w') X ρ w
  | .cond c a b, N, X, ρ, w =>
    match ev ρ c with
    | .bool t => VIf t (vc P n a N X ρ w) (vc P n b N X ρ w)
    | _ => False
  | .block id b, N, X, ρ, w => vc P n b N (fun e ρ' w' =>
    match e with
    | .exit i => bif Nat.beq i id then N ρ' w' else X (.exit i) ρ' w'
    | e => X e ρ' w') ρ w
  | .loop b, N, X, ρ, w => VLoop P n b X ρ w
  | .scope b, N, X, ρ, w => vc P n b N (fun e ρ' w' =>
    match e with
    | .goto _ => False
    | e => X e ρ' w') ρ w
  | .exit id, N, X, ρ, w => X (.exit id) ρ w
  | .label _, N, X, ρ, w => N ρ w
  | .ret, N, X, ρ, w => X .ret ρ w
  | _, _, _, _, _ => False

theorem vc_sound {P : Program} {n : Nat} : ∀ (c : Code) (N : Fr → World → Prop) (X : Exit → Fr → World → Prop) (a : Act) (w : World) (Q : Exit → Act → World → Prop), okCode n c = true → vc P n c N X (fr a) w →
    a.tmps.size = n → a.defers = [] → (∀ a' w', a'.tmps.size = n → a'.defers = [] → agree (writes c) (fr a') (fr a) → N (fr a') w' → Q .normal a' w') →
    (∀ e a' w', e ≠ .normal → a'.tmps.size = n → a'.defers = [] → agree (writes c) (fr a') (fr a) → X e (fr a') w' → Q e a' w') → c.wp P Q a w
  | .skip, N, X, a, w, Q, hok, h, hn, hd, hN, hX => wp_skip (hN a w hn hd (agree.refl _ _) h)
  | .region id ops false, N, X, a, w, Q, hok, h, hn, hd, hN, hX => by
    refine wp_region ?_
    have := vcOps_sound hok hN ops.toList 0 (by simp) a w hn hd (agree.refl _ _) 0 h
    rw [List.range_eq_range']
    simpa using this
  | .region id ops true, N, X, a, w, Q, hok, h, hn, hd, hN, hX => VDraw.run h id a Q hn hd rfl hN
  | .seq x y, N, X, a, w, Q, hok, h, hn, hd, hN, hX => by
    unfold vc at h
    cases hj : joins x with
    | true =>
      simp only [hj, cond_true] at h
      exact h.run a Q hn hd rfl hN hX
    | false =>
      simp only [hj, cond_false] at h
      simp only [okCode, Bool.and_eq_true] at hok
      refine wp_seq (vc_sound x _ X a w _ hok.1 h hn hd ?_ ?_)
      · intro a' w' hn' hd' hag h'
        refine vc_sound y N X a' w' Q hok.2 h' hn' hd' ?_ ?_
        · intro a2 w2 h1 h2 h3 h4
          exact hN a2 w2 h1 h2 ((h3.mono (fun t ht => List.mem_append_right _ ht)).trans (hag.mono (fun t ht => List.mem_append_left _ ht))) h4
        · intro e a2 w2 he h1 h2 h3 h4
          exact hX e a2 w2 he h1 h2 ((h3.mono (fun t ht => List.mem_append_right _ ht)).trans (hag.mono (fun t ht => List.mem_append_left _ ht))) h4
      · intro e a' w' he h1 h2 h3 h4
        have := hX e a' w' he h1 h2 (h3.mono (fun t ht => List.mem_append_left _ ht)) h4
        cases e <;> first | exact absurd rfl he | exact this
  | .cond c x y, N, X, a, w, Q, hok, h, hn, hd, hN, hX => by
    simp only [okCode, Bool.and_eq_true] at hok
    unfold vc at h
    split at h
    · rename_i t ht
      rw [ev_fr] at ht
      rcases VIf.elim h with ⟨rfl, h⟩ | ⟨rfl, h⟩
      · exact wp_cond_true ht (vc_sound x N X a w Q hok.1 h hn hd (fun a' w' h1 h2 h3 h4 => hN a' w' h1 h2 (h3.mono (fun t ht => List.mem_append_left _ ht)) h4) (fun e a' w' he h1 h2 h3 h4 => hX e a' w' he h1 h2 (h3.mono (fun t ht => List.mem_append_left _ ht)) h4))
      · exact wp_cond_false ht (vc_sound y N X a w Q hok.2 h hn hd (fun a' w' h1 h2 h3 h4 => hN a' w' h1 h2 (h3.mono (fun t ht => List.mem_append_right _ ht)) h4) (fun e a' w' he h1 h2 h3 h4 => hX e a' w' he h1 h2 (h3.mono (fun t ht => List.mem_append_right _ ht)) h4))
    · exact h.elim
  | .block id b, N, X, a, w, Q, hok, h, hn, hd, hN, hX => by
    refine wp_block (vc_sound b N _ a w _ hok h hn hd ?_ ?_)
    · intro a' w' h1 h2 h3 h4
      exact hN a' w' h1 h2 h3 h4
    · intro e a' w' he h1 h2 h3 h4
      cases e with
      | exit i =>
        simp only at h4
        show (if i = id then Q .normal a' w' else Q (.exit i) a' w')
        cases hb : Nat.beq i id with
        | true =>
          rw [if_pos (Nat.eq_of_beq_eq_true hb)]
          simp only [hb, cond_true] at h4
          exact hN a' w' h1 h2 h3 h4
        | false =>
          rw [if_neg (fun e => by subst e; simp at hb)]
          simp only [hb, cond_false] at h4
          exact hX _ a' w' he h1 h2 h3 h4
      | normal => exact absurd rfl he
      | goto l => exact hX _ a' w' he h1 h2 h3 h4
      | ret => exact hX _ a' w' he h1 h2 h3 h4
      | panic c => exact hX _ a' w' he h1 h2 h3 h4
      | outgrown => exact hX _ a' w' he h1 h2 h3 h4
  | .loop b, N, X, a, w, Q, hok, h, hn, hd, hN, hX => VLoop.run h a Q hn hd rfl hX
  | .exit id, N, X, a, w, Q, hok, h, hn, hd, hN, hX => wp_exit (hX _ a w (by simp) hn hd (agree.refl _ _) h)
  | .label _, N, X, a, w, Q, hok, h, hn, hd, hN, hX => wp_label (hN a w hn hd (agree.refl _ _) h)
  | .ret, N, X, a, w, Q, hok, h, hn, hd, hN, hX => wp_ret (hX _ a w (by simp) hn hd (agree.refl _ _) h)
  | .rangeFunc _ _ _ _, N, X, a, w, Q, hok, h, hn, hd, hN, hX => False.elim h
  | .scope b, N, X, a, w, Q, hok, h, hn, hd, hN, hX => by
    refine wp_scope_straight (vc_sound b N _ a w _ hok h hn hd ?_ ?_)
    · intro a' w' h1 h2 h3 h4
      exact hN a' w' h1 h2 h3 h4
    · intro e a' w' he h1 h2 h3 h4
      cases e with
      | normal => exact absurd rfl he
      | goto l => exact h4.elim
      | exit i => exact hX _ a' w' he h1 h2 h3 h4
      | ret => exact hX _ a' w' he h1 h2 h3 h4
      | panic c => exact hX _ a' w' he h1 h2 h3 h4
      | outgrown => exact hX _ a' w' he h1 h2 h3 h4
  | .goto _, N, X, a, w, Q, hok, h, hn, hd, hN, hX => False.elim h
  | .refuse _, N, X, a, w, Q, hok, h, hn, hd, hN, hX => False.elim h

/-- The frame when a call begins. -/
def entry (args : List Value) : Fr := fun t =>
  match args[t]? with
  | some v => v
  | none => undef
/-- The values that a call hands back. -/
def retVals (P : Program) (ρ : Fr) (w : World) : List ResultVar → (List Value → Prop) → Prop
  | [], K => K []
  | .tmp t :: r, K => force (ρ t) (fun v => retVals P ρ w r (fun vs => K (v :: vs)))
  | .cell a t :: r, K =>
    match ρ a with
    | .pointer (some ad) => ∃ v, Loads P t ad w v ∧ retVals P ρ w r (fun vs => K (v :: vs))
    | _ => False
def retV (P : Program) (rs : List ResultVar) (K : Value → World → Prop) (ρ : Fr) (w : World) : Prop :=
  retVals P ρ w rs (fun vs =>
    match vs with
    | [v] => K v w
    | vs => K (.tuple ⟨vs⟩) w)
def resOf (a : Act) : ResultVar → Sem Value
  | .tmp t => pure (a.tmps.getD t undef)
  | .cell ad t => do loadVar t (← asAddr (a.tmps.getD ad undef))
theorem results_eq (fn : Func) (a : Act) : results fn a.tmps = (do
    let vs ← fn.results.mapM (resOf a)
    pure (if h : vs.size = 1 then vs[0] else .tuple vs)) := by
  unfold results
  congr 2
theorem retVals_spec {P : Program} {w : World} {a : Act} : ∀ (rs : List ResultVar) (K : List Value → Prop), retVals P (fr a) w rs K →
    ∃ vs, (rs.mapM (resOf a)).run P w = .ok vs w ∧ K vs
  | [], K, h => ⟨[], rfl, h⟩
  | .tmp t :: r, K, h => by
    have h := force_elim (K := fun v => retVals P (fr a) w r (fun vs => K (v :: vs))) h
    obtain ⟨vs, hr, hk⟩ := retVals_spec r _ h
    refine ⟨_, ?_, hk⟩
    rw [List.mapM_cons, Sem.run_bind]
    simp only [resOf, Sem.run_pure, Result.andThen_ok, Sem.run_bind]
    rw [hr]
    rfl
  | .cell ad t :: r, K, h => by
    unfold retVals at h
    split at h
    · rename_i x hx
      obtain ⟨v, hl, h⟩ := h
      obtain ⟨vs, hr, hk⟩ := retVals_spec r _ h
      refine ⟨_, ?_, hk⟩
      have hx' : a.tmps.getD ad undef = .pointer (some x) := hx
      have e : (resOf a (.cell ad t)).run P w = .ok v w := by
        simp only [resOf, hx', asAddr, Sem.run_bind, Sem.run_pure, Result.andThen_ok, hl.h]
      rw [List.mapM_cons, Sem.run_bind, e]
      simp only [Result.andThen_ok, Sem.run_bind]
      rw [hr]
      rfl
    · exact h.elim
theorem retV_spec {P : Program} {fn : Func} {K : Value → World → Prop} {a : Act} {w : World} (h : retV P fn.results.toList K (fr a) w) : ∃ v, (results fn a.tmps).run P w = .ok v w ∧ K v w := by
  unfold retV at h
  obtain ⟨vs, hr, hk⟩ := retVals_spec _ _ h
  rw [results_eq, Array.mapM_eq_mapM_toList, Sem.run_bind, map_eq_pure_bind, Sem.run_bind, hr]
  simp only [Result.andThen_ok, Sem.run_pure]
  match vs, hk with
  | [], hk => exact ⟨_, rfl, hk⟩
  | [v], hk => exact ⟨_, rfl, hk⟩
  | a :: b :: r, hk =>
    refine ⟨.tuple ⟨a :: b :: r⟩, ?_, hk⟩
    rw [dif_neg (by simp)]
def retX (P : Program) (rs : List ResultVar) (K : Value → World → Prop) : Exit → Fr → World → Prop
  | .ret, ρ, w => retV P rs K ρ w
  | _, _, _ => False
/-- A function does what its code is asked. -/
theorem Does.enter {P : Program} {f : FuncId} {fn : Func} {c : Code} {args : List Value} {w : World} {K : Value → World → Prop} (hf : P.funcs[f]? = some fn) (hb : fn.body = some c) (hc : callable P f = true)
    (hok : (okCode fn.ntmps c && Nat.ble args.length fn.ntmps) = true) (h : vc P fn.ntmps c (retV P fn.results.toList K) (retX P fn.results.toList K) (entry args) w) : Does P f args w K := by
  simp only [Bool.and_eq_true] at hok
  have hle : args.length ≤ fn.ntmps := Nat.le_of_ble_eq_true hok.2
  refine ⟨hc, calls_of_wp hf hb ?_⟩
  have hfr : fr { tmps := (⟨args⟩ : Array Value) ++ Array.replicate (fn.ntmps - (⟨args⟩ : Array Value).size) undef, defers := [] } = entry args := by
    funext t
    simp only [fr, entry, Array.getD_eq_getD_getElem?, List.size_toArray]
    rcases Nat.lt_or_ge t args.length with ht | ht
    · rw [Array.getElem?_append_left (by simpa using ht)]
      simp [ht]
    · rw [Array.getElem?_append_right (by simpa using ht)]
      rw [List.getElem?_eq_none ht]
      simp only [List.size_toArray]
      rcases Nat.lt_or_ge (t - args.length) (fn.ntmps - args.length) with h2 | h2
      · simp [Array.getElem?_replicate, h2]
      · simp [Array.getElem?_replicate, Nat.not_lt.2 h2]
  refine vc_sound c _ _ _ w _ hok.1 (by rw [hfr]; exact h) (by simp; omega) rfl ?_ ?_
  · intro a' w' hn hd _ h'
    obtain ⟨v, hr, hk⟩ := retV_spec h'
    exact ⟨hd, v, hr, v, rfl, hk⟩
  · intro e a' w' he hn hd _ h'
    cases e <;> try (exact (show False from h').elim)
    obtain ⟨v, hr, hk⟩ := retV_spec h'
    exact ⟨hd, v, hr, v, rfl, hk⟩

/-- Slots, by ranges. -/
def inR : List (Nat × Nat) → Nat → Bool
  | [], _ => false
  | (lo, hi) :: r, t => (Nat.ble lo t && Nat.blt t hi) || inR r t
def covers (ws : List Nat) (rs : List (Nat × Nat)) : Bool :=
  match ws with
  | [] => true
  | t :: r => inR rs t && covers r rs
theorem covers_spec {ws : List Nat} {rs : List (Nat × Nat)} (h : covers ws rs = true) {t : Nat} (ht : inR rs t = false) : t ∉ ws := by
  induction ws with
  | nil => simp
  | cons x r ih =>
    simp only [covers, Bool.and_eq_true] at h
    intro hm
    rcases List.mem_cons.1 hm with rfl | hm
    · rw [ht] at h
      exact Bool.noConfusion h.1
    · exact ih h.2 hm
def ovl : List (Nat × Value) → Nat → Value → Value
  | [], _, v => v
  | (i, u) :: r, t, v => bif Nat.beq t i then u else ovl r t v
/-- A frame of which the slots in the ranges are forgotten, but for those that are named. -/
def head (ρ : Fr) (rs : List (Nat × Nat)) (l : List (Nat × Value)) (j : Fr) : Fr := fun t => ovl l t (bif inR rs t then j t else ρ t)
def fits (ρ : Fr) : List (Nat × Value) → Prop
  | [] => True
  | (i, v) :: r => ρ i = v ∧ fits ρ r
theorem fits_ovl {ρ : Fr} {l : List (Nat × Value)} (h : fits ρ l) (t : Nat) : ovl l t (ρ t) = ρ t := by
  induction l with
  | nil => rfl
  | cons x r ih =>
    obtain ⟨i, v⟩ := x
    obtain ⟨h1, h2⟩ := h
    simp only [ovl]
    cases hb : Nat.beq t i with
    | true =>
      rw [cond_true, ← h1, Nat.eq_of_beq_eq_true hb]
    | false => rw [cond_false, ih h2]
theorem head_eq {ρ ρ' : Fr} {rs : List (Nat × Nat)} {l : List (Nat × Value)} {ws : List Nat} (hc : covers ws rs = true) (hag : agree ws ρ' ρ) (hf : fits ρ' l) : head ρ rs l ρ' = ρ' := by
  funext t
  have : (bif inR rs t then ρ' t else ρ t) = ρ' t := by
    cases hb : inR rs t with
    | true => rfl
    | false => exact (hag t (covers_spec hc hb)).symm
  unfold head
  rw [this]
  exact fits_ovl hf t

theorem VLoop.inv {P : Program} {n : Nat} {b : Code} {X : Exit → Fr → World → Prop} {ρ : Fr} {w : World} {α : Type} (rs : List (Nat × Nat)) (g : α → List (Nat × Value)) (I : α → World → Prop) (m : α → Nat) (x0 : α)
    (hok : (okCode n b && covers (writes b) rs) = true) (h0 : fits ρ (g x0)) (hI : I x0 w)
    (hr : ∀ (x : α) (wr : World) (j : Fr), I x wr → vc P n b (fun ρ' w' => ∃ y, fits ρ' (g y) ∧ I y w' ∧ m y < m x) X (head ρ rs (g x) j) wr) : VLoop P n b X ρ w := by
  simp only [Bool.and_eq_true] at hok
  refine ⟨fun a Q hn hd hfr hX => ?_⟩
  classical
  let J : Act → World → Prop := fun a' w' => a'.tmps.size = n ∧ a'.defers = [] ∧ agree (writes b) (fr a') ρ ∧ ∃ x, fits (fr a') (g x) ∧ I x w'
  -- the measure is kept in the proof by recursion on it
  have key : ∀ (k : Nat) (x : α), m x = k → ∀ (a' : Act) (w' : World), a'.tmps.size = n → a'.defers = [] → agree (writes b) (fr a') ρ → fits (fr a') (g x) → I x w' →
      ∀ (b' : Frame) (kk : List Item) (cs : List Frame), ∃ e a2 w2, Q e a2 w2 ∧ Arrives P (lone (b'.at a' (.code b :: .inLoop b :: kk)) cs w') b' kk cs e a2 w2 := by
    intro k
    induction k using Nat.strongRecOn with
    | _ k ih =>
      intro x hx a' w' h1 h2 h3 h4 h5 b' kk cs
      have hv := hr x w' (fr a') h5
      rw [head_eq hok.2 h3 h4] at hv
      have hwp := vc_sound b _ X a' w' (fun e a2 w2 => match e with
        | .normal => a2.tmps.size = n ∧ a2.defers = [] ∧ agree (writes b) (fr a2) ρ ∧ ∃ y, fits (fr a2) (g y) ∧ I y w2 ∧ m y < m x
        | e => Q e a2 w2) hok.1 hv h1 h2 (by
          intro a2 w2 k1 k2 k3 k4
          exact ⟨k1, k2, k3.trans h3, k4⟩) (by
          intro e a2 w2 he k1 k2 k3 k4
          have := hX e a2 w2 he k1 k2 (k3.trans h3) k4
          cases e <;> first | exact absurd rfl he | exact this)
      obtain ⟨e, a2, w2, hq, harr⟩ := hwp b' (.inLoop b :: kk) cs
      cases e with
      | normal =>
        obtain ⟨k1, k2, k3, y, k4, k5, k6⟩ := hq
        obtain ⟨e3, a3, w3, hq3, harr3⟩ := ih (m y) (by omega) y rfl a2 w2 k1 k2 k3 k4 k5 b' kk cs
        exact ⟨e3, a3, w3, hq3, .of_steps (Steps.trans harr (.one step_inLoop)) harr3⟩
      | exit id => exact ⟨_, a2, w2, hq, .pass (x := .inLoop b) rfl (fun _ _ => .inl (by simp)) harr⟩
      | goto l => exact ⟨_, a2, w2, hq, .pass (x := .inLoop b) rfl (fun _ _ => .inl (by simp)) harr⟩
      | ret => exact ⟨_, a2, w2, hq, .pass (x := .inLoop b) rfl (fun _ _ => .inl (by simp)) harr⟩
      | panic ch => exact ⟨_, a2, w2, hq, .pass (x := .inLoop b) rfl (fun _ _ => .inl (by simp)) harr⟩
      | outgrown => exact ⟨_, a2, w2, hq, .pass (x := .inLoop b) rfl (fun _ _ => .inl (by simp)) harr⟩
  intro b' kk cs
  subst hfr
  obtain ⟨e, a2, w2, hq, harr⟩ := key _ x0 rfl a w hn hd (agree.refl _ _) h0 hI b' kk cs
  exact ⟨e, a2, w2, hq, .of_steps (.one step_loop) harr⟩


/-- Both ways go on, each for itself. -/
theorem VJoin.go {P : Program} {n : Nat} {c d : Code} {N : Fr → World → Prop} {X : Exit → Fr → World → Prop} {ρ : Fr} {w : World}
    (hok : (okCode n c && okCode n d) = true) (h : vc P n c (fun ρ' w' => vc P n d N X ρ' w') X ρ w) : VJoin P n c d N X ρ w := by
  simp only [Bool.and_eq_true] at hok
  refine ⟨fun a Q hn hd hfr hN hX => ?_⟩
  subst hfr
  refine wp_seq (vc_sound c _ X a w _ hok.1 h hn hd ?_ ?_)
  · intro a' w' hn' hd' hag h'
    refine vc_sound d N X a' w' Q hok.2 h' hn' hd' ?_ ?_
    · intro a2 w2 h1 h2 h3 h4
      exact hN a2 w2 h1 h2 ((h3.mono (fun t ht => List.mem_append_right _ ht)).trans (hag.mono (fun t ht => List.mem_append_left _ ht))) h4
    · intro e a2 w2 he h1 h2 h3 h4
      exact hX e a2 w2 he h1 h2 ((h3.mono (fun t ht => List.mem_append_right _ ht)).trans (hag.mono (fun t ht => List.mem_append_left _ ht))) h4
  · intro e a' w' he h1 h2 h3 h4
    have := hX e a' w' he h1 h2 (h3.mono (fun t ht => List.mem_append_left _ ht)) h4
    cases e <;> first | exact absurd rfl he | exact this
/-- The ways meet: of what lies behind them only this is known. -/
theorem VJoin.cut {P : Program} {n : Nat} {c d : Code} {N : Fr → World → Prop} {X : Exit → Fr → World → Prop} {ρ : Fr} {w : World} {α : Type} (rs : List (Nat × Nat)) (g : α → List (Nat × Value)) (I : α → World → Prop)
    (hok : (okCode n c && okCode n d && covers (writes c) rs) = true) (h : vc P n c (fun ρ' w' => ∃ y, fits ρ' (g y) ∧ I y w') X ρ w)
    (hN : ∀ (x : α) (wr : World) (j : Fr), I x wr → vc P n d N X (head ρ rs (g x) j) wr) : VJoin P n c d N X ρ w := by
  simp only [Bool.and_eq_true] at hok
  refine ⟨fun a Q hn hd hfr hQ hX => ?_⟩
  subst hfr
  refine wp_seq (vc_sound c _ X a w _ hok.1.1 h hn hd ?_ ?_)
  · rintro a' w' hn' hd' hag ⟨y, h4, h5⟩
    have := hN y w' (fr a') h5
    rw [head_eq hok.2 hag h4] at this
    refine vc_sound d N X a' w' Q hok.1.2 this hn' hd' ?_ ?_
    · intro a2 w2 h1 h2 h3 h4
      exact hQ a2 w2 h1 h2 ((h3.mono (fun t ht => List.mem_append_right _ ht)).trans (hag.mono (fun t ht => List.mem_append_left _ ht))) h4
    · intro e a2 w2 he h1 h2 h3 h4
      exact hX e a2 w2 he h1 h2 ((h3.mono (fun t ht => List.mem_append_right _ ht)).trans (hag.mono (fun t ht => List.mem_append_left _ ht))) h4
  · intro e a' w' he h1 h2 h3 h4
    have := hX e a' w' he h1 h2 (h3.mono (fun t ht => List.mem_append_left _ ht)) h4
    cases e <;> first | exact absurd rfl he | exact this

/-- A step of the lexical walk of a region whose operations leave the world alone, but for a class C of worlds. -/
def vQFall (P : Program) (C : World → Prop) (o : Oper) (ρ : Operand → Value) (K : Value → Prop) : Prop := ∃ v, (∀ w, C w → Runs P o ρ w v w) ∧ K v
def vQ (P : Program) (C : World → Prop) (o : Oper) (ρ : Operand → Value) (K : Value → Prop) : Prop :=
  match o.op with
  | .move x => force (ρ x) K
  | .assign x => force (ρ x) K
  | .pick c a b =>
    match ρ c with
    | .bool t => VIf t (force (ρ a) K) (force (ρ b) K)
    | _ => False
  | .build t ps => vBuild P t ps.toList ρ K
  | .load t a =>
    match ρ a with
    | .pointer (some a) => ∃ v, (∀ w, C w → Loads P t a w v) ∧ K v
    | _ => False
  | .nilCheck x =>
    match ρ x with
    | .pointer (some a) => K (.pointer (some a))
    | _ => False
  | .binOp op t x y _ => vBin P op t x y (ρ x) (ρ y) K
  | .unOp op _ x => vUn op (ρ x) K
  | .convert s d x => vConvert P s d (ρ x) K (vQFall P C o ρ K)
  | .makeFunc f xs ys => K (.func f ⟨xs.toList.map ρ⟩ ⟨ys.toList.map ρ⟩)
  | .slice t x lo hi mx => bif hiOk (hi.map ρ) (mx.map ρ) then vSlice P t (ρ x) (lo.map ρ) (hi.map ρ) (mx.map ρ) K else False
  | .fieldAddr t x f => vFieldAddr P t (ρ x) f K
  | .field t x f =>
    match fieldOf P t f with
    | some fd =>
      match ρ x with
      | .agg cs => vPart P fd.type cs fd.offset K
      | _ => False
    | none => False
  | .indexAddr t x i => vIndexAddr P t (ρ x) (ρ i) K
  | .index t x i => vIndex P t (ρ x) (ρ i) K
  | .extract x i =>
    match ρ x with
    | .tuple vs => VSome vs.toList[i]? K
    | _ => False
  | .call c =>
    match c.callee with
    | .value f =>
      match ρ f with
      | .func (.func g) first cap => ∃ v, (∀ w, C w → Does P g (first.toList ++ c.args.toList.map ρ ++ cap.toList) w (fun v' w' => v' = v ∧ C w')) ∧ K v
      | _ => False
    | .builtin b =>
      match b with
      | .len => vLen P c.argTypes.toList (c.args.toList.map ρ) K False
      | .cap => vCap P c.argTypes.toList (c.args.toList.map ρ) K False
      | .min => vMin (c.args.toList.map ρ) K False
      | .max => vMax (c.args.toList.map ρ) K False
      | _ => False
    | .invoke _ _ => False
  | _ => vQFall P C o ρ K
def vcQ (P : Program) (C : World → Prop) (l : List Oper) (N : Fr → Prop) : Nat → List Oper → Fr → Prop
  | _, [], ρ => N ρ
  | k, o :: r, ρ =>
    match o.guard with
    | none => vQ P C o (ev ρ) (fun v => splitB (isGuard k l) v (fun v => vcQ P C l N (k + 1) r (up ρ o.dst v)))
    | some (g, want) =>
      match yl l ρ g with
      | none => vcQ P C l N (k + 1) r (up ρ o.dst undef)
      | some b =>
        match want with
        | true => VIf b (vQ P C o (ev ρ) (fun v => splitB (isGuard k l) v (fun v => vcQ P C l N (k + 1) r (up ρ o.dst v)))) (vcQ P C l N (k + 1) r (up ρ o.dst undef))
        | false => VIf b (vcQ P C l N (k + 1) r (up ρ o.dst undef)) (vQ P C o (ev ρ) (fun v => splitB (isGuard k l) v (fun v => vcQ P C l N (k + 1) r (up ρ o.dst v))))

theorem vQFall.quiet {P : Program} {C : World → Prop} {o : Oper} {a : Act} {K : Value → Prop} (h : vQFall P C o a.eval K) : ∃ v, (∀ w, C w → o.quietAt P a C w v) ∧ K v := by
  obtain ⟨v, hv, hk⟩ := h
  refine ⟨v, fun w hw => ?_, hk⟩
  unfold Oper.quietAt
  rw [(hv w hw).h]
  exact ⟨rfl, rfl⟩
theorem quiet_val {P : Program} {C : World → Prop} {o : Oper} {a : Act} {K : Value → Prop} {v : Value} (h : ∀ w, C w → (execOp a.eval o).run P w = .ok (.value v) w) (k : K v) : ∃ v, (∀ w, C w → o.quietAt P a C w v) ∧ K v := by
  refine ⟨v, fun w hw => ?_, k⟩
  unfold Oper.quietAt
  rw [h w hw]
  exact ⟨rfl, rfl⟩
theorem quiet_of {P : Program} {C : World → Prop} {o : Oper} {a : Act} {K : Value → Prop} {s : Sem Value} (ho : ∀ w, (execOp a.eval o).run P w = ((do pure (.value (← s)) : Sem Next)).run P w)
    (h : ∃ v, (∀ w, s.run P w = .ok v w) ∧ K v) : ∃ v, (∀ w, C w → o.quietAt P a C w v) ∧ K v := by
  obtain ⟨v, hv, hk⟩ := h
  refine quiet_val (fun w _ => ?_) hk
  rw [ho, Sem.run_bind, hv]
  rfl
theorem vLen_quiet {P : Program} {C : World → Prop} {o : Oper} {a : Act} {K : Value → Prop} {c : Call} (ho : o.op = .call c) (hc : c.callee = .builtin .len)
    (h : vLen P c.argTypes.toList (c.args.toList.map a.eval) K False) : ∃ v, (∀ w, C w → o.quietAt P a C w v) ∧ K v := by
  obtain ⟨callee, args, ats⟩ := c
  subst hc
  unfold vLen at h
  split at h
  · rename_i t tr hat
    split at h
    · rename_i x xr hxs
      have hargs : (args.map a.eval) = ⟨x :: xr⟩ := Array.ext' (by simpa using hxs)
      have hats : ats = ⟨t :: tr⟩ := Array.ext' hat
      have key : ∀ n : Int, ∀ w, (Builtin.len_ ats o.type (args.map a.eval)).run P w = .ok (.int .i64 n) w → (execOp a.eval o).run P w = .ok (.value (.int .i64 n)) w := by
        intro n w hn
        simp only [execOp, ho, resolve, invoke, builtin, Sem.run_bind, Sem.run_pure, Result.andThen_ok, hn]
      split at h
      · rename_i e hd
        split at h
        · refine quiet_val (fun w _ => key _ w ?_) h
          simp only [hats, hargs, Builtin.len_, List.getElem?_toArray, List.getElem?_cons_zero, Sem.run_bind, run_underlying_of hd, Result.andThen_ok, Sem.run_pure, goInt]
        · exact h.elim
      · rename_i hd
        split at h
        · refine quiet_val (fun w _ => key _ w ?_) h
          simp only [hats, hargs, Builtin.len_, List.getElem?_toArray, List.getElem?_cons_zero, Sem.run_bind, run_underlying_of hd, Result.andThen_ok, Sem.run_pure, goInt]
        · exact h.elim
      · rename_i hd
        refine quiet_val (fun w _ => key _ w ?_) h
        simp only [hats, hargs, Builtin.len_, List.getElem?_toArray, List.getElem?_cons_zero, Sem.run_bind, run_underlying_of hd, Result.andThen_ok, Sem.run_pure, goInt]
      · exact h.elim
    · exact h.elim
  · exact h.elim
theorem vCap_quiet {P : Program} {C : World → Prop} {o : Oper} {a : Act} {K : Value → Prop} {c : Call} (ho : o.op = .call c) (hc : c.callee = .builtin .cap)
    (h : vCap P c.argTypes.toList (c.args.toList.map a.eval) K False) : ∃ v, (∀ w, C w → o.quietAt P a C w v) ∧ K v := by
  obtain ⟨callee, args, ats⟩ := c
  subst hc
  unfold vCap at h
  split at h
  · rename_i t tr hat
    split at h
    · rename_i x xr hxs
      have hargs : (args.map a.eval) = ⟨x :: xr⟩ := Array.ext' (by simpa using hxs)
      have hats : ats = ⟨t :: tr⟩ := Array.ext' hat
      split at h
      · rename_i e hd
        split at h
        · refine quiet_val (fun w _ => ?_) h
          simp only [execOp, ho, resolve, invoke, builtin, Sem.run_bind, Sem.run_pure, Result.andThen_ok]
          simp only [hats, hargs, Builtin.cap_, List.getElem?_toArray, List.getElem?_cons_zero, Sem.run_bind, run_underlying_of hd, Result.andThen_ok, Sem.run_pure, goInt]
        · exact h.elim
      · exact h.elim
    · exact h.elim
  · exact h.elim
theorem vMin_quiet {P : Program} {C : World → Prop} {o : Oper} {a : Act} {K : Value → Prop} {c : Call} (ho : o.op = .call c) (hc : c.callee = .builtin .min)
    (h : vMin (c.args.toList.map a.eval) K False) : ∃ v, (∀ w, C w → o.quietAt P a C w v) ∧ K v := by
  obtain ⟨callee, args, ats⟩ := c
  subst hc
  unfold vMin at h
  split at h
  · rename_i k x k' y hxs
    have hargs : (args.map a.eval).toList = [.int k x, .int k' y] := by simpa using hxs
    refine quiet_val (fun w _ => ?_) h
    simp only [execOp, ho, resolve, invoke, builtin, Sem.run_bind, Sem.run_pure, Result.andThen_ok, Builtin.min_, hargs, List.foldlM_cons, List.foldlM_nil, Builtin.min2, minI_eq]
  · exact h.elim
theorem vMax_quiet {P : Program} {C : World → Prop} {o : Oper} {a : Act} {K : Value → Prop} {c : Call} (ho : o.op = .call c) (hc : c.callee = .builtin .max)
    (h : vMax (c.args.toList.map a.eval) K False) : ∃ v, (∀ w, C w → o.quietAt P a C w v) ∧ K v := by
  obtain ⟨callee, args, ats⟩ := c
  subst hc
  unfold vMax at h
  split at h
  · rename_i k x k' y hxs
    have hargs : (args.map a.eval).toList = [.int k x, .int k' y] := by simpa using hxs
    refine quiet_val (fun w _ => ?_) h
    simp only [execOp, ho, resolve, invoke, builtin, Sem.run_bind, Sem.run_pure, Result.andThen_ok, Builtin.max_, hargs, List.foldlM_cons, List.foldlM_nil, Builtin.max2, maxI_eq]
  · exact h.elim
theorem vQ_spec {P : Program} {C : World → Prop} {o : Oper} {a : Act} {K : Value → Prop} (h : vQ P C o a.eval K) : ∃ v, (∀ w, C w → o.quietAt P a C w v) ∧ K v := by
  unfold vQ at h
  split at h
  case h_1 x ho => exact quiet_val (fun w _ => by simp only [execOp, ho]; rfl) (force_elim h)
  case h_2 x ho => exact quiet_val (fun w _ => by simp only [execOp, ho]; rfl) (force_elim h)
  case h_3 c x y ho =>
    split at h
    · rename_i t ht
      rcases VIf.elim h with ⟨rfl, hk⟩ | ⟨rfl, hk⟩
      · exact quiet_val (fun w _ => by simp only [execOp, ho, ht, asBool]; rfl) (force_elim hk)
      · exact quiet_val (fun w _ => by simp only [execOp, ho, ht, asBool]; rfl) (force_elim hk)
    · exact h.elim
  case h_4 t ps ho => exact quiet_of (fun w => by simp only [execOp, ho]) (vBuild_spec h)
  case h_5 t x ho =>
    split at h
    · rename_i ad had
      obtain ⟨v, hl, hk⟩ := h
      refine quiet_val (fun w hw => ?_) hk
      simp only [execOp, ho, Instr.loadAt, had, Instr.sureAddr, Sem.run_bind, Sem.run_pure, Result.andThen_ok, (hl w hw).h]
    · exact h.elim
  case h_6 x ho =>
    split at h
    · rename_i ad had
      exact quiet_val (fun w _ => by simp only [execOp, ho, had]; rfl) h
    · exact h.elim
  case h_7 op t x y ty ho => exact quiet_of (fun w => by simp only [execOp, ho]) (vBin_spec h)
  case h_8 op t x ho =>
    refine quiet_of (s := Op.unary op (a.eval x)) (fun w => by simp only [execOp, ho]) ?_
    unfold vUn at h
    split at h
    · split at h
      · rename_i hx
        exact ⟨_, fun w => by rw [hx]; rfl, h⟩
      · exact h.elim
    · split at h
      · rename_i hx
        exact ⟨_, fun w => by rw [hx]; rfl, h⟩
      · exact h.elim
    · split at h
      · rename_i hx
        exact ⟨_, fun w => by rw [hx]; rfl, h⟩
      · exact h.elim
    · exact h.elim
  case h_9 s d x ho =>
    unfold vConvert at h
    split at h
    · rename_i k' n hx
      split at h
      · rename_i k hd
        cases hs : hasDesc P s with
        | false => simp only [hs, cond_false] at h
        | true =>
          simp only [hs, cond_true] at h
          unfold hasDesc at hs
          split at hs
          · rename_i d' hd'
            refine quiet_of (s := convert s d (a.eval x)) (fun w => by simp only [execOp, ho]) ⟨_, fun w => ?_, h⟩
            simp only [convert, Sem.run_bind, run_underlying_of hd, run_underlying_of hd', Result.andThen_ok, hx]
            cases d' <;> rfl
          · exact Bool.noConfusion hs
      · exact vQFall.quiet h
    · exact vQFall.quiet h
  case h_10 fn xs ys ho =>
    refine quiet_val (fun w _ => ?_) h
    simp only [execOp, ho, Instr.makeFunc, Sem.run_bind, Sem.run_pure, Result.andThen_ok]
    rw [show xs.map a.eval = ⟨xs.toList.map a.eval⟩ from Array.ext' (by simp), show ys.map a.eval = ⟨ys.toList.map a.eval⟩ from Array.ext' (by simp)]
  case h_11 t x lo hi mx ho => exact quiet_of (fun w => by simp only [execOp, ho]) (vSlice_spec h)
  case h_12 t x f ho => exact quiet_of (fun w => by simp only [execOp, ho]) (vFieldAddr_spec h)
  case h_13 t x f ho =>
    split at h
    · rename_i fd hf
      split at h
      · rename_i cs hx
        obtain ⟨fs, hd, hfs⟩ := fieldOf_spec hf
        obtain ⟨v, hv, hk⟩ := vPart_spec h
        refine quiet_of (s := Instr.field t (a.eval x) f) (fun w => by simp only [execOp, ho]) ⟨v, fun w => ?_, hk⟩
        simp only [Instr.field, Sem.run_bind, run_underlying_of hd, Result.andThen_ok, hfs, hx, asAgg, Sem.run_pure, hv]
      · exact h.elim
    · exact h.elim
  case h_14 t x i ho => exact quiet_of (fun w => by simp only [execOp, ho]) (vIndexAddr_spec h)
  case h_15 t x i ho => exact quiet_of (fun w => by simp only [execOp, ho]) (vIndex_spec h)
  case h_16 x i ho =>
    split at h
    · rename_i vs hx
      obtain ⟨v, hv, hk⟩ := VSome.elim h
      rw [Array.getElem?_toList] at hv
      exact quiet_val (fun w _ => by simp only [execOp, ho, hx, Instr.extract, hv]; rfl) hk
    · exact h.elim
  case h_17 c ho =>
    split at h
    · rename_i f hc
      split at h
      · rename_i g first cap hf
        obtain ⟨v, hv, hk⟩ := h
        refine ⟨v, fun w hw => ?_, hk⟩
        obtain ⟨fn, hfn, hn, hb⟩ := fn_callable (hv w hw).ok
        unfold Oper.quietAt
        simp only [execOp, ho, resolve, hc, hf, Deferred.ofValue, Sem.run_bind, Sem.run_pure, Result.andThen_ok, invoke, callFunc, program, Sem.run, hfn, hn, hb, Bool.false_eq_true, if_false]
        rw [show first ++ c.args.map a.eval ++ cap = ⟨first.toList ++ c.args.toList.map a.eval ++ cap.toList⟩ from Array.ext' (by simp)]
        exact ⟨rfl, (hv w hw).h.mono fun e w'' ⟨u, he, hu, hC⟩ => ⟨by rw [he, hu], hC⟩⟩
      · exact h.elim
    · rename_i b hc
      split at h
      · exact vLen_quiet ho hc h
      · exact vCap_quiet ho hc h
      · exact vMin_quiet ho hc h
      · exact vMax_quiet ho hc h
      · exact h.elim
    · exact h.elim
  case h_18 => exact vQFall.quiet h
theorem vcQ_sound {P : Program} {n : Nat} {ops : Array Oper} {C : World → Prop} (hok : okOps n ops.toList = true) {N : Fr → Prop} {R : Act → Prop} {ρ0 : Fr}
    (hR : ∀ a', a'.tmps.size = n → a'.defers = [] → agree (dstsOf ops.toList) (fr a') ρ0 → N (fr a') → R a') :
    ∀ (r : List Oper), (∀ o ∈ r, o ∈ ops.toList) → ∀ (a : Act), a.tmps.size = n → a.defers = [] → agree (dstsOf ops.toList) (fr a) ρ0 → ∀ q, vcQ P C ops.toList N q r (fr a) → wpQuiet P ops C R r a
  | [], _, a, hn, hd, hag, q, h => hR a hn hd hag h
  | o :: r, hm, a, hn, hd, hag, q, h => by
    have hmem : o ∈ ops.toList := hm o List.mem_cons_self
    have hdst := dstOk_spec (okOps_mem hok o hmem)
    have hput : ∀ v, fr (a.put o.dst v) = up (fr a) o.dst v := fun v => fr_put hn hdst
    have ih : ∀ v, vcQ P C ops.toList N (q + 1) r (up (fr a) o.dst v) → wpQuiet P ops C R r (a.put o.dst v) := fun v hv =>
      vcQ_sound hok hR r (fun p hp => hm p (List.mem_cons_of_mem _ hp)) (a.put o.dst v) (by rw [size_put, hn]) (by rw [defers_put, hd]) (by
        rw [hput]
        exact (agree_up _ _ _ _ (mem_dsts hmem)).trans hag) (q + 1) (by rw [hput]; exact hv)
    have run : vQ P C o (ev (fr a)) (fun v => splitB (isGuard q ops.toList) v (fun v => vcQ P C ops.toList N (q + 1) r (up (fr a) o.dst v))) → o.quiet P a C (wpQuiet P ops C R r) := fun hv => by
      rw [ev_fr] at hv
      obtain ⟨v, h1, h2⟩ := vQ_spec hv
      exact ⟨v, h1, ih v (splitB_elim h2)⟩
    refine wpQuiet_step fun K hK => ?_
    unfold vcQ at h
    split at h
    · rename_i hg
      rw [if_pos (by simp [Region.wanted, hg])]
      exact Oper.quiet_mono hK (run h)
    · rename_i g want hg
      rw [yl_fr] at h
      split at h
      · rename_i hy
        rw [if_neg (by simp [Region.wanted, hg, hy])]
        exact hK _ (ih _ h)
      · rename_i b hy
        split at h
        · rcases VIf.elim h with ⟨rfl, h⟩ | ⟨rfl, h⟩
          · rw [if_pos (by simp [Region.wanted, hg, hy])]
            exact Oper.quiet_mono hK (run h)
          · rw [if_neg (by simp [Region.wanted, hg, hy])]
            exact hK _ (ih _ h)
        · rcases VIf.elim h with ⟨rfl, h⟩ | ⟨rfl, h⟩
          · rw [if_neg (by simp [Region.wanted, hg, hy])]
            exact hK _ (ih _ h)
          · rw [if_pos (by simp [Region.wanted, hg, hy])]
            exact Oper.quiet_mono hK (run h)
/-- A region that draws its order, and whose operations yield one value each in every world of a class. -/
theorem VDraw.quiet {P : Program} {n : Nat} {ops : Array Oper} {N : Fr → World → Prop} {ρ : Fr} {w : World} (C : World → Prop) (hm : P.follows .mixedOrders = true) (hB : (Region.lexB .any ops && okOps n ops.toList) = true)
    (hC : C w.drew) (h : vcQ P C ops.toList (fun ρ' => ∀ w', C w' → N ρ' w') 0 ops.toList ρ) : VDraw P n ops N ρ w := by
  simp only [Bool.and_eq_true] at hB
  refine ⟨fun id a Q hn hd hfr hN => ?_⟩
  subst hfr
  refine wp_region_quiet (C := C) hm hB.1 hC ?_
  refine vcQ_sound hB.2 (R := fun a' => ∀ w', C w' → Q .normal a' w') ?_ ops.toList (fun _ h => h) a hn hd (agree.refl _ _) 0 h
  intro a' h1 h2 h3 h4 w' hw'
  exact hN a' w' h1 h2 h3 (h4 w' hw')

/-- Is a type's variable one cell? -/
def oneC (P : Program) (t : TypeId) : Bool :=
  match descOf P t with
  | none => false
  | some (.struct _) => false
  | some (.array _ _) => false
  | some _ => true
theorem oneC_spec {P : Program} {t : TypeId} {w : World} (h : oneC P t = true) : (isAgg t).run P w = .ok false w := by
  unfold oneC at h
  split at h
  · exact Bool.noConfusion h
  · exact Bool.noConfusion h
  · exact Bool.noConfusion h
  · rename_i d h1 h2 h3
    have := isAgg_of (w := w) h3
    rw [this]
    cases d <;> first | rfl | (exact (h1 _ rfl).elim) | (exact (h2 _ _ rfl).elim)
theorem Loads.one {P : Program} {t : TypeId} {a : Addr} {w : World} {v : Value} (ht : oneC P t = true) (hc : w.cell? a = some v) : Loads P t a w v := by
  refine ⟨?_⟩
  simp only [loadVar, Sem.run_bind, oneC_spec ht, Result.andThen_ok, Bool.false_eq_true, if_false, load, Sem.run, hc]
/-- A value of one cell. -/
def isOne : Value → Bool
  | .agg _ => false
  | .tuple _ => false
  | _ => true
theorem Stores.one {P : Program} {t : TypeId} {a : Addr} {w : World} {v u : Value} (hs : sizeOfT P t = some 1) (hv : isOne v = true) (hc : w.cell? a = some u) (hf : w.frozen? a = false) : Stores P t a v w (w.setCell a v) := by
  refine ⟨?_⟩
  have h1 : v.cells = #[v] := by cases v <;> first | rfl | (exact Bool.noConfusion hv)
  simp only [storeVar, Sem.run_bind, run_sizeOf_of hs, Result.andThen_ok, h1]
  have h0 : a.add 0 = a := by simp [Addr.add]
  cases v <;> first | (exact Bool.noConfusion hv) | (simp [storeCells, store, Sem.run, Sem.run_bind, h0, hc, hf])

theorem vcL_sound {P : Program} {n : Nat} {ops : Array Oper} (hok : okOps n ops.toList = true) {N : Fr → World → Prop} {Q : Exit → Act → World → Prop} {ρ0 : Fr}
    (hQ : ∀ a' w', a'.tmps.size = n → a'.defers = [] → agree (dstsOf ops.toList) (fr a') ρ0 → N (fr a') w' → Q .normal a' w') :
    ∀ (r : List Oper), (∀ o ∈ r, o ∈ ops.toList) → ∀ (a : Act) (w : World), a.tmps.size = n → a.defers = [] → agree (dstsOf ops.toList) (fr a) ρ0 → ∀ q, vcOps P ops.toList N q r (fr a) w → wpList P ops Q r a w
  | [], _, a, w, hn, hd, hag, q, h => hQ a w hn hd hag h
  | o :: r, hm, a, w, hn, hd, hag, q, h => by
    have hmem : o ∈ ops.toList := hm o List.mem_cons_self
    have hdst := dstOk_spec (okOps_mem hok o hmem)
    have hput : ∀ v, fr (a.put o.dst v) = up (fr a) o.dst v := fun v => fr_put hn hdst
    have ih : ∀ v w', vcOps P ops.toList N (q + 1) r (up (fr a) o.dst v) w' → wpList P ops Q r (a.put o.dst v) w' := fun v w' hv =>
      vcL_sound hok hQ r (fun p hp => hm p (List.mem_cons_of_mem _ hp)) (a.put o.dst v) w' (by rw [size_put, hn]) (by rw [defers_put, hd]) (by
        rw [hput]
        exact (agree_up _ _ _ _ (mem_dsts hmem)).trans hag) (q + 1) (by rw [hput]; exact hv)
    have run : vOp P o (ev (fr a)) w (fun v w' => splitB (isGuard q ops.toList) v (fun v => vcOps P ops.toList N (q + 1) r (up (fr a) o.dst v) w')) → o.wp P a w (wpList P ops Q r) Q := fun hv => by
      have := vOp_spec hv
      rw [ev_fr] at this
      exact this.wp (fun v w' hk => ih v w' (splitB_elim hk))
    unfold wpList
    unfold vcOps at h
    split at h
    · rename_i hg
      rw [if_pos (by simp [Region.wanted, hg])]
      exact .inl (run h)
    · rename_i g want hg
      rw [yl_fr] at h
      split at h
      · rename_i hy
        rw [if_neg (by simp [Region.wanted, hg, hy])]
        exact ih _ _ h
      · rename_i b hy
        split at h
        · rcases VIf.elim h with ⟨rfl, h⟩ | ⟨rfl, h⟩
          · rw [if_pos (by simp [Region.wanted, hg, hy])]
            exact .inl (run h)
          · rw [if_neg (by simp [Region.wanted, hg, hy])]
            exact ih _ _ h
        · rcases VIf.elim h with ⟨rfl, h⟩ | ⟨rfl, h⟩
          · rw [if_neg (by simp [Region.wanted, hg, hy])]
            exact ih _ _ h
          · rw [if_pos (by simp [Region.wanted, hg, hy])]
            exact .inl (run h)
theorem still_of_quiet {P : Program} {o : Oper} {a : Act} {w : World} {v : Value} {K : Act → Prop} (h : o.quietAt P a (fun w' => w' = w) w v) (k : K (a.put o.dst v)) : o.still P a w K := by
  unfold Oper.quietAt at h
  unfold Oper.still
  generalize (execOp a.eval o).run P w = r at *
  cases r with
  | ok n w' =>
    cases n <;> simp only [Oper.quietUpon] at h <;> simp only [Oper.stillUpon]
    case value u =>
      obtain ⟨h1, rfl⟩ := h
      exact ⟨h1, k⟩
    case skip =>
      obtain ⟨h1, rfl⟩ := h
      exact ⟨h1, k⟩
    case enter f args => exact ⟨h.1, v, h.2, k⟩
  | halt x w' => simp only [Oper.quietUpon] at h
theorem vcS_sound {P : Program} {n : Nat} {ops : Array Oper} {w : World} (hok : okOps n ops.toList = true) {N : Fr → Prop} {R : Act → Prop} {ρ0 : Fr}
    (hR : ∀ a', a'.tmps.size = n → a'.defers = [] → agree (dstsOf ops.toList) (fr a') ρ0 → N (fr a') → R a') :
    ∀ (r : List Oper), (∀ o ∈ r, o ∈ ops.toList) → ∀ (a : Act), a.tmps.size = n → a.defers = [] → agree (dstsOf ops.toList) (fr a) ρ0 → ∀ q, vcQ P (fun w' => w' = w) ops.toList N q r (fr a) → wpStill P ops w R r a
  | [], _, a, hn, hd, hag, q, h => hR a hn hd hag h
  | o :: r, hm, a, hn, hd, hag, q, h => by
    have hmem : o ∈ ops.toList := hm o List.mem_cons_self
    have hdst := dstOk_spec (okOps_mem hok o hmem)
    have hput : ∀ v, fr (a.put o.dst v) = up (fr a) o.dst v := fun v => fr_put hn hdst
    have ih : ∀ v, vcQ P (fun w' => w' = w) ops.toList N (q + 1) r (up (fr a) o.dst v) → wpStill P ops w R r (a.put o.dst v) := fun v hv =>
      vcS_sound hok hR r (fun p hp => hm p (List.mem_cons_of_mem _ hp)) (a.put o.dst v) (by rw [size_put, hn]) (by rw [defers_put, hd]) (by
        rw [hput]
        exact (agree_up _ _ _ _ (mem_dsts hmem)).trans hag) (q + 1) (by rw [hput]; exact hv)
    have run : vQ P (fun w' => w' = w) o (ev (fr a)) (fun v => splitB (isGuard q ops.toList) v (fun v => vcQ P (fun w' => w' = w) ops.toList N (q + 1) r (up (fr a) o.dst v))) → o.still P a w (wpStill P ops w R r) := fun hv => by
      rw [ev_fr] at hv
      obtain ⟨v, h1, h2⟩ := vQ_spec hv
      exact still_of_quiet (h1 w rfl) (ih v (splitB_elim h2))
    refine wpStill_step fun K hK => ?_
    unfold vcQ at h
    split at h
    · rename_i hg
      rw [if_pos (by simp [Region.wanted, hg])]
      exact Oper.still_mono hK (run h)
    · rename_i g want hg
      rw [yl_fr] at h
      split at h
      · rename_i hy
        rw [if_neg (by simp [Region.wanted, hg, hy])]
        exact hK _ (ih _ h)
      · rename_i b hy
        split at h
        · rcases VIf.elim h with ⟨rfl, h⟩ | ⟨rfl, h⟩
          · rw [if_pos (by simp [Region.wanted, hg, hy])]
            exact Oper.still_mono hK (run h)
          · rw [if_neg (by simp [Region.wanted, hg, hy])]
            exact hK _ (ih _ h)
        · rcases VIf.elim h with ⟨rfl, h⟩ | ⟨rfl, h⟩
          · rw [if_neg (by simp [Region.wanted, hg, hy])]
            exact hK _ (ih _ h)
          · rw [if_pos (by simp [Region.wanted, hg, hy])]
            exact Oper.still_mono hK (run h)
/-- A region that draws its order: k reads, in whatever order; then what follows in the one order that is left. -/
theorem VDraw.tail {P : Program} {n : Nat} {ops : Array Oper} {N : Fr → World → Prop} {ρ : Fr} {w : World} (k : Nat) (hm : P.follows .mixedOrders = true) (hB : (Region.lexTailB .any ops k && okOps n ops.toList) = true)
    (h : vcQ P (fun w' => w' = w.drew) ops.toList (fun ρ' => vcOps P ops.toList N k (ops.toList.drop k) ρ' w.drew) 0 (ops.toList.take k) ρ) : VDraw P n ops N ρ w := by
  simp only [Bool.and_eq_true] at hB
  refine ⟨fun id a Q hn hd hfr hN => ?_⟩
  subst hfr
  have hops : ops.toList.toArray = ops := by simp
  have hok := hB.2
  have key : (Code.region id ops.toList.toArray true).wp P Q a w := by
    refine wp_region_still_tail k hm (by rw [hops]; exact hB.1) ?_
    rw [hops]
    refine vcS_sound (ops := ops) hok (R := fun a' => wpList P ops Q (ops.toList.drop k) a' w.drew) ?_ (ops.toList.take k) (fun o ho => List.mem_of_mem_take ho) a hn hd (agree.refl _ _) 0 h
    intro a' h1 h2 h3 h4
    exact vcL_sound hok hN (ops.toList.drop k) (fun o ho => List.mem_of_mem_drop ho) a' _ h1 h2 h3 k h4
  rwa [hops] at key

/-- Operations that only read, and yield a value. -/
def readsOnly : Op → Bool
  | .move _ => true
  | .assign _ => true
  | .pick _ _ _ => true
  | .build _ _ => true
  | .load _ _ => true
  | .nilCheck _ => true
  | .binOp _ _ _ _ _ => true
  | .unOp _ _ _ => true
  | .convert _ _ _ => true
  | .makeFunc _ _ _ => true
  | .slice _ _ _ _ _ => true
  | .fieldAddr _ _ _ => true
  | .field _ _ _ => true
  | .indexAddr _ _ _ => true
  | .index _ _ _ => true
  | .extract _ _ => true
  | .call c =>
    match c.callee with
    | .builtin .len => true
    | .builtin .cap => true
    | .builtin .min => true
    | .builtin .max => true
    | _ => false
  | _ => false
theorem value_only {P : Program} {ρ : Operand → Value} {o : Oper} (h : readsOnly o.op = true) {w w' : World} {r : Next} (hr : (execOp ρ o).run P w = .ok r w') : ∃ v, r = .value v := by
  have key : ∀ s : Sem Value, ((do pure (.value (← s)) : Sem Next)).run P w = .ok r w' → ∃ v, r = .value v := by
    intro s hs
    rw [Sem.run_bind] at hs
    cases h1 : s.run P w with
    | ok v w1 =>
      rw [h1] at hs
      simp only [Result.andThen_ok, Sem.run_pure, Result.ok.injEq] at hs
      exact ⟨v, hs.1.symm⟩
    | halt x w1 =>
      rw [h1] at hs
      cases hs
  have pv : ∀ u : Value, (pure (.value u) : Sem Next).run P w = .ok r w' → ∃ v, r = .value v := by
    intro u hs
    simp only [Sem.run_pure, Result.ok.injEq] at hs
    exact ⟨u, hs.1.symm⟩
  obtain ⟨dst, op, ty, pos, after, guard⟩ := o
  cases op <;> simp only [readsOnly, Bool.false_eq_true] at h <;> simp only [execOp] at hr
  case move x => exact pv _ hr
  case assign x => exact pv _ hr
  case pick c a b =>
    rw [Sem.run_bind] at hr
    cases h1 : (asBool (ρ c)).run P w with
    | ok v w1 =>
      rw [h1] at hr
      simp only [Result.andThen_ok, Sem.run_pure, Result.ok.injEq] at hr
      exact ⟨_, hr.1.symm⟩
    | halt x w1 =>
      rw [h1] at hr
      cases hr
  case nilCheck x =>
    have rp : ∀ e : RuntimeError, (runtimePanic e : Sem Next).run P w = .ok r w' → (e = .nilDeref) → ∃ v, r = .value v := by
      intro e hs he
      subst he
      simp [runtimePanic, program, Sem.run, Sem.run_bind, goPanic] at hs
    split at hr
    · exact rp _ hr rfl
    · exact rp _ hr rfl
    · exact rp _ hr rfl
    · split at hr
      · exact rp _ hr rfl
      · simp only [Sem.run_bind] at hr
        rename_i t' w0 _
        cases h1 : (program : Sem Program).run P w with
        | halt x w1 => rw [h1] at hr; cases hr
        | ok p w1 =>
          rw [h1] at hr
          simp only [Result.andThen_ok] at hr
          cases h3 : (nilAhead (p.types.size + Made.depth) t' w0 _).run P w1 with
          | halt x w2 => rw [h3] at hr; cases hr
          | ok b w2 =>
            rw [h3] at hr
            simp only [Result.andThen_ok] at hr
            split at hr <;> first | (simp [unsupported, Sem.run, Sem.run_bind] at hr; done) | (simp only [Sem.run_pure, Result.ok.injEq] at hr; exact ⟨_, hr.1.symm⟩)
      · exact pv _ hr
    · exact pv _ hr
  case call c =>
    obtain ⟨callee, args, ats⟩ := c
    cases callee <;> simp only [Bool.false_eq_true] at h
    rename_i b
    cases b <;> simp only [Bool.false_eq_true] at h <;> simp only [resolve, Sem.run_bind, Sem.run_pure, Result.andThen_ok, invoke, builtin] at hr <;> exact key _ (by simpa only [Sem.run_bind, Sem.run_pure] using hr)
  all_goals exact key _ hr

def schedB (ops : Array Oper) : List Nat → Array Bool → Bool
  | [], listed => (Region.ready .any ops listed).isEmpty
  | i :: r, listed => ((((ops[i]?).any fun o => readsOnly o.op) && (Region.ready .any ops listed).contains i && Region.free .any ops listed i) || decide (Region.ready .any ops listed = [i])) && schedB ops r (listed.setIfInBounds i true)
/-- The operations in a given order: what reads, reads the same in every world of S; what writes leaves S. -/
def vcSch (P : Program) (l : List Oper) (S : World → Prop) (N : Fr → World → Prop) : List Nat → Fr → World → Prop
  | [], ρ, w => N ρ w
  | i :: r, ρ, w =>
    match l[i]? with
    | none => False
    | some o =>
      match o.guard with
      | none =>
        bif readsOnly o.op then vQ P S o (ev ρ) (fun v => splitB (isGuard i l) v (fun v => vcSch P l S N r (up ρ o.dst v) w))
        else vOp P o (ev ρ) w (fun v w' => S w' ∧ splitB (isGuard i l) v (fun v => vcSch P l S N r (up ρ o.dst v) w'))
      | some (g, want) =>
        match yl l ρ g with
        | none => vcSch P l S N r (up ρ o.dst undef) w
        | some b =>
          match want with
          | true => VIf b (bif readsOnly o.op then vQ P S o (ev ρ) (fun v => splitB (isGuard i l) v (fun v => vcSch P l S N r (up ρ o.dst v) w)) else vOp P o (ev ρ) w (fun v w' => S w' ∧ splitB (isGuard i l) v (fun v => vcSch P l S N r (up ρ o.dst v) w'))) (vcSch P l S N r (up ρ o.dst undef) w)
          | false => VIf b (vcSch P l S N r (up ρ o.dst undef) w) (bif readsOnly o.op then vQ P S o (ev ρ) (fun v => splitB (isGuard i l) v (fun v => vcSch P l S N r (up ρ o.dst v) w)) else vOp P o (ev ρ) w (fun v w' => S w' ∧ splitB (isGuard i l) v (fun v => vcSch P l S N r (up ρ o.dst v) w')))
theorem vQ_yields {P : Program} {ops : Array Oper} {S : World → Prop} {o : Oper} {a : Act} {K : Value → Prop} (hr : readsOnly o.op = true) (hw : Region.wanted o (yielded ops a.tmps) = true) (h : vQ P S o a.eval K) : ∃ v, YieldsIf P ops S o v a ∧ K v := by
  obtain ⟨v, h1, h2⟩ := vQ_spec h
  refine ⟨v, .inl ⟨hw, fun w hS => ?_⟩, h2⟩
  have h3 := h1 w hS
  unfold Oper.quietAt at h3
  cases hrun : (execOp a.eval o).run P w with
  | halt x w' => rw [hrun] at h3; exact (show False from h3).elim
  | ok r w' =>
    obtain ⟨u, rfl⟩ := value_only hr hrun
    rw [hrun] at h3
    obtain ⟨e1, e2⟩ := h3
    rw [e1, e2]
theorem vcSch_sound {P : Program} {n : Nat} {ops : Array Oper} {S : World → Prop} (hok : okOps n ops.toList = true) (hsel : Region.noSelect ops = true) {N : Fr → World → Prop} {Q : Exit → Act → World → Prop} {ρ0 : Fr}
    (hQ : ∀ a' w', a'.tmps.size = n → a'.defers = [] → agree (dstsOf ops.toList) (fr a') ρ0 → N (fr a') w' → Q .normal a' w') (hp : ∀ c a w, ¬ Q (.panic c) a w) :
    ∀ (sch : List Nat) (fuel : Nat) (listed : Array Bool), sch.length ≤ fuel → schedB ops sch listed = true → ∀ (a : Act) (w : World), a.tmps.size = n → a.defers = [] → agree (dstsOf ops.toList) (fr a) ρ0 → S w → vcSch P ops.toList S N sch (fr a) w →
      wpAnyH P .any ops Q S fuel listed a w
  | [], fuel, listed, _, hB, a, w, hn, hd, hag, hS, h => wpAnyH_done (by simpa [schedB] using hB) (hQ a w hn hd hag h) fuel
  | i :: r, 0, listed, hle, _, a, w, hn, hd, hag, hS, h => by simp at hle
  | i :: r, fuel + 1, listed, hle, hB, a, w, hn, hd, hag, hS, h => by
    unfold schedB at hB
    simp only [Bool.and_eq_true] at hB
    obtain ⟨hB1, hB2⟩ := hB
    unfold vcSch at h
    cases ho : ops.toList[i]? with
    | none => simp [ho] at h
    | some o =>
      simp only [ho] at h
      have ho' : ops[i]? = some o := by rw [Array.getElem?_toList] at ho; exact ho
      have hmem : o ∈ ops.toList := List.mem_of_getElem? ho
      have hdst := dstOk_spec (okOps_mem hok o hmem)
      have hput : ∀ v, fr (a.put o.dst v) = up (fr a) o.dst v := fun v => fr_put hn hdst
      have ih : ∀ v w', S w' → vcSch P ops.toList S N r (up (fr a) o.dst v) w' → wpAnyH P .any ops Q S fuel (listed.setIfInBounds i true) (a.put o.dst v) w' := fun v w' hS' hv =>
        vcSch_sound hok hsel hQ hp r fuel _ (by simp only [List.length_cons] at hle; omega) hB2 (a.put o.dst v) w' (by rw [size_put, hn]) (by rw [defers_put, hd]) (by
          rw [hput]
          exact (agree_up _ _ _ _ (mem_dsts hmem)).trans hag) hS' (by rw [hput]; exact hv)
      have hany : (ops[i]?).any (fun o => readsOnly o.op) = readsOnly o.op := by rw [ho']; rfl
      have hpan : ∀ v c a' w', Q (.panic c) (a'.put o.dst v) w' → Q (.panic c) a' w' := fun v c a' w' hq => (hp _ _ _ hq).elim
      -- an operation that yields
      have take : ∀ v, YieldsIf P ops S o v a → vcSch P ops.toList S N r (up (fr a) o.dst v) w → (readsOnly o.op = true ∨ Region.wanted o (yielded ops a.tmps) = false) → wpAnyH P .any ops Q S (fuel + 1) listed a w := by
        intro v hy hv hro
        rcases Bool.or_eq_true _ _ ▸ hB1 with hB1 | hB1
        · simp only [Bool.and_eq_true] at hB1
          obtain ⟨⟨-, hc⟩, hf⟩ := hB1
          exact wpAnyH_take ho' hsel hf hc (hpan v) hy hS (ih v w hS hv)
        · have hr1 := of_decide_eq_true hB1
          refine wpAnyH_all hr1 (by simp) ?_
          intro k hk
          obtain rfl : k = i := by simpa using hk
          exact hy.wpOp ho' hS ⟨hS, ih v w hS hv⟩
      have act : Region.wanted o (yielded ops a.tmps) = true → readsOnly o.op = false → vOp P o (ev (fr a)) w (fun v w' => S w' ∧ splitB (isGuard i ops.toList) v (fun v => vcSch P ops.toList S N r (up (fr a) o.dst v) w')) → wpAnyH P .any ops Q S (fuel + 1) listed a w := by
        intro hw hro hv
        rw [hany, hro] at hB1
        simp only [Bool.false_and, Bool.false_or] at hB1
        have hr1 := of_decide_eq_true hB1
        refine wpAnyH_all hr1 (by simp) ?_
        intro k hk
        obtain rfl : k = i := by simpa using hk
        unfold wpOp
        simp only [ho', hw, if_true]
        have := vOp_spec hv
        rw [ev_fr] at this
        exact .inl (this.wp fun v w' hk => ⟨hk.1, ih v w' hk.1 (splitB_elim hk.2)⟩)
      have run : Region.wanted o (yielded ops a.tmps) = true → (bif readsOnly o.op then vQ P S o (ev (fr a)) (fun v => splitB (isGuard i ops.toList) v (fun v => vcSch P ops.toList S N r (up (fr a) o.dst v) w)) else vOp P o (ev (fr a)) w (fun v w' => S w' ∧ splitB (isGuard i ops.toList) v (fun v => vcSch P ops.toList S N r (up (fr a) o.dst v) w'))) → wpAnyH P .any ops Q S (fuel + 1) listed a w := by
        intro hw hv
        cases hro : readsOnly o.op with
        | true =>
          simp only [hro, cond_true] at hv
          rw [ev_fr] at hv
          obtain ⟨v, hy, hk⟩ := vQ_yields hro hw hv
          exact take v hy (splitB_elim hk) (.inl hro)
        | false =>
          simp only [hro, cond_false] at hv
          exact act hw hro hv
      have skip : Region.wanted o (yielded ops a.tmps) = false → vcSch P ops.toList S N r (up (fr a) o.dst undef) w → wpAnyH P .any ops Q S (fuel + 1) listed a w :=
        fun hw hv => take undef (.inr ⟨hw, rfl⟩) hv (.inr hw)
      split at h
      · rename_i hg
        exact run (by simp [Region.wanted, hg]) h
      · rename_i g want hg
        rw [yl_fr] at h
        split at h
        · rename_i hy
          exact skip (by simp [Region.wanted, hg, hy]) h
        · rename_i b hy
          split at h
          · rcases VIf.elim h with ⟨rfl, h⟩ | ⟨rfl, h⟩
            · exact run (by simp [Region.wanted, hg, hy]) h
            · exact skip (by simp [Region.wanted, hg, hy]) h
          · rcases VIf.elim h with ⟨rfl, h⟩ | ⟨rfl, h⟩
            · exact skip (by simp [Region.wanted, hg, hy]) h
            · exact run (by simp [Region.wanted, hg, hy]) h
/-- A region that draws its order, of which one order serves: S holds all along. -/
theorem VDraw.held {P : Program} {n : Nat} {ops : Array Oper} {N : Fr → World → Prop} {ρ : Fr} {w : World} (S : World → Prop) (sch : List Nat) (hm : P.follows .mixedOrders = true)
    (hB : (Region.noSelect ops && schedB ops sch (Array.replicate ops.size false) && okOps n ops.toList && Nat.ble sch.length ops.size) = true)
    (hS : S w.drew) (h : vcSch P ops.toList S N sch ρ w.drew) : VDraw P n ops N ρ w := by
  simp only [Bool.and_eq_true] at hB
  obtain ⟨⟨⟨h1, h2⟩, h3⟩, h4⟩ := hB
  refine ⟨fun id a Q hn hd hfr hN => ?_⟩
  subst hfr
  refine wp_region_noPanic (wp_region_held (S := S) hm ?_)
  refine vcSch_sound h3 h1 ?_ ?_ sch ops.size _ (Nat.le_of_ble_eq_true h4) h2 a w.drew hn hd (agree.refl _ _) hS h
  · intro a' w' k1 k2 k3 k4
    exact NoPanic.normal (hN a' w' k1 k2 k3 k4)
  · intro c a' w' hq
    exact hq
end Go.Proofs.YtofomopdaponbaaGreatDoor
