/-
  JOINED TEXTS (C25 S0 S1 S2 L1 F2): a pure machine for the model's code, its soundness, and what the program's functions come to.
-/
import Derived.Test.YtcbngkmmmfaaoaaGreatDoorM4
import Derived.Test.YtcbngkmmmfaaoaaGreatDoorM5
import Derived.IntWalk
import Derived.Lib.Bytealg
set_option linter.unusedVariables false
set_option linter.unusedSimpArgs false
namespace Go.Ac
open Go.RowKit
set_option maxRecDepth 100000
theorem rowsA :
  (∀ {P : Program} {G : Glob} {md : FuncId → Md} (n i : Nat) (ops : Array Oper) (f : Fr) (h : AH) (Q : EX → Fr → AH → Prop), wpC P G md (some n) (Code.region i ops false) f h Q = wpO P G md false ops (AH.next h) 0 (Array.toList ops) f (AH.up h (Array.size ops)) (outX Q)) ∧
  (∀ {P : Program} {G : Glob} {md : FuncId → Md} {nt : Option Nat} (i : Nat) (ops : Array Oper) (f : Fr) (h : AH) (Q : EX → Fr → AH → Prop), wpC P G md nt (Code.region i ops true) f h Q = wpD P G md ops (AH.next h) 0 (Array.toList ops) f (AH.up h (Array.size ops)) [] (outX Q)) ∧
  (∀ (Q : EX → Fr → AH → Prop) (f : Fr) (h : AH), outX Q (OX.normal f h) = Q EX.normal f h) ∧
  (∀ {P : Program} {G : Glob} {md : FuncId → Md} {nt : Option Nat} (x : Operand) (a b : Code) (f : Fr) (h : AH) (Q : EX → Fr → AH → Prop), wpC P G md nt (Code.cond x a b) f h Q = match opnd G (Fr.at f) x with | PV.bool t => if t = true then wpC P G md nt a f h Q else wpC P G md nt b f h Q | x => False) ∧
  (∀ {P : Program} {G : Glob} {md : FuncId → Md} {nt : Option Nat} (f : Fr) (h : AH) (Q : EX → Fr → AH → Prop), wpC P G md nt Code.ret f h Q = Q EX.ret f h) ∧
  (∀ {P : Program} {G : Glob} {md : FuncId → Md} {nt : Option Nat} (f : Fr) (h : AH) (Q : EX → Fr → AH → Prop), wpC P G md nt Code.skip f h Q = Q EX.normal f h) ∧
  (∀ {P : Program} {G : Glob} {md : FuncId → Md} {nt : Option Nat} (i : Nat) (f : Fr) (h : AH) (Q : EX → Fr → AH → Prop), wpC P G md nt (Code.exit i) f h Q = Q (EX.exit i) f h) ∧
  (∀ {P : Program} {G : Glob} {md : FuncId → Md} {nt : Option Nat} (i : Nat) (c : Code) (f : Fr) (h : AH) (Q : EX → Fr → AH → Prop), wpC P G md nt (Code.block i c) f h Q = wpC P G md nt c f h (KB i Q)) ∧
  (∀ {P : Program} {G : Glob} {md : FuncId → Md} {nt : Option Nat} (l : Nat) (f : Fr) (h : AH) (Q : EX → Fr → AH → Prop), wpC P G md nt (Code.label l) f h Q = Q EX.normal f h) ∧
  (∀ {P : Program} {G : Glob} {md : FuncId → Md} {rd : Bool} (ops : Array Oper) (base i : Nat) (o : Oper) (rest : List Oper) (f : Fr) (h : AH) (Q : OX → Prop), wpO P G md rd ops base i (o :: rest) f h Q = gdO P G md rd ops base i o rest f h Q (wantA ops (Fr.at f) o)) ∧
  (∀ {P : Program} {G : Glob} {md : FuncId → Md} (ops : Array Oper) (base i : Nat) (o : Oper) (rest : List Oper) (f : Fr) (h : AH) (lg : List (Nat × Nat)) (Q : OX → Prop), wpD P G md ops base i (o :: rest) f h lg Q = gdD P G md ops base i o rest f h lg Q (wantA ops (Fr.at f) o)) ∧
  (∀ {ops : Array Oper} {F : Nat → PV} {d : Option Tmp} {op : Op} {t : TypeId} {p : String} {af : Array Edge}, wantA ops F { dst := d, op := op, type := t, pos := p, after := af, guard := none } = some true) ∧
  (∀ {P : Program} {G : Glob} {md : FuncId → Md} {rd : Bool} (ops : Array Oper) (base i : Nat) (o : Oper) (rest : List Oper) (f : Fr) (h : AH) (Q : OX → Prop), gdO P G md rd ops base i o rest f h Q (some true) = goO P G md rd ops base i rest (Oper.dst o) f h Q (aop P (opnd G (Fr.at f)) h (base + i) o)) ∧
  (∀ {P : Program} {G : Glob} {md : FuncId → Md} {rd : Bool} (ops : Array Oper) (base i : Nat) (o : Oper) (rest : List Oper) (f : Fr) (h : AH) (Q : OX → Prop), gdO P G md rd ops base i o rest f h Q (some false) = wpO P G md rd ops base (i + 1) rest (putA f (Oper.dst o) (PV.tup [])) h Q) ∧
  (∀ {P : Program} {G : Glob} {md : FuncId → Md} (ops : Array Oper) (base i : Nat) (o : Oper) (rest : List Oper) (f : Fr) (h : AH) (Q : OX → Prop), gdD P G md ops base i o rest f h [] Q (some true) = goD P G md ops base i rest (Oper.dst o) f h [] Q (aop P (opnd G (Fr.at f)) h (base + i) o)) ∧
  (∀ {P : Program} {G : Glob} {md : FuncId → Md} (ops : Array Oper) (base i : Nat) (o : Oper) (rest : List Oper) (f : Fr) (h : AH) (lg : List (Nat × Nat)) (Q : OX → Prop), gdD P G md ops base i o rest f h lg Q (some false) = wpD P G md ops base (i + 1) rest (putA f (Oper.dst o) (PV.tup [])) h lg Q) ∧
  (∀ {P : Program} {G : Glob} {md : FuncId → Md} {rd : Bool} (ops : Array Oper) (base i : Nat) (rest : List Oper) (d : Option Tmp) (f : Fr) (h : AH) (Q : OX → Prop) (v : PV), goO P G md rd ops base i rest d f h Q (some (OR.q v)) = wpO P G md rd ops base (i + 1) rest (putA f d v) h Q) ∧
  (∀ {P : Program} {G : Glob} {md : FuncId → Md} {rd : Bool} (ops : Array Oper) (base i : Nat) (rest : List Oper) (d : Option Tmp) (f : Fr) (h : AH) (Q : OX → Prop) (v : PV) (id : Nat) (ob : AO), goO P G md rd ops base i rest d f h Q (some (OR.w v id ob)) = wpO P G md rd ops base (i + 1) rest (putA f d v) (AH.set h id ob) Q) ∧
  (∀ {P : Program} {G : Glob} {md : FuncId → Md} (ops : Array Oper) (base i : Nat) (rest : List Oper) (d : Option Tmp) (f : Fr) (h : AH) (lg : List (Nat × Nat)) (Q : OX → Prop) (v : PV), goD P G md ops base i rest d f h lg Q (some (OR.q v)) = wpD P G md ops base (i + 1) rest (putA f d v) h lg Q) ∧
  (∀ {P : Program} {G : Glob} {md : FuncId → Md} (ops : Array Oper) (base i : Nat) (rest : List Oper) (d : Option Tmp) (f : Fr) (h : AH) (lg : List (Nat × Nat)) (Q : OX → Prop) (v : PV) (ob : AO), goD P G md ops base i rest d f h lg Q (some (OR.w v (base + i) ob)) = wpD P G md ops base (i + 1) rest (putA f d v) (AH.set h (base + i) ob) lg Q) ∧
  (∀ (f : Fr) (d : Tmp) (v : PV), putA f (some d) v = Fr.set f d v) ∧
  (∀ (f : Fr) (v : PV), putA f none v = f) ∧
  (∀ {P : Program} {G : Glob} {md : FuncId → Md} {rd : Bool} (ops : Array Oper) (base i : Nat) (f : Fr) (h : AH) (Q : OX → Prop), wpO P G md rd ops base i [] f h Q = Q (OX.normal f h)) ∧
  (∀ {P : Program} {G : Glob} {md : FuncId → Md} (ops : Array Oper) (base i : Nat) (f : Fr) (h : AH) (lg : List (Nat × Nat)) (Q : OX → Prop), wpD P G md ops base i [] f h lg Q = Q (OX.normal f h)) ∧
  (∀ {P : Program} {G : Glob} {md : FuncId → Md} {nt : Option Nat} (b : Code) (Q : EX → Fr → AH → Prop) (f : Fr) (h : AH), KS P G md nt b Q EX.normal f h = wpC P G md nt b f h Q) ∧
  (∀ {P : Program} {G : Glob} {md : FuncId → Md} {nt : Option Nat} (b : Code) (Q : EX → Fr → AH → Prop) (f : Fr) (h : AH), KS P G md nt b Q EX.ret f h = Q EX.ret f h) ∧
  (∀ {P : Program} {G : Glob} {md : FuncId → Md} {nt : Option Nat} (b : Code) (Q : EX → Fr → AH → Prop) (i : Nat) (f : Fr) (h : AH), KS P G md nt b Q (EX.exit i) f h = Q (EX.exit i) f h) ∧
  (∀ (id : Nat) (Q : EX → Fr → AH → Prop) (f : Fr) (h : AH), KB id Q EX.normal f h = Q EX.normal f h) ∧
  (∀ (id : Nat) (Q : EX → Fr → AH → Prop) (f : Fr) (h : AH), KB id Q EX.ret f h = Q EX.ret f h) ∧
  (∀ (id : Nat) (Q : EX → Fr → AH → Prop) (f : Fr) (h : AH), KB id Q (EX.exit id) f h = Q EX.normal f h) ∧
  (∀ (f : Fr) (d j : Nat) (v : PV), Fr.at (Fr.set f d v) j = if j = d then v else Fr.at f j) ∧
  (∀ {fr : Nat} (t : TypeId) (c : List PV), boxO fr t (PV.agg c) = some (OR.w (PV.ptr fr (List.length c) 0) fr (AO.cells t 0 false c))) ∧
  (∀ {P : Program} {ρ : Operand → PV} {h : AH} {fr : Nat} {d : Option Tmp} {ty : TypeId} {ps : String} {af : Array Edge} {gu : Option (Nat × Bool)} (k : FuncId) (first cap : Array Operand), aop P ρ h fr { dst := d, op := Op.makeFunc (Fn.func k) first cap, type := ty, pos := ps, after := af, guard := gu } = some (OR.q (PV.fn (Fn.func k) (List.map ρ (Array.toList first)) (List.map ρ (Array.toList cap))))) ∧
  (∀ {P : Program} {ρ : Operand → PV} {h : AH} {fr : Nat} {d : Option Tmp} {ty : TypeId} {ps : String} {af : Array Edge} {gu : Option (Nat × Bool)} (x : Operand), aop P ρ h fr { dst := d, op := Op.move x, type := ty, pos := ps, after := af, guard := gu } = some (OR.q (ρ x))) ∧
  (∀ {P : Program} {ρ : Operand → PV} {h : AH} {fr : Nat} {d : Option Tmp} {ty : TypeId} {ps : String} {af : Array Edge} {gu : Option (Nat × Bool)} (x : Operand), aop P ρ h fr { dst := d, op := Op.assign x, type := ty, pos := ps, after := af, guard := gu } = some (OR.q (ρ x))) ∧
  (∀ {P : Program} {ρ : Operand → PV} {h : AH} {fr : Nat} {d : Option Tmp} {ty : TypeId} {ps : String} {af : Array Edge} {gu : Option (Nat × Bool)} (c a b : Operand), aop P ρ h fr { dst := d, op := Op.pick c a b, type := ty, pos := ps, after := af, guard := gu } = pickO (ρ c) (ρ a) (ρ b)) ∧
  (∀ (a b : PV), pickO (PV.bool true) a b = some (OR.q a)) ∧
  (∀ (a b : PV), pickO (PV.bool false) a b = some (OR.q b)) ∧
  (∀ (c a b : Bool), pickO (PV.bool c) (PV.bool a) (PV.bool b) = some (OR.q (PV.bool (if c = true then a else b)))) ∧
  (∀ {P : Program} {ρ : Operand → PV} {h : AH} {fr : Nat} {d : Option Tmp} {ty : TypeId} {ps : String} {af : Array Edge} {gu : Option (Nat × Bool)} (t : TypeId) (x : Operand), aop P ρ h fr { dst := d, op := Op.box t x, type := ty, pos := ps, after := af, guard := gu } = boxO fr t (ρ x)) ∧
  (∀ {fr : Nat} (t : TypeId) (k : IntKind) (n : Int), boxO fr t (PV.int k n) = some (OR.w (PV.ptr fr 1 0) fr (AO.cells t 0 false [PV.int k n]))) ∧
  (∀ {fr : Nat} (t : TypeId) (l : List UInt8), boxO fr t (PV.str l) = some (OR.w (PV.ptr fr 1 0) fr (AO.cells t 0 false [PV.str l]))) ∧
  (∀ {fr : Nat} (t : TypeId) (b : Bool), boxO fr t (PV.bool b) = some (OR.w (PV.ptr fr 1 0) fr (AO.cells t 0 false [PV.bool b]))) ∧
  (∀ {P : Program} {ρ : Operand → PV} {h : AH} {fr : Nat} {d : Option Tmp} {ty : TypeId} {ps : String} {af : Array Edge} {gu : Option (Nat × Bool)} (t : TypeId) (x : Operand), aop P ρ h fr { dst := d, op := Op.load t x, type := ty, pos := ps, after := af, guard := gu } = loadO P t (behind h (ρ x))) ∧
  (∀ {h : AH} (id tot off : Nat), behind h (PV.ptr id tot off) = behindO tot off (AH.get h id)) ∧
  (∀ {h : AH} (c : List PV), behind h (PV.rop c) = some c) ∧
  (∀ (E : TypeId) (sz : Nat) (fz : Bool) (v : PV), behindO 1 0 (some (AO.cells E sz fz [v])) = some [v]) ∧
  (∀ {P : Program} {ρ : Operand → PV} {h : AH} {fr : Nat} {d : Option Tmp} {ty : TypeId} {ps : String} {af : Array Edge} {gu : Option (Nat × Bool)} (t : TypeId) (a x : Operand), aop P ρ h fr { dst := d, op := Op.store t a x, type := ty, pos := ps, after := af, guard := gu } = storeO h (ρ a) (ρ x) (tySz P t)) ∧
  (∀ {P : Program} {ρ : Operand → PV} {h : AH} {fr : Nat} {d : Option Tmp} {ty : TypeId} {ps : String} {af : Array Edge} {gu : Option (Nat × Bool)} (t : TypeId) (x i : Operand), aop P ρ h fr { dst := d, op := Op.index t x i, type := ty, pos := ps, after := af, guard := gu } = idxO P t (ρ x) (ρ i)) ∧
  (∀ {P : Program} {ρ : Operand → PV} {h : AH} {fr : Nat} {d : Option Tmp} {ty : TypeId} {ps : String} {af : Array Edge} {gu : Option (Nat × Bool)} (x : Operand) (i : Nat), aop P ρ h fr { dst := d, op := Op.extract x i, type := ty, pos := ps, after := af, guard := gu } = extractO i (ρ x)) ∧
  (∀ (a : PV) (r : List PV), extractO 0 (PV.tup (a :: r)) = some (OR.q a)) ∧
  (∀ (a b : PV) (r : List PV), extractO 1 (PV.tup (a :: b :: r)) = some (OR.q b)) ∧
  (∀ (a b c : PV) (r : List PV), extractO 2 (PV.tup (a :: b :: c :: r)) = some (OR.q c)) ∧
  (∀ {P : Program} {ρ : Operand → PV} {h : AH} {fr : Nat} {d : Option Tmp} {ty : TypeId} {ps : String} {af : Array Edge} {gu : Option (Nat × Bool)} (op : BinOp) (t u : TypeId) (x y : Operand), aop P ρ h fr { dst := d, op := Op.binOp op t x y u, type := ty, pos := ps, after := af, guard := gu } = binN (nilN P op t (ρ x) y) (binO P h op t (ρ x) (ρ y))) ∧
  (∀ (r : Option OR), binN none r = r) ∧
  (∀ (v : PV) (r : Option OR), binN (some v) r = some (OR.q v)) ∧
  (∀ {P : Program} {t : TypeId} {a : PV} {y : Operand}, nilN P BinOp.add t a y = none) ∧
  (∀ {P : Program} {t : TypeId} {a : PV} {y : Operand}, nilN P BinOp.sub t a y = none) ∧
  (∀ {P : Program} {t : TypeId} {a : PV} {y : Operand}, nilN P BinOp.mul t a y = none) ∧
  (∀ {P : Program} {t : TypeId} {a : PV} {y : Operand}, nilN P BinOp.quo t a y = none) ∧
  (∀ {P : Program} {t : TypeId} {a : PV} {y : Operand}, nilN P BinOp.rem t a y = none) ∧
  (∀ {P : Program} {t : TypeId} {a : PV} {y : Operand}, nilN P BinOp.and t a y = none) ∧
  (∀ {P : Program} {t : TypeId} {a : PV} {y : Operand}, nilN P BinOp.or t a y = none) ∧
  (∀ {P : Program} {t : TypeId} {a : PV} {y : Operand}, nilN P BinOp.xor t a y = none) ∧
  (∀ {P : Program} {t : TypeId} {a : PV} {y : Operand}, nilN P BinOp.andNot t a y = none) ∧
  (∀ {P : Program} {t : TypeId} {a : PV} {y : Operand}, nilN P BinOp.shl t a y = none) ∧
  (∀ {P : Program} {t : TypeId} {a : PV} {y : Operand}, nilN P BinOp.shr t a y = none) ∧
  (∀ {P : Program} {t : TypeId} {a : PV} {y : Operand}, nilN P BinOp.lss t a y = none) ∧
  (∀ {P : Program} {t : TypeId} {a : PV} {y : Operand}, nilN P BinOp.leq t a y = none) ∧
  (∀ {P : Program} {t : TypeId} {a : PV} {y : Operand}, nilN P BinOp.gtr t a y = none) ∧
  (∀ {P : Program} {t : TypeId} {a : PV} {y : Operand}, nilN P BinOp.geq t a y = none) ∧
  (∀ {P : Program} {t : TypeId} {a : PV} (z : Tmp), nilN P BinOp.eql t a (Operand.tmp z) = none) ∧
  (∀ {P : Program} {t : TypeId} {a : PV} (k : IntKind) (z : Int), nilN P BinOp.eql t a (Operand.const (Value.int k z)) = none) ∧
  (∀ {P : Program} {t : TypeId} {a : PV} (z : ByteArray), nilN P BinOp.eql t a (Operand.const (Value.string z)) = none) ∧
  (∀ {P : Program} {t : TypeId} {a : PV} (z : Bool), nilN P BinOp.eql t a (Operand.const (Value.bool z)) = none) ∧
  (∀ {P : Program} {t : TypeId} {a : PV} (z : Option Addr), nilN P BinOp.eql t a (Operand.const (Value.pointer z)) = none) ∧
  (∀ {P : Program} {t : TypeId} {a : PV} (z : Option Addr) (l c : Nat), nilN P BinOp.eql t a (Operand.const (Value.slice z l c)) = none) ∧
  (∀ {P : Program} {t : TypeId} {a : PV}, nilN P BinOp.eql t a (Operand.const Value.nilFunc) = none) ∧
  (∀ {P : Program} {t : TypeId} {a : PV} (k : FloatKind) (z : Nat), nilN P BinOp.eql t a (Operand.const (Value.float k z)) = none) ∧
  (∀ {P : Program} {t : TypeId} {y : Operand} (u : TypeId) (z : PV), nilN P BinOp.eql t (PV.iface u z) y = none) ∧
  (∀ {P : Program} {t : TypeId} {a : PV} (z : Tmp), nilN P BinOp.neq t a (Operand.tmp z) = none) ∧
  (∀ {P : Program} {t : TypeId} {a : PV} (k : IntKind) (z : Int), nilN P BinOp.neq t a (Operand.const (Value.int k z)) = none) ∧
  (∀ {P : Program} {t : TypeId} {a : PV} (z : ByteArray), nilN P BinOp.neq t a (Operand.const (Value.string z)) = none) ∧
  (∀ {P : Program} {t : TypeId} {a : PV} (z : Bool), nilN P BinOp.neq t a (Operand.const (Value.bool z)) = none) ∧
  (∀ {P : Program} {t : TypeId} {a : PV} (z : Option Addr), nilN P BinOp.neq t a (Operand.const (Value.pointer z)) = none) ∧
  (∀ {P : Program} {t : TypeId} {a : PV} (z : Option Addr) (l c : Nat), nilN P BinOp.neq t a (Operand.const (Value.slice z l c)) = none) ∧
  (∀ {P : Program} {t : TypeId} {a : PV}, nilN P BinOp.neq t a (Operand.const Value.nilFunc) = none) ∧
  (∀ {P : Program} {t : TypeId} {a : PV} (k : FloatKind) (z : Nat), nilN P BinOp.neq t a (Operand.const (Value.float k z)) = none) ∧
  (∀ {P : Program} {t : TypeId} {y : Operand} (u : TypeId) (z : PV), nilN P BinOp.neq t (PV.iface u z) y = none) ∧
  (∀ {P : Program} {h : AH} {t : TypeId} {k : IntKind} {a b : Int}, binO P h BinOp.add t (PV.int k a) (PV.int k b) = some (OR.q (PV.int k (IntKind.wrap k (a + b))))) ∧
  (∀ {P : Program} {h : AH} {t : TypeId} {k : IntKind} {a b : Int}, binO P h BinOp.sub t (PV.int k a) (PV.int k b) = some (OR.q (PV.int k (IntKind.wrap k (a - b))))) ∧
  (∀ {P : Program} {h : AH} {t : TypeId} {k : IntKind} {a b : Int}, binO P h BinOp.mul t (PV.int k a) (PV.int k b) = some (OR.q (PV.int k (IntKind.wrap k (a * b))))) ∧
  (∀ {P : Program} {h : AH} {t : TypeId} {k : IntKind} {a b : Int}, binO P h BinOp.eql t (PV.int k a) (PV.int k b) = some (OR.q (PV.bool (decide (a = b))))) ∧
  (∀ {P : Program} {h : AH} {t : TypeId} {k : IntKind} {a b : Int}, binO P h BinOp.neq t (PV.int k a) (PV.int k b) = some (OR.q (PV.bool !decide (a = b)))) ∧
  (∀ {P : Program} {h : AH} {t : TypeId} {k : IntKind} {a b : Int}, binO P h BinOp.lss t (PV.int k a) (PV.int k b) = some (OR.q (PV.bool (decide (a < b))))) ∧
  (∀ {P : Program} {h : AH} {t : TypeId} {k : IntKind} {a b : Int}, binO P h BinOp.leq t (PV.int k a) (PV.int k b) = some (OR.q (PV.bool (decide (a ≤ b))))) ∧
  (∀ {P : Program} {h : AH} {t : TypeId} {k : IntKind} {a b : Int}, binO P h BinOp.gtr t (PV.int k a) (PV.int k b) = some (OR.q (PV.bool (decide (b < a))))) ∧
  (∀ {P : Program} {h : AH} {t : TypeId} {k : IntKind} {a b : Int}, binO P h BinOp.geq t (PV.int k a) (PV.int k b) = some (OR.q (PV.bool (decide (b ≤ a))))) ∧
  (∀ {P : Program} {h : AH} {t : TypeId} {x y : List UInt8}, binO P h BinOp.eql t (PV.str x) (PV.str y) = some (OR.q (PV.bool (decide (x = y))))) ∧
  (∀ {P : Program} {h : AH} {t : TypeId} {x y : List UInt8}, binO P h BinOp.neq t (PV.str x) (PV.str y) = some (OR.q (PV.bool !decide (x = y)))) ∧
  (∀ {P : Program} {ρ : Operand → PV} {h : AH} {fr : Nat} {d : Option Tmp} {ty : TypeId} {ps : String} {af : Array Edge} {gu : Option (Nat × Bool)} (op : UnOp) (t : TypeId) (x : Operand), aop P ρ h fr { dst := d, op := Op.unOp op t x, type := ty, pos := ps, after := af, guard := gu } = unO op (ρ x)) ∧
  (∀ (b : Bool), unO UnOp.not (PV.bool b) = some (OR.q (PV.bool !b))) ∧
  (∀ {P : Program} {ρ : Operand → PV} {h : AH} {fr : Nat} {d : Option Tmp} {ty : TypeId} {ps : String} {af : Array Edge} {gu : Option (Nat × Bool)} (s t : TypeId) (x : Operand), aop P ρ h fr { dst := d, op := Op.convert s t x, type := ty, pos := ps, after := af, guard := gu } = convV P h fr s t (ρ x)) ∧
  (∀ {P : Program} {ρ : Operand → PV} {h : AH} {fr : Nat} {d : Option Tmp} {ty : TypeId} {ps : String} {af : Array Edge} {gu : Option (Nat × Bool)} (args : Array Operand) (ts : Array TypeId), aop P ρ h fr { dst := d, op := Op.call { callee := Callee.builtin Builtin.len, args := args, argTypes := ts }, type := ty, pos := ps, after := af, guard := gu } = lenO P (List.map ρ (Array.toList args)) (Array.toList ts)) ∧
  (∀ {P : Program} {ρ : Operand → PV} {h : AH} {fr : Nat} {d : Option Tmp} {ty : TypeId} {ps : String} {af : Array Edge} {gu : Option (Nat × Bool)} (c : Operand) (args : Array Operand) (ts : Array TypeId), aop P ρ h fr { dst := d, op := Op.call { callee := Callee.value c, args := args, argTypes := ts }, type := ty, pos := ps, after := af, guard := gu } = callV (List.map ρ (Array.toList args)) (ρ c)) ∧
  (∀ (args first cap : List PV) (k : FuncId), callV args (PV.fn (Fn.func k) first cap) = some (OR.call (Tgt.fn k) (first ++ args ++ cap))) ∧
  (∀ {P : Program} {ρ : Operand → PV} {h : AH} {fr : Nat} {d : Option Tmp} {ty : TypeId} {ps : String} {af : Array Edge} {gu : Option (Nat × Bool)} (t : TypeId) (x : Operand) (lo hi mx : Option Operand), aop P ρ h fr { dst := d, op := Op.slice t x lo hi mx, type := ty, pos := ps, after := af, guard := gu } = if (liveB h (ρ x) && sizeB P h t (ρ x)) = true then Option.map OR.q (sliceV P t (ρ x) (Option.map ρ lo) (Option.map ρ hi) (Option.map ρ mx)) else none) ∧
  (∀ (h : Decidable True), decide True = true) ∧
  (∀ (h : Decidable False), decide False = false) ∧
  (∀ {p : Prop} [g : Decidable p] [h : Decidable ¬p], (decide ¬p) = !decide p) ∧
  (∀ {ops : Array Oper} {F : Nat → PV} {d : Option Tmp} {op : Op} {t : TypeId} {p : String} {af : Array Edge} {j : Nat} {want : Bool}, wantA ops F { dst := d, op := op, type := t, pos := p, after := af, guard := some (j, want) } = wantY want (yieldA ops F j)) ∧
  (∀ (ops : Array Oper) (F : Nat → PV) (j : Nat), yieldA ops F j = yieldD F (Option.bind ops[j]? fun (x : Oper) ↦ Oper.dst x)) ∧
  (∀ {α : Type} {xs : List α} {i : Nat}, (List.toArray xs)[i]? = xs[i]?) ∧
  (∀ {α : Type} {a : α} {i : Nat} {l : List α}, (a :: l)[i + 1]? = l[i]?) ∧
  (∀ {α : Type} {a : α} {l : List α}, (a :: l)[0]? = some a) ∧
  (∀ {α β : Type} (a : α) (f : α → Option β), Option.bind (some a) f = f a) ∧
  (∀ (F : Nat → PV) (d : Tmp), yieldD F (some d) = yieldV (F d)) ∧
  (∀ (want b : Bool), wantY want (yieldV (PV.bool b)) = some (b == want)) ∧
  (∀ (want : Bool), wantY want (yieldV (PV.tup [])) = some false) ∧
  (∀ (n : Nat), 0 + n = n) ∧
  (∀ (n : Nat), n + 0 = n) ∧
  (∀ {α : Type} [inst : BEq α] [ReflBEq α] (a : α), (a == a) = true) ∧
  (∀ (b : Bool), (true == b) = b) ∧
  (∀ (b : Bool), (false == b) = !b) ∧
  ((!true) = false) ∧
  ((!false) = true) ∧
  (∀ {α β : Type} {f : α → β} {a : α} {l : List α}, List.map f (a :: l) = f a :: List.map f l) ∧
  (∀ {α β : Type} {f : α → β}, List.map f [] = []) ∧
  (∀ {α : Type} (l0 : List α), l0 ++ [] = l0) ∧
  (∀ {α : Type} (l0 : List α), [] ++ l0 = l0) ∧
  (∀ {α : Type} {a : α} {l0 bs : List α}, a :: l0 ++ bs = a :: (l0 ++ bs)) ∧
  (∀ {α β : Type} (a : α) (f : α → β), Option.map f (some a) = some (f a)) ∧
  (∀ {α β : Type} (f : α → β), Option.map f none = none) ∧
  ((false = true) = False) ∧
  (∀ {P : Program} (rs : List ResultVar) (v : PV) (f : Fr) (h : AH), EndV P rs v EX.normal f h = EndS.RS (fun (u : PV) (x : AH) ↦ u = v) h (resA P f h rs)) ∧
  (∀ {P : Program} (rs : List ResultVar) (v : PV) (f : Fr) (h : AH), EndV P rs v EX.ret f h = EndS.RS (fun (u : PV) (x : AH) ↦ u = v) h (resA P f h rs)) ∧
  (∀ (Q : PV → AH → Prop) (h : AH) (l : List PV), EndS.RS Q h (some l) = Q (oneOf l) h) ∧
  (∀ {P : Program} (f : Fr) (h : AH) (t : Tmp) (r : List ResultVar), resA P f h (ResultVar.tmp t :: r) = resT t f (resA P f h r)) ∧
  (∀ {P : Program} (f : Fr) (h : AH), resA P f h [] = some []) ∧
  (∀ {P : Program} (f : Fr) (h : AH) (p : Tmp) (t : TypeId) (r : List ResultVar), resA P f h (ResultVar.cell p t :: r) = resL (loadO P t (behind h (Fr.at f p))) (resA P f h r)) ∧
  (∀ (v : PV) (l : List PV), resL (some (OR.q v)) (some l) = some (v :: l)) ∧
  (∀ (t : Tmp) (f : Fr) (l : List PV), resT t f (some l) = some (Fr.at f t :: l)) ∧
  (∀ (v : PV), oneOf [v] = v) ∧
  (∀ (a b : PV), oneOf [a, b] = PV.tup [a, b]) ∧
  (oneOf [] = PV.tup []) ∧
  (∀ {P : Program} (rs : List ResultVar) (Q : PV → AH → Prop) (f : Fr) (h : AH), EndS P rs Q EX.normal f h = EndS.RS Q h (resA P f h rs)) ∧
  (∀ {P : Program} (rs : List ResultVar) (Q : PV → AH → Prop) (f : Fr) (h : AH), EndS P rs Q EX.ret f h = EndS.RS Q h (resA P f h rs)) ∧
  (∀ (a b a' b' : PV), (PV.tup [a, b] = PV.tup [a', b']) = (a = a' ∧ b = b')) ∧
  (∀ (k : IntKind) (a b : Int), (PV.int k a = PV.int k b) = (a = b)) ∧
  (∀ (a b : Bool), (PV.bool a = PV.bool b) = (a = b)) ∧
  (∀ (a b : List UInt8), (PV.str a = PV.str b) = (a = b)) ∧
  (∀ (p : Prop), (p ∧ p) = p) ∧
  (∀ (p : Prop), (p ∧ True) = p) ∧
  (∀ (p : Prop), (True ∧ p) = p) :=
  ⟨@wpC_region, @wpC_draw, @outX_normal, @wpC_cond, @wpC_ret, @wpC_skip, @wpC_exit, @wpC_block, @wpC_label, @wpO_go, @wpD_go, @wantA_none, @gdO_true, @gdO_false, @gdD_true, @gdD_false, @goO_q, @goO_w, @goD_q, @goD_new, @putA_some, @putA_none, @wpO_nil, @wpD_nil, @KS_normal, @KS_ret, @KS_exit, @KB_normal, @KB_ret, @KB_same, @Fr.at_set, @boxO_agg, @aop_makeFunc, @aop_move, @aop_assign, @aop_pick, @pickO_true, @pickO_false, @pickO_bool, @aop_box, @boxO_int, @boxO_str, @boxO_bool, @aop_load, @behind_ptr, @behind_rop, @behindO_one, @aop_store, @aop_index, @aop_extract, @extractO_0, @extractO_1, @extractO_2, @aop_binOp, @binN_none, @binN_some, @nilN_add, @nilN_sub, @nilN_mul, @nilN_quo, @nilN_rem, @nilN_and, @nilN_or, @nilN_xor, @nilN_andNot, @nilN_shl, @nilN_shr, @nilN_lss, @nilN_leq, @nilN_gtr, @nilN_geq, @nilN_eql_tmp, @nilN_eql_int, @nilN_eql_str, @nilN_eql_bool, @nilN_eql_ptr, @nilN_eql_sl, @nilN_eql_fn, @nilN_eql_flt, @nilN_eql_iface, @nilN_neq_tmp, @nilN_neq_int, @nilN_neq_str, @nilN_neq_bool, @nilN_neq_ptr, @nilN_neq_sl, @nilN_neq_fn, @nilN_neq_flt, @nilN_neq_iface, @bin_add, @bin_sub, @bin_mul, @bin_eql, @bin_neq, @bin_lss, @bin_leq, @bin_gtr, @bin_geq, @bin_seql, @bin_sneq, @aop_unOp, @unO_not, @aop_convert, @aop_len, @aop_call, @callV_func, @aop_slice, @decide_true, @decide_false, @decide_not, @wantA_some, @yieldA_eq, @List.getElem?_toArray.{0}, @List.getElem?_cons_succ.{0}, @List.getElem?_cons_zero.{0}, @Option.bind_some.{0, 0}, @yieldD_some, @wantY_bool, @wantY_not, @Nat.zero_add, @Nat.add_zero, @beq_self_eq_true.{0}, @Bool.true_beq, @Bool.false_beq, @Bool.not_true, @Bool.not_false, @List.map_cons.{0, 0}, @List.map_nil.{0, 0}, @List.append_nil.{0}, @List.nil_append.{0}, @List.cons_append.{0}, @Option.map_some.{0, 0}, @Option.map_none.{0, 0}, @Bool.false_eq_true, @EndV_normal, @EndV_ret, @RS_some, @resA_tmp, @resA_nil, @resA_cell, @resL_some, @resT_some, @oneOf_one, @oneOf_two, @oneOf_none, @EndS_normal, @EndS_ret, @tup_two, @int_same, @bool_same, @str_same, @and_self, @and_true, @true_and⟩
theorem rowsB :
  (∀ {P : Program} {ρ : Operand → PV} {h : AH} {fr : Nat} {d : Option Tmp} {ty : TypeId} {ps : String} {af : Array Edge} {gu : Option (Nat × Bool)} (t : TypeId) (len : Nat) (parts : Array (Nat × Operand)), aop P ρ h fr { dst := d, op := Op.buildSlice t len parts, type := ty, pos := ps, after := af, guard := gu } = buildO P fr t len (List.map (fun (x : Nat × Operand) ↦ match x with | (i, x) => (i, ρ x)) (Array.toList parts))) ∧
  (∀ {α : Type} {a : α} {l : List α} {i : Nat}, List.drop (i + 1) (a :: l) = List.drop i l) ∧
  (∀ (h : AH) (id j : Nat) (o : AO), AH.get (AH.set h id o) j = if j = id then some o else AH.get h j) ∧
  (∀ (h : AH) (n j : Nat), AH.get (AH.up h n) j = AH.get h j) ∧
  (∀ (h : AH) (id : Nat) (o : AO), AH.next (AH.set h id o) = AH.next h) ∧
  (∀ (h : AH) (n : Nat), AH.next (AH.up h n) = AH.next h + n) ∧
  (AH.next AH.empty = 0) ∧
  (∀ {h : AH} (sz id tot off n : Nat), cellsOf h sz (PV.ow id tot off n) = cellsG sz tot off n (AH.get h id)) ∧
  (∀ {α : Type} {a : α} {l0 : List α}, List.length (a :: l0) = List.length l0 + 1) ∧
  (∀ {α : Type}, List.length ([] : List α) = 0) ∧
  (∀ {α : Type} {l : List α}, List.drop 0 l = l) ∧
  (∀ {α : Type} {a : α} {l0 : List α} {i : Nat}, List.take (i + 1) (a :: l0) = a :: List.take i l0) ∧
  (∀ {α : Type} {l : List α}, List.take 0 l = []) ∧
  (∀ (n : Nat), n ≤ n) ∧
  (∀ (n m : Nat) (c : List PV), convG n (some (c, m)) = if List.all c byteC = true then some (OR.q (PV.str (List.map toB c))) else none) ∧
  (∀ {α : Type} {a : α} {l : List α} {f : α → Bool}, List.all (a :: l) f = (f a && List.all l f)) ∧
  (∀ {α : Type} {f : α → Bool}, List.all [] f = true) ∧
  (∀ (a : Int), byteC (PV.int IntKind.u8 a) = true) ∧
  (∀ (b : Bool), (b && b) = b) ∧
  (∀ (k : IntKind) (n : Int), toB (PV.int k n) = UInt8.ofNat (Int.toNat n)) ∧
  (∀ {α : Type} {l0 : List α}, Array.size (List.toArray l0) = List.length l0) ∧
  (∀ {P : Program} {ρ : Operand → PV} {h : AH} {fr : Nat} {d : Option Tmp} {ty : TypeId} {ps : String} {af : Array Edge} {gu : Option (Nat × Bool)} (t : TypeId) (x i : Operand), aop P ρ h fr { dst := d, op := Op.indexAddr t x i, type := ty, pos := ps, after := af, guard := gu } = idaO P h t (ρ x) (ρ i)) ∧
  (∀ (tot : Nat) (E : TypeId) (sz : Nat) (fz : Bool) (c : List PV), liveG tot (some (AO.cells E sz fz c)) = decide (List.length c = tot)) ∧
  (∀ {h : AH} (id tot off : Nat) (x : PV) (n : Nat), storeO h (PV.ptr id tot off) x (some n) = stoG id tot off x n (AH.get h id)) ∧
  (∀ (id tot off sz : Nat) (E : TypeId) (k : IntKind) (a : Int) (c : List PV), stoG id tot off (PV.int k a) 1 (some (AO.cells E sz false c)) = if List.length c = tot ∧ off < tot then some (OR.w PV.undef id (AO.cells E sz false (List.set c off (PV.int k a)))) else none) ∧
  (∀ {α : Type} {x : α} {xs : List α} {a : α}, List.set (x :: xs) 0 a = a :: xs) ∧
  (∀ {α : Type} {x : α} {xs : List α} {i : Nat} {a : α}, List.set (x :: xs) (i + 1) a = x :: List.set xs i a) ∧
  (∀ (tot off : Nat) (E : TypeId) (sz : Nat) (fz : Bool) (c : List PV), behindO tot off (some (AO.cells E sz fz c)) = if List.length c = tot then some (List.drop off c) else none) ∧
  (∀ {P : Program} {ρ : Operand → PV} {h : AH} {fr : Nat} {d : Option Tmp} {ty : TypeId} {ps : String} {af : Array Edge} {gu : Option (Nat × Bool)} (args : Array Operand) (ts : Array TypeId), aop P ρ h fr { dst := d, op := Op.call { callee := Callee.builtin Builtin.append, args := args, argTypes := ts }, type := ty, pos := ps, after := af, guard := gu } = appO P h fr (List.map ρ (Array.toList args)) (Array.toList ts)) ∧
  (∀ {P : Program} {ρ : Operand → PV} {h : AH} {fr : Nat} {d : Option Tmp} {ty : TypeId} {ps : String} {af : Array Edge} {gu : Option (Nat × Bool)} (t : TypeId) (l c : Operand), aop P ρ h fr { dst := d, op := Op.makeSlice t l c, type := ty, pos := ps, after := af, guard := gu } = makeSliceV P fr t (ρ l) (ρ c)) ∧
  (∀ {P : Program} {ρ : Operand → PV} {h : AH} {fr : Nat} {d : Option Tmp} {ty : TypeId} {ps : String} {af : Array Edge} {gu : Option (Nat × Bool)} (args : Array Operand) (ts : Array TypeId), aop P ρ h fr { dst := d, op := Op.call { callee := Callee.builtin Builtin.len, args := args, argTypes := ts }, type := ty, pos := ps, after := af, guard := gu } = lenO P (List.map ρ (Array.toList args)) (Array.toList ts)) ∧
  (∀ {h : AH} (c : List PV) (n : Nat), liveB h (PV.ro c n) = true) ∧
  (∀ {P : Program} {ρ : Operand → PV} {h : AH} {fr : Nat} {d : Option Tmp} {ty : TypeId} {ps : String} {af : Array Edge} {gu : Option (Nat × Bool)} (t : TypeId) (x : Operand) (k : Nat), aop P ρ h fr { dst := d, op := Op.fieldAddr t x k, type := ty, pos := ps, after := af, guard := gu } = fdaO P h t (ρ x) k) ∧
  (∀ {P : Program} {ρ : Operand → PV} {h : AH} {fr : Nat} {d : Option Tmp} {ty : TypeId} {ps : String} {af : Array Edge} {gu : Option (Nat × Bool)} (x : Operand), aop P ρ h fr { dst := d, op := Op.nilCheck x, type := ty, pos := ps, after := af, guard := gu } = nilO h (ρ x)) ∧
  (∀ {P : Program} {ρ : Operand → PV} {h : AH} {fr : Nat} {d : Option Tmp} {ty : TypeId} {ps : String} {af : Array Edge} {gu : Option (Nat × Bool)} (t : TypeId) (x : Operand) (k : Nat), aop P ρ h fr { dst := d, op := Op.field t x k, type := ty, pos := ps, after := af, guard := gu } = fldO P t (ρ x) k) ∧
  (∀ {P : Program} {ρ : Operand → PV} {h : AH} {fr : Nat} {d : Option Tmp} {ty : TypeId} {ps : String} {af : Array Edge} {gu : Option (Nat × Bool)} (t : TypeId) (parts : Array (Nat × Operand)), aop P ρ h fr { dst := d, op := Op.build t parts, type := ty, pos := ps, after := af, guard := gu } = bldO P t (List.map (fun (x : Nat × Operand) ↦ match x with | (i, x) => (i, ρ x)) (Array.toList parts))) ∧
  (∀ (I : Nat → Fr → AH → Prop) (k : Nat) (Q : EX → Fr → AH → Prop) (f : Fr) (h : AH), KI I k Q EX.normal f h = ∃ (j : Nat), j < k ∧ I j f h) ∧
  (∀ (I : Nat → Fr → AH → Prop) (k : Nat) (Q : EX → Fr → AH → Prop) (f : Fr) (h : AH), KI I k Q EX.ret f h = Q EX.ret f h) ∧
  (∀ (I : Nat → Fr → AH → Prop) (k : Nat) (Q : EX → Fr → AH → Prop) (i : Nat) (f : Fr) (h : AH), KI I k Q (EX.exit i) f h = Q (EX.exit i) f h) :=
  ⟨@aop_buildSlice, @List.drop_succ_cons.{0}, @AH.get_set, @AH.get_up, @AH.next_set, @AH.next_up, @next_empty, @cellsOf_ow, @List.length_cons.{0}, @List.length_nil.{0}, @List.drop_zero.{0}, @List.take_succ_cons.{0}, @List.take_zero.{0}, @Nat.le_refl, @convG_some, @List.all_cons.{0}, @List.all_nil.{0}, @byteC_int, @Bool.and_self, @toB_int, @List.size_toArray.{0}, @aop_idx, @liveG_cells, @storeO_ptr, @stoG_int, @List.set_cons_zero.{0}, @List.set_cons_succ.{0}, @behindO_cells, @aop_append, @aop_makeSlice, @aop_len, @liveB_ro, @aop_fieldAddr, @aop_nilCheck, @aop_field, @aop_build, @KI_normal, @KI_ret, @KI_exit⟩
end Go.Ac
namespace Go.Proofs.YtcbngkmmmfaaoaaGreatDoor
open Go.RowKit Go.Lib Go.Ac
set_option linter.unusedSimpArgs false
set_option maxRecDepth 100000

theorem u3 : Tryz.prog.underlying 3 = some (.int .i64) := by kernel_rfl
theorem u4 : Tryz.prog.underlying 4 = some .bool := by kernel_rfl
theorem u9 : Tryz.prog.underlying 9 = some .string := by kernel_rfl
theorem u22 : Tryz.prog.underlying 22 = some (.slice 41) := by kernel_rfl
theorem u23 : Tryz.prog.underlying 23 = some (.slice 45) := by kernel_rfl
theorem u39 : Tryz.prog.underlying 39 = some (.slice 33) := by kernel_rfl
theorem u43 : Tryz.prog.underlying 43 = some (.slice 9) := by kernel_rfl
theorem sz3 : tySz Tryz.prog 3 = some 1 := by kernel_rfl
theorem sz4 : tySz Tryz.prog 4 = some 1 := by kernel_rfl
theorem sz9 : tySz Tryz.prog 9 = some 1 := by kernel_rfl
theorem sz22 : tySz Tryz.prog 22 = some 1 := by kernel_rfl
theorem sz23 : tySz Tryz.prog 23 = some 1 := by kernel_rfl
theorem sz25 : tySz Tryz.prog 25 = some 2 := by kernel_rfl
theorem sz31 : tySz Tryz.prog 31 = some 2 := by kernel_rfl
theorem sz33 : tySz Tryz.prog 33 = some 5 := by kernel_rfl
theorem sz39 : tySz Tryz.prog 39 = some 1 := by kernel_rfl
theorem sz41 : tySz Tryz.prog 41 = some 2 := by kernel_rfl
theorem sz43 : tySz Tryz.prog 43 = some 1 := by kernel_rfl
theorem sz45 : tySz Tryz.prog 45 = some 2 := by kernel_rfl
theorem ag3 : tyAgg Tryz.prog 3 = some false := by kernel_rfl
theorem ag4 : tyAgg Tryz.prog 4 = some false := by kernel_rfl
theorem ag9 : tyAgg Tryz.prog 9 = some false := by kernel_rfl
theorem ag22 : tyAgg Tryz.prog 22 = some false := by kernel_rfl
theorem ag23 : tyAgg Tryz.prog 23 = some false := by kernel_rfl
theorem ag25 : tyAgg Tryz.prog 25 = some true := by kernel_rfl
theorem ag31 : tyAgg Tryz.prog 31 = some true := by kernel_rfl
theorem ag33 : tyAgg Tryz.prog 33 = some true := by kernel_rfl
theorem ag39 : tyAgg Tryz.prog 39 = some false := by kernel_rfl
theorem ag41 : tyAgg Tryz.prog 41 = some true := by kernel_rfl
theorem ag43 : tyAgg Tryz.prog 43 = some false := by kernel_rfl
theorem ag45 : tyAgg Tryz.prog 45 = some true := by kernel_rfl
theorem o25_0 : offOf Tryz.prog 25 0 = some 0 := by kernel_rfl
theorem o25_1 : offOf Tryz.prog 25 1 = some 1 := by kernel_rfl
theorem o31_0 : offOf Tryz.prog 31 0 = some 0 := by kernel_rfl
theorem o31_1 : offOf Tryz.prog 31 1 = some 1 := by kernel_rfl
theorem o33_0 : offOf Tryz.prog 33 0 = some 0 := by kernel_rfl
theorem o33_1 : offOf Tryz.prog 33 1 = some 1 := by kernel_rfl
theorem o33_2 : offOf Tryz.prog 33 2 = some 3 := by kernel_rfl
theorem o33_3 : offOf Tryz.prog 33 3 = some 4 := by kernel_rfl
theorem o41_0 : offOf Tryz.prog 41 0 = some 0 := by kernel_rfl
theorem o41_1 : offOf Tryz.prog 41 1 = some 1 := by kernel_rfl
theorem o45_0 : offOf Tryz.prog 45 0 = some 0 := by kernel_rfl
theorem o45_1 : offOf Tryz.prog 45 1 = some 1 := by kernel_rfl

structure Fld where
  n : List UInt8
  t : List UInt8
  w : List UInt8
  s : Bool
  inv : List UInt8
structure Ob where
  n : List UInt8
  fs : List Fld
structure En where
  n : List UInt8
  ws : List (List UInt8)
structure Sc where
  os : List Ob
  es : List En
def flat {α : Type} (f : α → List PV) : List α → List PV
  | [] => []
  | x :: l => f x ++ flat f l
def rowV {α : Type} (f : α → List PV) (l : List α) : PV := .ro (flat f l) l.length
def Fld.pv (f : Fld) : List PV := [.str f.n, .str f.t, .str f.w, .bool f.s, .str f.inv]
def Ob.pv (o : Ob) : List PV := [.str o.n, rowV Fld.pv o.fs]
def strV (s : List UInt8) : List PV := [.str s]
def En.pv (e : En) : List PV := [.str e.n, rowV strV e.ws]
def Sc.pv (s : Sc) : List PV := [rowV Ob.pv s.os, rowV En.pv s.es]
theorem flat_drop {α : Type} {f : α → List PV} {z : Nat} (hz : ∀ x, (f x).length = z) : ∀ (l : List α) (i : Nat) (x : α), l[i]? = some x → ∃ r, (flat f l).drop (i * z) = f x ++ r
  | [], i, x, h => by simp at h
  | y :: l, 0, x, h => by
    simp at h
    subst h
    exact ⟨flat f l, by simp [flat]⟩
  | y :: l, i + 1, x, h => by
    obtain ⟨r, hr⟩ := flat_drop hz l i x (by simpa using h)
    refine ⟨r, ?_⟩
    rw [flat, Nat.add_mul, Nat.one_mul, Nat.add_comm, ← List.drop_drop, show List.drop z (f y ++ flat f l) = flat f l by rw [← hz y]; simp]
    exact hr
theorem flat_clean {α : Type} {f : α → List PV} (h : ∀ x, PV.cleans (f x) = true) : ∀ l : List α, PV.cleans (flat f l) = true
  | [] => rfl
  | x :: l => by rw [flat, PV.cleans_append]; exact ⟨h x, flat_clean h l⟩
theorem flat_len {α : Type} {f : α → List PV} {z : Nat} (hz : ∀ x, (f x).length = z) : ∀ l : List α, (flat f l).length = l.length * z
  | [] => by simp [flat]
  | x :: l => by rw [flat, List.length_append, hz, flat_len hz l, List.length_cons, Nat.add_mul]; omega
theorem flat_app {α : Type} (f : α → List PV) (m : List α) : ∀ l : List α, flat f (l ++ m) = flat f l ++ flat f m
  | [] => rfl
  | x :: l => by rw [List.cons_append, flat, flat_app f m l, flat, List.append_assoc]
theorem flat_ones {α : Type} {f : α → List PV} (h : ∀ x, PV.ones (f x) = true) : ∀ l : List α, PV.ones (flat f l) = true
  | [] => rfl
  | x :: l => by rw [flat, PV.ones_append]; exact ⟨h x, flat_ones h l⟩
theorem Fld.cl (f : Fld) : PV.cleans f.pv = true := rfl
theorem Ob.cl (o : Ob) : PV.cleans o.pv = true := rfl
theorem En.cl (o : En) : PV.cleans o.pv = true := rfl
theorem Sc.cl (o : Sc) : PV.cleans o.pv = true := rfl

theorem ld25 (s : Sc) : loadO Tryz.prog 25 (some s.pv) = some (.q (.agg s.pv)) := load_agg (c := s.pv) ag25 sz25 (Nat.le_refl 2)
theorem ld33 (f : Fld) : loadO Tryz.prog 33 (some f.pv) = some (.q (.agg f.pv)) := load_agg (c := f.pv) ag33 sz33 (Nat.le_refl 5)
theorem ld41 (o : Ob) : loadO Tryz.prog 41 (some o.pv) = some (.q (.agg o.pv)) := load_agg (c := o.pv) ag41 sz41 (Nat.le_refl 2)
theorem ld45 (o : En) : loadO Tryz.prog 45 (some o.pv) = some (.q (.agg o.pv)) := load_agg (c := o.pv) ag45 sz45 (Nat.le_refl 2)
theorem ld33r (f : Fld) (r : List PV) : loadO Tryz.prog 33 (some (f.pv ++ r)) = some (.q (.agg f.pv)) := by
  rw [load_agg ag33 sz33 (by rw [List.length_append]; exact Nat.le_add_right 5 _), List.take_left' (show f.pv.length = 5 from rfl)]
theorem ld41r (o : Ob) (r : List PV) : loadO Tryz.prog 41 (some (o.pv ++ r)) = some (.q (.agg o.pv)) := by
  rw [load_agg ag41 sz41 (by rw [List.length_append]; exact Nat.le_add_right 2 _), List.take_left' (show o.pv.length = 2 from rfl)]
theorem ld45r (o : En) (r : List PV) : loadO Tryz.prog 45 (some (o.pv ++ r)) = some (.q (.agg o.pv)) := by
  rw [load_agg ag45 sz45 (by rw [List.length_append]; exact Nat.le_add_right 2 _), List.take_left' (show o.pv.length = 2 from rfl)]

theorem Sc.len (s : Sc) : s.pv.length = 2 := rfl
theorem Ob.len (s : Ob) : s.pv.length = 2 := rfl
theorem En.len (s : En) : s.pv.length = 2 := rfl
theorem Fld.len (s : Fld) : s.pv.length = 5 := rfl
theorem ld22 (s : Sc) : loadO Tryz.prog 22 (some s.pv) = some (.q (rowV Ob.pv s.os)) := loadO_one ag22 sz22
theorem ld23 (s : Sc) : loadO Tryz.prog 23 (some (List.drop 1 s.pv)) = some (.q (rowV En.pv s.es)) := loadO_one ag23 sz23
theorem ld9o (o : Ob) : loadO Tryz.prog 9 (some o.pv) = some (.q (.str o.n)) := loadO_one ag9 sz9
theorem ld9or (o : Ob) (r : List PV) : loadO Tryz.prog 9 (some (o.pv ++ r)) = some (.q (.str o.n)) := loadO_one ag9 sz9
theorem ld39o (o : Ob) : loadO Tryz.prog 39 (some (List.drop 1 o.pv)) = some (.q (rowV Fld.pv o.fs)) := loadO_one ag39 sz39
theorem ld39or (o : Ob) (r : List PV) : loadO Tryz.prog 39 (some (List.drop 1 (o.pv ++ r))) = some (.q (rowV Fld.pv o.fs)) := loadO_one ag39 sz39
theorem ld9e (o : En) : loadO Tryz.prog 9 (some o.pv) = some (.q (.str o.n)) := loadO_one ag9 sz9
theorem ld9er (o : En) (r : List PV) : loadO Tryz.prog 9 (some (o.pv ++ r)) = some (.q (.str o.n)) := loadO_one ag9 sz9
theorem ld43e (o : En) : loadO Tryz.prog 43 (some (List.drop 1 o.pv)) = some (.q (rowV strV o.ws)) := loadO_one ag43 sz43
theorem ld43er (o : En) (r : List PV) : loadO Tryz.prog 43 (some (List.drop 1 (o.pv ++ r))) = some (.q (rowV strV o.ws)) := loadO_one ag43 sz43
theorem ld9f0 (f : Fld) : loadO Tryz.prog 9 (some f.pv) = some (.q (.str f.n)) := loadO_one ag9 sz9
theorem ld9f0r (f : Fld) (r : List PV) : loadO Tryz.prog 9 (some (f.pv ++ r)) = some (.q (.str f.n)) := loadO_one ag9 sz9
theorem ld9f1 (f : Fld) : loadO Tryz.prog 9 (some (List.drop 1 f.pv)) = some (.q (.str f.t)) := loadO_one ag9 sz9
theorem ld9f1r (f : Fld) (r : List PV) : loadO Tryz.prog 9 (some (List.drop 1 (f.pv ++ r))) = some (.q (.str f.t)) := loadO_one ag9 sz9
theorem ld9f2 (f : Fld) : loadO Tryz.prog 9 (some (List.drop 2 f.pv)) = some (.q (.str f.w)) := loadO_one ag9 sz9
theorem ld9f2r (f : Fld) (r : List PV) : loadO Tryz.prog 9 (some (List.drop 2 (f.pv ++ r))) = some (.q (.str f.w)) := loadO_one ag9 sz9
theorem ld9f3 (f : Fld) : loadO Tryz.prog 4 (some (List.drop 3 f.pv)) = some (.q (.bool f.s)) := loadO_one ag4 sz4
theorem ld9f3r (f : Fld) (r : List PV) : loadO Tryz.prog 4 (some (List.drop 3 (f.pv ++ r))) = some (.q (.bool f.s)) := loadO_one ag4 sz4
theorem ld9f4 (f : Fld) : loadO Tryz.prog 9 (some (List.drop 4 f.pv)) = some (.q (.str f.inv)) := loadO_one ag9 sz9
theorem ld9f4r (f : Fld) (r : List PV) : loadO Tryz.prog 9 (some (List.drop 4 (f.pv ++ r))) = some (.q (.str f.inv)) := loadO_one ag9 sz9
theorem ld31f (f : Fld) : loadO Tryz.prog 31 (some (List.drop 1 f.pv)) = some (.q (.agg [.str f.t, .str f.w])) := load_agg (c := List.drop 1 f.pv) ag31 sz31 (by show 2 ≤ 4; omega)
theorem ln22 (l : List Ob) : lenO Tryz.prog [rowV Ob.pv l] [22] = some (.q (.int .i64 l.length)) := len_ro u22
theorem ln23 (l : List En) : lenO Tryz.prog [rowV En.pv l] [23] = some (.q (.int .i64 l.length)) := len_ro u23
theorem ln39 (l : List Fld) : lenO Tryz.prog [rowV Fld.pv l] [39] = some (.q (.int .i64 l.length)) := len_ro u39
theorem ln43 (l : List (List UInt8)) : lenO Tryz.prog [rowV strV l] [43] = some (.q (.int .i64 l.length)) := len_ro u43
theorem ix22 {l : List Ob} {i : Int} {o : Ob} (h0 : 0 ≤ i) (ho : l[i.toNat]? = some o) : ∃ r, ∀ h, idaO Tryz.prog h 22 (rowV Ob.pv l) (.int .i64 i) = some (.q (.rop (o.pv ++ r))) := by
  obtain ⟨r, hr⟩ := flat_drop (f := Ob.pv) (z := 2) (fun _ => rfl) l i.toNat o ho
  have := (List.getElem?_eq_some_iff.1 ho).1
  exact ⟨r, fun h => by rw [← hr]; exact ida_roN u22 sz41 h0 (by omega)⟩
theorem ix23 {l : List En} {i : Int} {o : En} (h0 : 0 ≤ i) (ho : l[i.toNat]? = some o) : ∃ r, ∀ h, idaO Tryz.prog h 23 (rowV En.pv l) (.int .i64 i) = some (.q (.rop (o.pv ++ r))) := by
  obtain ⟨r, hr⟩ := flat_drop (f := En.pv) (z := 2) (fun _ => rfl) l i.toNat o ho
  have := (List.getElem?_eq_some_iff.1 ho).1
  exact ⟨r, fun h => by rw [← hr]; exact ida_roN u23 sz45 h0 (by omega)⟩
theorem ix39 {l : List Fld} {i : Int} {o : Fld} (h0 : 0 ≤ i) (ho : l[i.toNat]? = some o) : ∃ r, ∀ h, idaO Tryz.prog h 39 (rowV Fld.pv l) (.int .i64 i) = some (.q (.rop (o.pv ++ r))) := by
  obtain ⟨r, hr⟩ := flat_drop (f := Fld.pv) (z := 5) (fun _ => rfl) l i.toNat o ho
  have := (List.getElem?_eq_some_iff.1 ho).1
  exact ⟨r, fun h => by rw [← hr]; exact ida_roN u39 sz33 h0 (by omega)⟩
def idx {α : Type} (p : α → Bool) : List α → Nat → Int
  | [], _ => -1
  | x :: l, i => if p x then (i : Int) else idx p l (i + 1)
theorem idx_drop {α : Type} (p : α → Bool) (l : List α) : ∀ (i : Nat) (x : α), l[i]? = some x → idx p (l.drop i) i = if p x then (i : Int) else idx p (l.drop (i + 1)) (i + 1) := by
  intro i x h
  obtain ⟨hi, rfl⟩ := List.getElem?_eq_some_iff.1 h
  rw [List.drop_eq_getElem_cons hi]
  rfl
theorem idx_end {α : Type} (p : α → Bool) (l : List α) (i : Nat) (h : l.length ≤ i) : idx p (l.drop i) i = -1 := by
  rw [List.drop_eq_nil_of_le h]
  rfl

theorem CR.viaFrz {P : Program} {G : Glob} {md : FuncId → Md} {k : FuncId} {fn : Func} {c : Code} {args args' : List PV} {h h1 : AH} {v : PV} (hf : P.funcs[k]? = some fn) (hb : fn.body = some c) (hn : (fn.name == "runtime.NumGoroutine") = false) (hm : md k = .pure) (hcl : PV.cleans args = false) (hz : frzL (frz 100) args h = some (args', h1)) (hcl' : PV.cleans args' = true)
    (hk : ∀ h fr, CR P G md (.fn k) args' h fr (.val v)) (fr : Nat) : CR P G md (.fn k) args h fr (.sh v h1) := by
  obtain ⟨n, he⟩ := hk AH.empty 0
  refine ⟨n, ?_⟩
  cases n with
  | zero => simp [runF] at he
  | succ n =>
    simp only [runF, callB, hf, hb, hn, hm, hcl, hz, Bool.false_eq_true, if_false]
    simp only [runF, callB, hf, hb, hn, hm, hcl', Bool.false_eq_true, if_false, if_true] at he
    cases hr : runP P G (runF P G md n) n fn c args' with
    | none => rw [hr] at he; simp at he
    | some r =>
      rw [hr] at he
      cases r with
      | val u =>
        simp only [Option.some.injEq, CRes.val.injEq] at he
        subst he
        rfl
      | pan u => simp at he
theorem rowsS :
  (∀ (s : Sc), List.length (Sc.pv s) = 2) ∧
  (∀ (s : Ob), List.length (Ob.pv s) = 2) ∧
  (∀ (s : En), List.length (En.pv s) = 2) ∧
  (∀ (s : Fld), List.length (Fld.pv s) = 5) ∧
  (∀ (x_0 : AH) (x_1 x_2 x_3 : Nat), fdaO Tryz.prog x_0 25 (PV.ptr x_1 x_2 x_3) 0 = if liveG x_2 (AH.get x_0 x_1) = true then some (OR.q (PV.ptr x_1 x_2 (x_3 + 0))) else none) ∧
  (∀ (x_0 : AH) (x_1 x_2 x_3 : Nat), fdaO Tryz.prog x_0 25 (PV.ptr x_1 x_2 x_3) 1 = if liveG x_2 (AH.get x_0 x_1) = true then some (OR.q (PV.ptr x_1 x_2 (x_3 + 1))) else none) ∧
  (∀ (x_0 : AH) (x_1 x_2 x_3 : Nat), fdaO Tryz.prog x_0 33 (PV.ptr x_1 x_2 x_3) 0 = if liveG x_2 (AH.get x_0 x_1) = true then some (OR.q (PV.ptr x_1 x_2 (x_3 + 0))) else none) ∧
  (∀ (x_0 : AH) (x_1 x_2 x_3 : Nat), fdaO Tryz.prog x_0 33 (PV.ptr x_1 x_2 x_3) 1 = if liveG x_2 (AH.get x_0 x_1) = true then some (OR.q (PV.ptr x_1 x_2 (x_3 + 1))) else none) ∧
  (∀ (x_0 : AH) (x_1 x_2 x_3 : Nat), fdaO Tryz.prog x_0 33 (PV.ptr x_1 x_2 x_3) 2 = if liveG x_2 (AH.get x_0 x_1) = true then some (OR.q (PV.ptr x_1 x_2 (x_3 + 3))) else none) ∧
  (∀ (x_0 : AH) (x_1 x_2 x_3 : Nat), fdaO Tryz.prog x_0 33 (PV.ptr x_1 x_2 x_3) 3 = if liveG x_2 (AH.get x_0 x_1) = true then some (OR.q (PV.ptr x_1 x_2 (x_3 + 4))) else none) ∧
  (∀ (x_0 : AH) (x_1 x_2 x_3 : Nat), fdaO Tryz.prog x_0 31 (PV.ptr x_1 x_2 x_3) 0 = if liveG x_2 (AH.get x_0 x_1) = true then some (OR.q (PV.ptr x_1 x_2 (x_3 + 0))) else none) ∧
  (∀ (x_0 : AH) (x_1 x_2 x_3 : Nat), fdaO Tryz.prog x_0 31 (PV.ptr x_1 x_2 x_3) 1 = if liveG x_2 (AH.get x_0 x_1) = true then some (OR.q (PV.ptr x_1 x_2 (x_3 + 1))) else none) ∧
  (∀ (x_0 : AH) (x_1 x_2 x_3 : Nat), fdaO Tryz.prog x_0 41 (PV.ptr x_1 x_2 x_3) 0 = if liveG x_2 (AH.get x_0 x_1) = true then some (OR.q (PV.ptr x_1 x_2 (x_3 + 0))) else none) ∧
  (∀ (x_0 : AH) (x_1 x_2 x_3 : Nat), fdaO Tryz.prog x_0 41 (PV.ptr x_1 x_2 x_3) 1 = if liveG x_2 (AH.get x_0 x_1) = true then some (OR.q (PV.ptr x_1 x_2 (x_3 + 1))) else none) ∧
  (∀ (x_0 : AH) (x_1 x_2 x_3 : Nat), fdaO Tryz.prog x_0 45 (PV.ptr x_1 x_2 x_3) 0 = if liveG x_2 (AH.get x_0 x_1) = true then some (OR.q (PV.ptr x_1 x_2 (x_3 + 0))) else none) ∧
  (∀ (x_0 : AH) (x_1 x_2 x_3 : Nat), fdaO Tryz.prog x_0 45 (PV.ptr x_1 x_2 x_3) 1 = if liveG x_2 (AH.get x_0 x_1) = true then some (OR.q (PV.ptr x_1 x_2 (x_3 + 1))) else none) ∧
  (∀ (x_0 : AH) (x_1 : List PV), fdaO Tryz.prog x_0 25 (PV.rop x_1) 0 = some (OR.q (PV.rop (List.drop 0 x_1)))) ∧
  (∀ (x_0 : AH) (x_1 : List PV), fdaO Tryz.prog x_0 25 (PV.rop x_1) 1 = some (OR.q (PV.rop (List.drop 1 x_1)))) ∧
  (∀ (x_0 : AH) (x_1 : List PV), fdaO Tryz.prog x_0 33 (PV.rop x_1) 0 = some (OR.q (PV.rop (List.drop 0 x_1)))) ∧
  (∀ (x_0 : AH) (x_1 : List PV), fdaO Tryz.prog x_0 33 (PV.rop x_1) 1 = some (OR.q (PV.rop (List.drop 1 x_1)))) ∧
  (∀ (x_0 : AH) (x_1 : List PV), fdaO Tryz.prog x_0 33 (PV.rop x_1) 2 = some (OR.q (PV.rop (List.drop 3 x_1)))) ∧
  (∀ (x_0 : AH) (x_1 : List PV), fdaO Tryz.prog x_0 33 (PV.rop x_1) 3 = some (OR.q (PV.rop (List.drop 4 x_1)))) ∧
  (∀ (x_0 : AH) (x_1 : List PV), fdaO Tryz.prog x_0 31 (PV.rop x_1) 0 = some (OR.q (PV.rop (List.drop 0 x_1)))) ∧
  (∀ (x_0 : AH) (x_1 : List PV), fdaO Tryz.prog x_0 31 (PV.rop x_1) 1 = some (OR.q (PV.rop (List.drop 1 x_1)))) ∧
  (∀ (x_0 : AH) (x_1 : List PV), fdaO Tryz.prog x_0 41 (PV.rop x_1) 0 = some (OR.q (PV.rop (List.drop 0 x_1)))) ∧
  (∀ (x_0 : AH) (x_1 : List PV), fdaO Tryz.prog x_0 41 (PV.rop x_1) 1 = some (OR.q (PV.rop (List.drop 1 x_1)))) ∧
  (∀ (x_0 : AH) (x_1 : List PV), fdaO Tryz.prog x_0 45 (PV.rop x_1) 0 = some (OR.q (PV.rop (List.drop 0 x_1)))) ∧
  (∀ (x_0 : AH) (x_1 : List PV), fdaO Tryz.prog x_0 45 (PV.rop x_1) 1 = some (OR.q (PV.rop (List.drop 1 x_1)))) ∧
  (∀ (s : Sc), loadO Tryz.prog 25 (some (Sc.pv s)) = some (OR.q (PV.agg (Sc.pv s)))) ∧
  (∀ (f : Fld), loadO Tryz.prog 33 (some (Fld.pv f)) = some (OR.q (PV.agg (Fld.pv f)))) ∧
  (∀ (o : Ob), loadO Tryz.prog 41 (some (Ob.pv o)) = some (OR.q (PV.agg (Ob.pv o)))) ∧
  (∀ (o : En), loadO Tryz.prog 45 (some (En.pv o)) = some (OR.q (PV.agg (En.pv o)))) ∧
  (∀ (f : Fld) (r : List PV), loadO Tryz.prog 33 (some (Fld.pv f ++ r)) = some (OR.q (PV.agg (Fld.pv f)))) ∧
  (∀ (o : Ob) (r : List PV), loadO Tryz.prog 41 (some (Ob.pv o ++ r)) = some (OR.q (PV.agg (Ob.pv o)))) ∧
  (∀ (o : En) (r : List PV), loadO Tryz.prog 45 (some (En.pv o ++ r)) = some (OR.q (PV.agg (En.pv o)))) ∧
  (∀ (s : Sc), loadO Tryz.prog 22 (some (Sc.pv s)) = some (OR.q (rowV Ob.pv (Sc.os s)))) ∧
  (∀ (s : Sc), loadO Tryz.prog 23 (some (List.drop 1 (Sc.pv s))) = some (OR.q (rowV En.pv (Sc.es s)))) ∧
  (∀ (o : Ob), loadO Tryz.prog 9 (some (Ob.pv o)) = some (OR.q (PV.str (Ob.n o)))) ∧
  (∀ (o : Ob) (r : List PV), loadO Tryz.prog 9 (some (Ob.pv o ++ r)) = some (OR.q (PV.str (Ob.n o)))) ∧
  (∀ (o : Ob), loadO Tryz.prog 39 (some (List.drop 1 (Ob.pv o))) = some (OR.q (rowV Fld.pv (Ob.fs o)))) ∧
  (∀ (o : Ob) (r : List PV), loadO Tryz.prog 39 (some (List.drop 1 (Ob.pv o ++ r))) = some (OR.q (rowV Fld.pv (Ob.fs o)))) ∧
  (∀ (o : En), loadO Tryz.prog 9 (some (En.pv o)) = some (OR.q (PV.str (En.n o)))) ∧
  (∀ (o : En) (r : List PV), loadO Tryz.prog 9 (some (En.pv o ++ r)) = some (OR.q (PV.str (En.n o)))) ∧
  (∀ (o : En), loadO Tryz.prog 43 (some (List.drop 1 (En.pv o))) = some (OR.q (rowV strV (En.ws o)))) ∧
  (∀ (o : En) (r : List PV), loadO Tryz.prog 43 (some (List.drop 1 (En.pv o ++ r))) = some (OR.q (rowV strV (En.ws o)))) ∧
  (∀ (f : Fld), loadO Tryz.prog 9 (some (Fld.pv f)) = some (OR.q (PV.str (Fld.n f)))) ∧
  (∀ (f : Fld) (r : List PV), loadO Tryz.prog 9 (some (Fld.pv f ++ r)) = some (OR.q (PV.str (Fld.n f)))) ∧
  (∀ (f : Fld), loadO Tryz.prog 9 (some (List.drop 1 (Fld.pv f))) = some (OR.q (PV.str (Fld.t f)))) ∧
  (∀ (f : Fld) (r : List PV), loadO Tryz.prog 9 (some (List.drop 1 (Fld.pv f ++ r))) = some (OR.q (PV.str (Fld.t f)))) ∧
  (∀ (f : Fld), loadO Tryz.prog 9 (some (List.drop 2 (Fld.pv f))) = some (OR.q (PV.str (Fld.w f)))) ∧
  (∀ (f : Fld) (r : List PV), loadO Tryz.prog 9 (some (List.drop 2 (Fld.pv f ++ r))) = some (OR.q (PV.str (Fld.w f)))) ∧
  (∀ (f : Fld), loadO Tryz.prog 4 (some (List.drop 3 (Fld.pv f))) = some (OR.q (PV.bool (Fld.s f)))) ∧
  (∀ (f : Fld) (r : List PV), loadO Tryz.prog 4 (some (List.drop 3 (Fld.pv f ++ r))) = some (OR.q (PV.bool (Fld.s f)))) ∧
  (∀ (f : Fld), loadO Tryz.prog 9 (some (List.drop 4 (Fld.pv f))) = some (OR.q (PV.str (Fld.inv f)))) ∧
  (∀ (f : Fld) (r : List PV), loadO Tryz.prog 9 (some (List.drop 4 (Fld.pv f ++ r))) = some (OR.q (PV.str (Fld.inv f)))) ∧
  (∀ (f : Fld), loadO Tryz.prog 31 (some (List.drop 1 (Fld.pv f))) = some (OR.q (PV.agg [PV.str (Fld.t f), PV.str (Fld.w f)]))) ∧
  (∀ (l : List Ob), lenO Tryz.prog [rowV Ob.pv l] [22] = some (OR.q (PV.int IntKind.i64 ↑(List.length l)))) ∧
  (∀ (l : List En), lenO Tryz.prog [rowV En.pv l] [23] = some (OR.q (PV.int IntKind.i64 ↑(List.length l)))) ∧
  (∀ (l : List Fld), lenO Tryz.prog [rowV Fld.pv l] [39] = some (OR.q (PV.int IntKind.i64 ↑(List.length l)))) ∧
  (∀ (l : List (List UInt8)), lenO Tryz.prog [rowV strV l] [43] = some (OR.q (PV.int IntKind.i64 ↑(List.length l)))) :=
  ⟨@Sc.len, @Ob.len, @En.len, @Fld.len, fun _ _ _ _ => fda_ptr o25_0, fun _ _ _ _ => fda_ptr o25_1, fun _ _ _ _ => fda_ptr o33_0, fun _ _ _ _ => fda_ptr o33_1, fun _ _ _ _ => fda_ptr o33_2, fun _ _ _ _ => fda_ptr o33_3, fun _ _ _ _ => fda_ptr o31_0, fun _ _ _ _ => fda_ptr o31_1, fun _ _ _ _ => fda_ptr o41_0, fun _ _ _ _ => fda_ptr o41_1, fun _ _ _ _ => fda_ptr o45_0, fun _ _ _ _ => fda_ptr o45_1, fun _ _ => fda_rop o25_0, fun _ _ => fda_rop o25_1, fun _ _ => fda_rop o33_0, fun _ _ => fda_rop o33_1, fun _ _ => fda_rop o33_2, fun _ _ => fda_rop o33_3, fun _ _ => fda_rop o31_0, fun _ _ => fda_rop o31_1, fun _ _ => fda_rop o41_0, fun _ _ => fda_rop o41_1, fun _ _ => fda_rop o45_0, fun _ _ => fda_rop o45_1, @ld25, @ld33, @ld41, @ld45, @ld33r, @ld41r, @ld45r, @ld22, @ld23, @ld9o, @ld9or, @ld39o, @ld39or, @ld9e, @ld9er, @ld43e, @ld43er, @ld9f0, @ld9f0r, @ld9f1, @ld9f1r, @ld9f2, @ld9f2r, @ld9f3, @ld9f3r, @ld9f4, @ld9f4r, @ld31f, @ln22, @ln23, @ln39, @ln43⟩
end Go.Proofs.YtcbngkmmmfaaoaaGreatDoor
namespace Go.Proofs.YtcbngkmmmfaaoaaGreatDoor
open Go.RowKit Go.Lib Go.Ac
set_option linter.unusedSimpArgs false
set_option maxRecDepth 100000
variable {mx : Int}

theorem objP_c (o : Ob) (x : List UInt8) (h : AH) (fr : Nat) : CR Tryz.prog (globM mx) md (.fn 54) [.agg o.pv, .rop [.str x]] h fr (.val (.bool (decide (o.n = x)))) := by
  refine CR.plain (rs := [.tmp 3]) Tryz.func54 rfl rfl rfl rfl rfl rfl rfl ?_ h fr
  simp -implicitDefEqProofs only [wpC_seq, rowsA, if_true, if_false, opnd, ofVal, ofVal1, layArgs, Nat.reduceAdd, reduceIte, Nat.reduceEqDiff, reduceCtorEq, rowsB, cellsG, Nat.reduceMul, fda_ptr o41_0, Ob.pv, loadO_one ag9 sz9]
theorem enmP_c (o : En) (x : List UInt8) (h : AH) (fr : Nat) : CR Tryz.prog (globM mx) md (.fn 56) [.agg o.pv, .rop [.str x]] h fr (.val (.bool (decide (o.n = x)))) := by
  refine CR.plain (rs := [.tmp 3]) Tryz.func56 rfl rfl rfl rfl rfl rfl rfl ?_ h fr
  simp -implicitDefEqProofs only [wpC_seq, rowsA, if_true, if_false, opnd, ofVal, ofVal1, layArgs, Nat.reduceAdd, reduceIte, Nat.reduceEqDiff, reduceCtorEq, rowsB, cellsG, Nat.reduceMul, fda_ptr o45_0, En.pv, loadO_one ag9 sz9]
theorem fldP_c (o : Fld) (x : List UInt8) (h : AH) (fr : Nat) : CR Tryz.prog (globM mx) md (.fn 105) [.agg o.pv, .rop [.str x]] h fr (.val (.bool (decide (o.n = x)))) := by
  refine CR.plain (rs := [.tmp 3]) Tryz.func105 rfl rfl rfl rfl rfl rfl rfl ?_ h fr
  simp -implicitDefEqProofs only [wpC_seq, rowsA, if_true, if_false, opnd, ofVal, ofVal1, layArgs, Nat.reduceAdd, reduceIte, Nat.reduceEqDiff, reduceCtorEq, rowsB, cellsG, Nat.reduceMul, fda_ptr o33_0, Fld.pv, loadO_one ag9 sz9]

def invIdx {α : Type} (f : α → List PV) (p : α → Bool) (l : List α) (g : PV) (k : Nat) (F : Fr) (_ : AH) : Prop := ∃ i : Nat, i + k = l.length ∧ F.at 0 = rowV f l ∧ F.at 1 = g ∧ F.at 7 = .int .i64 l.length ∧ F.at 8 = .int .i64 i ∧ idx p (l.drop i) i = idx p l 0

theorem indexOb_c (p : Ob → Bool) (l : List Ob) (hl : l.length ≤ 9223372036854775807) (kf : FuncId) (cap : List PV) (hcap : PV.cleans cap = true) (hp : ∀ o h fr, CR Tryz.prog (globM mx) md (.fn kf) (.agg o.pv :: cap) h fr (.val (.bool (p o)))) (h : AH) (fr : Nat) :
    CR Tryz.prog (globM mx) md (.fn 53) [rowV Ob.pv l, .fn (.func kf) [] cap] h fr (.val (.int .i64 (idx p l 0))) := by
  refine CR.plain (rs := [.tmp 4]) Tryz.func53 rfl rfl rfl rfl rfl (by simp [rowV, PV.cleans, PV.clean, hcap]) rfl ?_ h fr
  simp -implicitDefEqProofs only [wpC_seq, rowsA, if_true, if_false, opnd, ofVal, ofVal1, layArgs, Nat.reduceAdd, reduceIte, Nat.reduceEqDiff, reduceCtorEq, rowsB, cellsG, Nat.reduceMul, rowV, len_ro u22]
  refine wpC_loop (invIdx Ob.pv p l (.fn (.func kf) [] cap)) (k := l.length) ⟨0, by omega, ?_, ?_, ?_, ?_, rfl⟩ ?_
  · simp only [Fr.at_set, Nat.reduceEqDiff, reduceIte, reduceCtorEq]; rfl
  · simp only [Fr.at_set, Nat.reduceEqDiff, reduceIte, reduceCtorEq]
  · simp only [Fr.at_set, Nat.reduceEqDiff, reduceIte, reduceCtorEq]
  · simp only [Fr.at_set, Nat.reduceEqDiff, reduceIte, reduceCtorEq]; rfl
  rintro k F h' ⟨i, hi, f0, f1, f7, f8, hx⟩
  cases k with
  | zero =>
    have c1 : decide ((i : Int) < (l.length : Int)) = false := decide_eq_false (by omega)
    rw [idx_end p l i (by omega)] at hx
    simp -implicitDefEqProofs only [wpC_seq, rowsA, if_true, if_false, opnd, ofVal, ofVal1, layArgs, Nat.reduceAdd, reduceIte, Nat.reduceEqDiff, reduceCtorEq, rowsB, cellsG, Nat.reduceMul, f0, f1, f7, f8, c1, ← hx]
  | succ k =>
    have c1 : decide ((i : Int) < (l.length : Int)) = true := decide_eq_true (by omega)
    obtain ⟨o, ho⟩ : ∃ o, l[i]? = some o := ⟨l[i], List.getElem?_eq_getElem (by omega)⟩
    obtain ⟨r, hr⟩ := flat_drop (f := Ob.pv) (z := 2) (fun _ => rfl) l i o ho
    rw [idx_drop p l i o ho] at hx
    have w := IntWalk.i64_in ((i : Int) + 1) (by omega)
    have hld : loadO Tryz.prog 41 (some (o.pv ++ r)) = some (.q (.agg o.pv)) := by
      rw [load_agg ag41 sz41 (by rw [List.length_append]; show 2 ≤ 2 + _; omega)]
      rw [List.take_left' (show o.pv.length = 2 from rfl)]
    cases hpo : p o with
    | true =>
      rw [hpo, if_pos rfl] at hx
      simp -implicitDefEqProofs only [wpC_seq, rowsA, if_true, if_false, opnd, ofVal, ofVal1, layArgs, Nat.reduceAdd, reduceIte, Nat.reduceEqDiff, reduceCtorEq, rowsB, cellsG, Nat.reduceMul, f0, f1, f7, f8, c1, rowV, ida_roN (n := l.length) (i := (i : Int)) u22 sz41 (by omega) (by omega), Int.toNat_natCast, hr, hld, goO_known (hp o), hpo, ← hx]
    | false =>
      rw [hpo, if_neg (by simp)] at hx
      simp -implicitDefEqProofs only [wpC_seq, rowsA, if_true, if_false, opnd, ofVal, ofVal1, layArgs, Nat.reduceAdd, reduceIte, Nat.reduceEqDiff, reduceCtorEq, rowsB, cellsG, Nat.reduceMul, f0, f1, f7, f8, c1, rowV, ida_roN (n := l.length) (i := (i : Int)) u22 sz41 (by omega) (by omega), Int.toNat_natCast, hr, hld, goO_known (hp o), hpo, w]
      refine ⟨k, by omega, i + 1, by omega, ?_, ?_, ?_, ?_, hx⟩
      · simp only [Fr.at_set, Nat.reduceEqDiff, reduceIte, reduceCtorEq, f0]
      · simp only [Fr.at_set, Nat.reduceEqDiff, reduceIte, reduceCtorEq, f1]
      · simp only [Fr.at_set, Nat.reduceEqDiff, reduceIte, reduceCtorEq, f7]
      · simp only [Fr.at_set, Nat.reduceEqDiff, reduceIte, reduceCtorEq]; rfl
theorem indexOb_sh (l : List Ob) (hl : l.length ≤ 9223372036854775807) (x : List UInt8) (id : Nat) (h : AH) (hg : h.get id = some (.cells 9 0 false [.str x])) (fr : Nat) :
    CR Tryz.prog (globM mx) md (.fn 53) [rowV Ob.pv l, .fn (.func 54) [] [.ptr id 1 0]] h fr (.sh (.int .i64 (idx (fun o => decide (o.n = x)) l 0)) (h.set id (.cells 9 0 true [.str x]))) := by
  refine CR.viaFrz (args' := [rowV Ob.pv l, .fn (.func 54) [] [.rop [.str x]]]) Tryz.func53 rfl rfl rfl rfl ?_ rfl (fun h fr => indexOb_c _ l hl 54 [.rop [.str x]] rfl (fun o h fr => objP_c o x h fr) h fr) fr
  simp only [frzL, frz_clean h (show (rowV Ob.pv l).clean = true from rfl), frz_cap100 (tot := 1) 54 hg rfl rfl]
theorem indexEn_c (p : En → Bool) (l : List En) (hl : l.length ≤ 9223372036854775807) (kf : FuncId) (cap : List PV) (hcap : PV.cleans cap = true) (hp : ∀ o h fr, CR Tryz.prog (globM mx) md (.fn kf) (.agg o.pv :: cap) h fr (.val (.bool (p o)))) (h : AH) (fr : Nat) :
    CR Tryz.prog (globM mx) md (.fn 55) [rowV En.pv l, .fn (.func kf) [] cap] h fr (.val (.int .i64 (idx p l 0))) := by
  refine CR.plain (rs := [.tmp 4]) Tryz.func55 rfl rfl rfl rfl rfl (by simp [rowV, PV.cleans, PV.clean, hcap]) rfl ?_ h fr
  simp -implicitDefEqProofs only [wpC_seq, rowsA, if_true, if_false, opnd, ofVal, ofVal1, layArgs, Nat.reduceAdd, reduceIte, Nat.reduceEqDiff, reduceCtorEq, rowsB, cellsG, Nat.reduceMul, rowV, len_ro u23]
  refine wpC_loop (invIdx En.pv p l (.fn (.func kf) [] cap)) (k := l.length) ⟨0, by omega, ?_, ?_, ?_, ?_, rfl⟩ ?_
  · simp only [Fr.at_set, Nat.reduceEqDiff, reduceIte, reduceCtorEq]; rfl
  · simp only [Fr.at_set, Nat.reduceEqDiff, reduceIte, reduceCtorEq]
  · simp only [Fr.at_set, Nat.reduceEqDiff, reduceIte, reduceCtorEq]
  · simp only [Fr.at_set, Nat.reduceEqDiff, reduceIte, reduceCtorEq]; rfl
  rintro k F h' ⟨i, hi, f0, f1, f7, f8, hx⟩
  cases k with
  | zero =>
    have c1 : decide ((i : Int) < (l.length : Int)) = false := decide_eq_false (by omega)
    rw [idx_end p l i (by omega)] at hx
    simp -implicitDefEqProofs only [wpC_seq, rowsA, if_true, if_false, opnd, ofVal, ofVal1, layArgs, Nat.reduceAdd, reduceIte, Nat.reduceEqDiff, reduceCtorEq, rowsB, cellsG, Nat.reduceMul, f0, f1, f7, f8, c1, ← hx]
  | succ k =>
    have c1 : decide ((i : Int) < (l.length : Int)) = true := decide_eq_true (by omega)
    obtain ⟨o, ho⟩ : ∃ o, l[i]? = some o := ⟨l[i], List.getElem?_eq_getElem (by omega)⟩
    obtain ⟨r, hr⟩ := flat_drop (f := En.pv) (z := 2) (fun _ => rfl) l i o ho
    rw [idx_drop p l i o ho] at hx
    have w := IntWalk.i64_in ((i : Int) + 1) (by omega)
    have hld : loadO Tryz.prog 45 (some (o.pv ++ r)) = some (.q (.agg o.pv)) := by
      rw [load_agg ag45 sz45 (by rw [List.length_append]; show 2 ≤ 2 + _; omega)]
      rw [List.take_left' (show o.pv.length = 2 from rfl)]
    cases hpo : p o with
    | true =>
      rw [hpo, if_pos rfl] at hx
      simp -implicitDefEqProofs only [wpC_seq, rowsA, if_true, if_false, opnd, ofVal, ofVal1, layArgs, Nat.reduceAdd, reduceIte, Nat.reduceEqDiff, reduceCtorEq, rowsB, cellsG, Nat.reduceMul, f0, f1, f7, f8, c1, rowV, ida_roN (n := l.length) (i := (i : Int)) u23 sz45 (by omega) (by omega), Int.toNat_natCast, hr, hld, goO_known (hp o), hpo, ← hx]
    | false =>
      rw [hpo, if_neg (by simp)] at hx
      simp -implicitDefEqProofs only [wpC_seq, rowsA, if_true, if_false, opnd, ofVal, ofVal1, layArgs, Nat.reduceAdd, reduceIte, Nat.reduceEqDiff, reduceCtorEq, rowsB, cellsG, Nat.reduceMul, f0, f1, f7, f8, c1, rowV, ida_roN (n := l.length) (i := (i : Int)) u23 sz45 (by omega) (by omega), Int.toNat_natCast, hr, hld, goO_known (hp o), hpo, w]
      refine ⟨k, by omega, i + 1, by omega, ?_, ?_, ?_, ?_, hx⟩
      · simp only [Fr.at_set, Nat.reduceEqDiff, reduceIte, reduceCtorEq, f0]
      · simp only [Fr.at_set, Nat.reduceEqDiff, reduceIte, reduceCtorEq, f1]
      · simp only [Fr.at_set, Nat.reduceEqDiff, reduceIte, reduceCtorEq, f7]
      · simp only [Fr.at_set, Nat.reduceEqDiff, reduceIte, reduceCtorEq]; rfl
theorem indexEn_sh (l : List En) (hl : l.length ≤ 9223372036854775807) (x : List UInt8) (id : Nat) (h : AH) (hg : h.get id = some (.cells 9 0 false [.str x])) (fr : Nat) :
    CR Tryz.prog (globM mx) md (.fn 55) [rowV En.pv l, .fn (.func 56) [] [.ptr id 1 0]] h fr (.sh (.int .i64 (idx (fun o => decide (o.n = x)) l 0)) (h.set id (.cells 9 0 true [.str x]))) := by
  refine CR.viaFrz (args' := [rowV En.pv l, .fn (.func 56) [] [.rop [.str x]]]) Tryz.func55 rfl rfl rfl rfl ?_ rfl (fun h fr => indexEn_c _ l hl 56 [.rop [.str x]] rfl (fun o h fr => enmP_c o x h fr) h fr) fr
  simp only [frzL, frz_clean h (show (rowV En.pv l).clean = true from rfl), frz_cap100 (tot := 1) 56 hg rfl rfl]
theorem indexFld_c (p : Fld → Bool) (l : List Fld) (hl : l.length ≤ 9223372036854775807) (kf : FuncId) (cap : List PV) (hcap : PV.cleans cap = true) (hp : ∀ o h fr, CR Tryz.prog (globM mx) md (.fn kf) (.agg o.pv :: cap) h fr (.val (.bool (p o)))) (h : AH) (fr : Nat) :
    CR Tryz.prog (globM mx) md (.fn 104) [rowV Fld.pv l, .fn (.func kf) [] cap] h fr (.val (.int .i64 (idx p l 0))) := by
  refine CR.plain (rs := [.tmp 4]) Tryz.func104 rfl rfl rfl rfl rfl (by simp [rowV, PV.cleans, PV.clean, hcap]) rfl ?_ h fr
  simp -implicitDefEqProofs only [wpC_seq, rowsA, if_true, if_false, opnd, ofVal, ofVal1, layArgs, Nat.reduceAdd, reduceIte, Nat.reduceEqDiff, reduceCtorEq, rowsB, cellsG, Nat.reduceMul, rowV, len_ro u39]
  refine wpC_loop (invIdx Fld.pv p l (.fn (.func kf) [] cap)) (k := l.length) ⟨0, by omega, ?_, ?_, ?_, ?_, rfl⟩ ?_
  · simp only [Fr.at_set, Nat.reduceEqDiff, reduceIte, reduceCtorEq]; rfl
  · simp only [Fr.at_set, Nat.reduceEqDiff, reduceIte, reduceCtorEq]
  · simp only [Fr.at_set, Nat.reduceEqDiff, reduceIte, reduceCtorEq]
  · simp only [Fr.at_set, Nat.reduceEqDiff, reduceIte, reduceCtorEq]; rfl
  rintro k F h' ⟨i, hi, f0, f1, f7, f8, hx⟩
  cases k with
  | zero =>
    have c1 : decide ((i : Int) < (l.length : Int)) = false := decide_eq_false (by omega)
    rw [idx_end p l i (by omega)] at hx
    simp -implicitDefEqProofs only [wpC_seq, rowsA, if_true, if_false, opnd, ofVal, ofVal1, layArgs, Nat.reduceAdd, reduceIte, Nat.reduceEqDiff, reduceCtorEq, rowsB, cellsG, Nat.reduceMul, f0, f1, f7, f8, c1, ← hx]
  | succ k =>
    have c1 : decide ((i : Int) < (l.length : Int)) = true := decide_eq_true (by omega)
    obtain ⟨o, ho⟩ : ∃ o, l[i]? = some o := ⟨l[i], List.getElem?_eq_getElem (by omega)⟩
    obtain ⟨r, hr⟩ := flat_drop (f := Fld.pv) (z := 5) (fun _ => rfl) l i o ho
    rw [idx_drop p l i o ho] at hx
    have w := IntWalk.i64_in ((i : Int) + 1) (by omega)
    have hld : loadO Tryz.prog 33 (some (o.pv ++ r)) = some (.q (.agg o.pv)) := by
      rw [load_agg ag33 sz33 (by rw [List.length_append]; show 5 ≤ 5 + _; omega)]
      rw [List.take_left' (show o.pv.length = 5 from rfl)]
    cases hpo : p o with
    | true =>
      rw [hpo, if_pos rfl] at hx
      simp -implicitDefEqProofs only [wpC_seq, rowsA, if_true, if_false, opnd, ofVal, ofVal1, layArgs, Nat.reduceAdd, reduceIte, Nat.reduceEqDiff, reduceCtorEq, rowsB, cellsG, Nat.reduceMul, f0, f1, f7, f8, c1, rowV, ida_roN (n := l.length) (i := (i : Int)) u39 sz33 (by omega) (by omega), Int.toNat_natCast, hr, hld, goO_known (hp o), hpo, ← hx]
    | false =>
      rw [hpo, if_neg (by simp)] at hx
      simp -implicitDefEqProofs only [wpC_seq, rowsA, if_true, if_false, opnd, ofVal, ofVal1, layArgs, Nat.reduceAdd, reduceIte, Nat.reduceEqDiff, reduceCtorEq, rowsB, cellsG, Nat.reduceMul, f0, f1, f7, f8, c1, rowV, ida_roN (n := l.length) (i := (i : Int)) u39 sz33 (by omega) (by omega), Int.toNat_natCast, hr, hld, goO_known (hp o), hpo, w]
      refine ⟨k, by omega, i + 1, by omega, ?_, ?_, ?_, ?_, hx⟩
      · simp only [Fr.at_set, Nat.reduceEqDiff, reduceIte, reduceCtorEq, f0]
      · simp only [Fr.at_set, Nat.reduceEqDiff, reduceIte, reduceCtorEq, f1]
      · simp only [Fr.at_set, Nat.reduceEqDiff, reduceIte, reduceCtorEq, f7]
      · simp only [Fr.at_set, Nat.reduceEqDiff, reduceIte, reduceCtorEq]; rfl
theorem indexFld_sh (l : List Fld) (hl : l.length ≤ 9223372036854775807) (x : List UInt8) (id : Nat) (h : AH) (hg : h.get id = some (.cells 9 0 false [.str x])) (fr : Nat) :
    CR Tryz.prog (globM mx) md (.fn 104) [rowV Fld.pv l, .fn (.func 105) [] [.ptr id 1 0]] h fr (.sh (.int .i64 (idx (fun o => decide (o.n = x)) l 0)) (h.set id (.cells 9 0 true [.str x]))) := by
  refine CR.viaFrz (args' := [rowV Fld.pv l, .fn (.func 105) [] [.rop [.str x]]]) Tryz.func104 rfl rfl rfl rfl ?_ rfl (fun h fr => indexFld_c _ l hl 105 [.rop [.str x]] rfl (fun o h fr => fldP_c o x h fr) h fr) fr
  simp only [frzL, frz_clean h (show (rowV Fld.pv l).clean = true from rfl), frz_cap100 (tot := 1) 105 hg rfl rfl]

theorem enum_c (s : Sc) (hs : s.es.length ≤ 9223372036854775807) (x : List UInt8) (h : AH) (fr : Nat) : CR Tryz.prog (globM mx) md (.fn 19) [.agg s.pv, .str x] h fr (.val (.int .i64 (idx (fun o => decide (o.n = x)) s.es 0))) := by
  refine CR.plain (rs := [.tmp 4]) Tryz.func19 rfl rfl rfl rfl rfl (by simp [PV.cleans, PV.clean, Sc.cl]) rfl ?_ h fr
  simp -implicitDefEqProofs only [wpC_seq, rowsA, if_true, if_false, opnd, ofVal, ofVal1, layArgs, Nat.reduceAdd, reduceIte, Nat.reduceEqDiff, reduceCtorEq, rowsB, cellsG, Nat.reduceMul, Sc.pv, fda_ptr o25_1, loadO_one ag23 sz23]
  rw [goO_shared (indexEn_sh s.es hs x 1 _ (by simp only [AH.get_set, AH.get_up, Nat.reduceEqDiff, if_false, if_true]))]
  simp -implicitDefEqProofs only [wpC_seq, rowsA, if_true, if_false, opnd, ofVal, ofVal1, layArgs, Nat.reduceAdd, reduceIte, Nat.reduceEqDiff, reduceCtorEq, rowsB, cellsG, Nat.reduceMul]
theorem place_c (o : Ob) (hs : o.fs.length ≤ 9223372036854775807) (x : List UInt8) (h : AH) (fr : Nat) : CR Tryz.prog (globM mx) md (.fn 58) [.agg o.pv, .str x] h fr (.val (.int .i64 (idx (fun f => decide (f.n = x)) o.fs 0))) := by
  refine CR.plain (rs := [.tmp 4]) Tryz.func58 rfl rfl rfl rfl rfl (by simp [PV.cleans, PV.clean, Ob.cl]) rfl ?_ h fr
  simp -implicitDefEqProofs only [wpC_seq, rowsA, if_true, if_false, opnd, ofVal, ofVal1, layArgs, Nat.reduceAdd, reduceIte, Nat.reduceEqDiff, reduceCtorEq, rowsB, cellsG, Nat.reduceMul, Ob.pv, fda_ptr o41_1, loadO_one ag39 sz39]
  rw [goO_shared (indexFld_sh o.fs hs x 1 _ (by simp only [AH.get_set, AH.get_up, Nat.reduceEqDiff, if_false, if_true]))]
  simp -implicitDefEqProofs only [wpC_seq, rowsA, if_true, if_false, opnd, ofVal, ofVal1, layArgs, Nat.reduceAdd, reduceIte, Nat.reduceEqDiff, reduceCtorEq, rowsB, cellsG, Nat.reduceMul]
end Go.Proofs.YtcbngkmmmfaaoaaGreatDoor
namespace Go.Proofs.YtcbngkmmmfaaoaaGreatDoor
open Go.RowKit Go.Lib Go.Ac
set_option linter.unusedSimpArgs false
set_option maxRecDepth 100000
variable {mx : Int}

theorem pure_any {P : Program} {G : Glob} {md : FuncId → Md} {k : FuncId} {args : List PV} {v : PV} (hm : md k = .pure) (hcl : PV.cleans args = true) {h : AH} {fr : Nat} (a : CR P G md (.fn k) args h fr (.val v)) (h' : AH) (fr' : Nat) : CR P G md (.fn k) args h' fr' (.val v) := by
  obtain ⟨n, hn⟩ := a
  refine ⟨n, ?_⟩
  cases n with
  | zero => simp [runF] at hn
  | succ n =>
    simp only [runF, callB, hm, hcl, if_true] at hn ⊢
    split at hn
    · split at hn
      · split at hn
        · simp at hn
        · rename_i hname
          rw [if_neg hname]
          split at hn
          · exact hn
          · simp at hn
          · simp at hn
      · simp at hn
    · simp at hn

def scalar (x : List UInt8) : Bool := decide (x = [73, 110, 116]) || decide (x = [70, 108, 111, 97, 116]) || decide (x = [83, 116, 114, 105, 110, 103]) || decide (x = [66, 111, 111, 108, 101, 97, 110])
theorem scalar_c (x : List UInt8) (h : AH) (fr : Nat) : CR Tryz.prog (globM mx) md (.fn 21) [.str x] h fr (.val (.bool (scalar x))) := by
  refine CR.plain (rs := [.tmp 2]) Tryz.func21 rfl rfl rfl rfl rfl rfl rfl ?_ h fr
  simp -implicitDefEqProofs only [wpC_seq, rowsA, if_true, if_false, opnd, ofVal, ofVal1, layArgs, Nat.reduceAdd, reduceIte, Nat.reduceEqDiff, reduceCtorEq, rowsB, cellsG, Nat.reduceMul]
  unfold scalar
  repeat' split
  all_goals simp_all
theorem refScalar_c (x : List UInt8) (h : AH) (fr : Nat) : CR Tryz.prog (globM mx) md (.fn 22) [.str x] h fr (.val (.bool (scalar x))) := by
  refine CR.plain (rs := [.tmp 2]) Tryz.func22 rfl rfl rfl rfl rfl rfl rfl ?_ h fr
  by_cases c1 : x = [73, 110, 116]
  · simp -implicitDefEqProofs only [wpC_seq, rowsA, if_true, if_false, opnd, ofVal, ofVal1, layArgs, Nat.reduceAdd, reduceIte, Nat.reduceEqDiff, reduceCtorEq, rowsB, cellsG, Nat.reduceMul, c1]
    rfl
  by_cases c2 : x = [70, 108, 111, 97, 116]
  · simp -implicitDefEqProofs only [wpC_seq, rowsA, if_true, if_false, opnd, ofVal, ofVal1, layArgs, Nat.reduceAdd, reduceIte, Nat.reduceEqDiff, reduceCtorEq, rowsB, cellsG, Nat.reduceMul, c1, c2]
    rfl
  by_cases c3 : x = [83, 116, 114, 105, 110, 103]
  · simp -implicitDefEqProofs only [wpC_seq, rowsA, if_true, if_false, opnd, ofVal, ofVal1, layArgs, Nat.reduceAdd, reduceIte, Nat.reduceEqDiff, reduceCtorEq, rowsB, cellsG, Nat.reduceMul, c1, c2, c3]
    rfl
  simp -implicitDefEqProofs only [wpC_seq, rowsA, if_true, if_false, opnd, ofVal, ofVal1, layArgs, Nat.reduceAdd, reduceIte, Nat.reduceEqDiff, reduceCtorEq, rowsB, cellsG, Nat.reduceMul, c1, c2, c3]
  simp [scalar, c1, c2, c3]

def invRefOb (s : Sc) (p : Ob → Bool) (x : List UInt8) (k : Nat) (F : Fr) (h : AH) : Prop := ∃ i : Nat, i + k = (s.os).length ∧ F.at 1 = .str x ∧ F.at 2 = .ptr 0 2 0 ∧ F.at 5 = .int .i64 i ∧ h.get 0 = some (.cells 25 0 false s.pv) ∧ idx p ((s.os).drop i) i = idx p (s.os) 0
theorem refObject_c (s : Sc) (hs : (s.os).length ≤ 9223372036854775807) (x : List UInt8) (h : AH) (fr : Nat) : CR Tryz.prog (globM mx) md (.fn 18) [.agg s.pv, .str x] h fr (.val (.int .i64 (idx (fun o => decide (o.n = x)) (s.os) 0))) := by
  refine CR.plain (rs := [.tmp 4]) Tryz.func18 rfl rfl rfl rfl rfl (by simp [PV.cleans, PV.clean, Sc.cl]) rfl ?_ h fr
  simp -implicitDefEqProofs only [wpC_seq, rowsA, if_true, if_false, opnd, ofVal, ofVal1, layArgs, Nat.reduceAdd, reduceIte, Nat.reduceEqDiff, reduceCtorEq, rowsB, cellsG, Nat.reduceMul, Sc.pv]
  refine wpC_loop (invRefOb s (fun o => decide (o.n = x)) x) (k := (s.os).length) ⟨0, by omega, ?_, ?_, ?_, ?_, rfl⟩ ?_
  · simp only [Fr.at_set, Nat.reduceEqDiff, reduceIte, reduceCtorEq]
  · simp only [Fr.at_set, Nat.reduceEqDiff, reduceIte, reduceCtorEq]
  · simp only [Fr.at_set, Nat.reduceEqDiff, reduceIte, reduceCtorEq]; rfl
  · simp only [AH.get_set, AH.get_up, if_true]; rfl
  rintro k F h' ⟨i, hi, f1, f2, f5, g0, hx⟩
  cases k with
  | zero =>
    have c1 : decide ((i : Int) < ((s.os).length : Int)) = false := decide_eq_false (by omega)
    rw [idx_end _ _ i (by omega)] at hx
    simp -implicitDefEqProofs only [wpC_seq, rowsA, if_true, if_false, opnd, ofVal, ofVal1, layArgs, Nat.reduceAdd, reduceIte, Nat.reduceEqDiff, reduceCtorEq, rowsB, cellsG, Nat.reduceMul, f1, f2, f5, g0, Sc.pv, rowV, fda_ptr o25_0, loadO_one ag22 sz22, len_ro u22, c1, ← hx]
  | succ k =>
    have c1 : decide ((i : Int) < ((s.os).length : Int)) = true := decide_eq_true (by omega)
    obtain ⟨o, ho⟩ : ∃ o, (s.os)[i]? = some o := ⟨(s.os)[i], List.getElem?_eq_getElem (by omega)⟩
    obtain ⟨r, hr⟩ := flat_drop (f := Ob.pv) (z := 2) (fun _ => rfl) (s.os) i o ho
    rw [idx_drop _ _ i o ho] at hx
    have w := IntWalk.i64_in ((i : Int) + 1) (by omega)
    by_cases hpo : o.n = x
    · rw [if_pos (by simpa using hpo)] at hx
      simp -implicitDefEqProofs only [wpC_seq, rowsA, if_true, if_false, opnd, ofVal, ofVal1, layArgs, Nat.reduceAdd, reduceIte, Nat.reduceEqDiff, reduceCtorEq, rowsB, cellsG, Nat.reduceMul, f1, f2, f5, g0, Sc.pv, rowV, fda_ptr o25_0, loadO_one ag22 sz22, len_ro u22, c1, ida_roN (n := (s.os).length) (i := (i : Int)) u22 sz41 (by omega) (by omega), Int.toNat_natCast, hr, fda_rop o41_0, Ob.pv, loadO_one ag9 sz9, hpo, ← hx]
    · rw [if_neg (by simpa using hpo)] at hx
      simp -implicitDefEqProofs only [wpC_seq, rowsA, if_true, if_false, opnd, ofVal, ofVal1, layArgs, Nat.reduceAdd, reduceIte, Nat.reduceEqDiff, reduceCtorEq, rowsB, cellsG, Nat.reduceMul, f1, f2, f5, g0, Sc.pv, rowV, fda_ptr o25_0, loadO_one ag22 sz22, len_ro u22, c1, ida_roN (n := (s.os).length) (i := (i : Int)) u22 sz41 (by omega) (by omega), Int.toNat_natCast, hr, fda_rop o41_0, Ob.pv, loadO_one ag9 sz9, hpo, w]
      refine ⟨k, by omega, i + 1, by omega, ?_, ?_, ?_, ?_, hx⟩
      · simp only [Fr.at_set, Nat.reduceEqDiff, reduceIte, reduceCtorEq, f1]
      · simp only [Fr.at_set, Nat.reduceEqDiff, reduceIte, reduceCtorEq, f2]
      · simp only [Fr.at_set, Nat.reduceEqDiff, reduceIte, reduceCtorEq]; rfl
      · simp only [AH.get_up, g0]
def invRefEn (s : Sc) (p : En → Bool) (x : List UInt8) (k : Nat) (F : Fr) (h : AH) : Prop := ∃ i : Nat, i + k = (s.es).length ∧ F.at 1 = .str x ∧ F.at 2 = .ptr 0 2 0 ∧ F.at 5 = .int .i64 i ∧ h.get 0 = some (.cells 25 0 false s.pv) ∧ idx p ((s.es).drop i) i = idx p (s.es) 0
theorem refEnum_c (s : Sc) (hs : (s.es).length ≤ 9223372036854775807) (x : List UInt8) (h : AH) (fr : Nat) : CR Tryz.prog (globM mx) md (.fn 20) [.agg s.pv, .str x] h fr (.val (.int .i64 (idx (fun o => decide (o.n = x)) (s.es) 0))) := by
  refine CR.plain (rs := [.tmp 4]) Tryz.func20 rfl rfl rfl rfl rfl (by simp [PV.cleans, PV.clean, Sc.cl]) rfl ?_ h fr
  simp -implicitDefEqProofs only [wpC_seq, rowsA, if_true, if_false, opnd, ofVal, ofVal1, layArgs, Nat.reduceAdd, reduceIte, Nat.reduceEqDiff, reduceCtorEq, rowsB, cellsG, Nat.reduceMul, Sc.pv]
  refine wpC_loop (invRefEn s (fun o => decide (o.n = x)) x) (k := (s.es).length) ⟨0, by omega, ?_, ?_, ?_, ?_, rfl⟩ ?_
  · simp only [Fr.at_set, Nat.reduceEqDiff, reduceIte, reduceCtorEq]
  · simp only [Fr.at_set, Nat.reduceEqDiff, reduceIte, reduceCtorEq]
  · simp only [Fr.at_set, Nat.reduceEqDiff, reduceIte, reduceCtorEq]; rfl
  · simp only [AH.get_set, AH.get_up, if_true]; rfl
  rintro k F h' ⟨i, hi, f1, f2, f5, g0, hx⟩
  cases k with
  | zero =>
    have c1 : decide ((i : Int) < ((s.es).length : Int)) = false := decide_eq_false (by omega)
    rw [idx_end _ _ i (by omega)] at hx
    simp -implicitDefEqProofs only [wpC_seq, rowsA, if_true, if_false, opnd, ofVal, ofVal1, layArgs, Nat.reduceAdd, reduceIte, Nat.reduceEqDiff, reduceCtorEq, rowsB, cellsG, Nat.reduceMul, f1, f2, f5, g0, Sc.pv, rowV, fda_ptr o25_1, loadO_one ag23 sz23, len_ro u23, c1, ← hx]
  | succ k =>
    have c1 : decide ((i : Int) < ((s.es).length : Int)) = true := decide_eq_true (by omega)
    obtain ⟨o, ho⟩ : ∃ o, (s.es)[i]? = some o := ⟨(s.es)[i], List.getElem?_eq_getElem (by omega)⟩
    obtain ⟨r, hr⟩ := flat_drop (f := En.pv) (z := 2) (fun _ => rfl) (s.es) i o ho
    rw [idx_drop _ _ i o ho] at hx
    have w := IntWalk.i64_in ((i : Int) + 1) (by omega)
    by_cases hpo : o.n = x
    · rw [if_pos (by simpa using hpo)] at hx
      simp -implicitDefEqProofs only [wpC_seq, rowsA, if_true, if_false, opnd, ofVal, ofVal1, layArgs, Nat.reduceAdd, reduceIte, Nat.reduceEqDiff, reduceCtorEq, rowsB, cellsG, Nat.reduceMul, f1, f2, f5, g0, Sc.pv, rowV, fda_ptr o25_1, loadO_one ag23 sz23, len_ro u23, c1, ida_roN (n := (s.es).length) (i := (i : Int)) u23 sz45 (by omega) (by omega), Int.toNat_natCast, hr, fda_rop o45_0, En.pv, loadO_one ag9 sz9, hpo, ← hx]
    · rw [if_neg (by simpa using hpo)] at hx
      simp -implicitDefEqProofs only [wpC_seq, rowsA, if_true, if_false, opnd, ofVal, ofVal1, layArgs, Nat.reduceAdd, reduceIte, Nat.reduceEqDiff, reduceCtorEq, rowsB, cellsG, Nat.reduceMul, f1, f2, f5, g0, Sc.pv, rowV, fda_ptr o25_1, loadO_one ag23 sz23, len_ro u23, c1, ida_roN (n := (s.es).length) (i := (i : Int)) u23 sz45 (by omega) (by omega), Int.toNat_natCast, hr, fda_rop o45_0, En.pv, loadO_one ag9 sz9, hpo, w]
      refine ⟨k, by omega, i + 1, by omega, ?_, ?_, ?_, ?_, hx⟩
      · simp only [Fr.at_set, Nat.reduceEqDiff, reduceIte, reduceCtorEq, f1]
      · simp only [Fr.at_set, Nat.reduceEqDiff, reduceIte, reduceCtorEq, f2]
      · simp only [Fr.at_set, Nat.reduceEqDiff, reduceIte, reduceCtorEq]; rfl
      · simp only [AH.get_up, g0]
def invRefFld (s : Ob) (p : Fld → Bool) (x : List UInt8) (k : Nat) (F : Fr) (h : AH) : Prop := ∃ i : Nat, i + k = (s.fs).length ∧ F.at 1 = .str x ∧ F.at 2 = .ptr 0 2 0 ∧ F.at 5 = .int .i64 i ∧ h.get 0 = some (.cells 41 0 false s.pv) ∧ idx p ((s.fs).drop i) i = idx p (s.fs) 0
theorem refField_c (s : Ob) (hs : (s.fs).length ≤ 9223372036854775807) (x : List UInt8) (h : AH) (fr : Nat) : CR Tryz.prog (globM mx) md (.fn 59) [.agg s.pv, .str x] h fr (.val (.int .i64 (idx (fun o => decide (o.n = x)) (s.fs) 0))) := by
  refine CR.plain (rs := [.tmp 4]) Tryz.func59 rfl rfl rfl rfl rfl (by simp [PV.cleans, PV.clean, Ob.cl]) rfl ?_ h fr
  simp -implicitDefEqProofs only [wpC_seq, rowsA, if_true, if_false, opnd, ofVal, ofVal1, layArgs, Nat.reduceAdd, reduceIte, Nat.reduceEqDiff, reduceCtorEq, rowsB, cellsG, Nat.reduceMul, Ob.pv]
  refine wpC_loop (invRefFld s (fun o => decide (o.n = x)) x) (k := (s.fs).length) ⟨0, by omega, ?_, ?_, ?_, ?_, rfl⟩ ?_
  · simp only [Fr.at_set, Nat.reduceEqDiff, reduceIte, reduceCtorEq]
  · simp only [Fr.at_set, Nat.reduceEqDiff, reduceIte, reduceCtorEq]
  · simp only [Fr.at_set, Nat.reduceEqDiff, reduceIte, reduceCtorEq]; rfl
  · simp only [AH.get_set, AH.get_up, if_true]; rfl
  rintro k F h' ⟨i, hi, f1, f2, f5, g0, hx⟩
  cases k with
  | zero =>
    have c1 : decide ((i : Int) < ((s.fs).length : Int)) = false := decide_eq_false (by omega)
    rw [idx_end _ _ i (by omega)] at hx
    simp -implicitDefEqProofs only [wpC_seq, rowsA, if_true, if_false, opnd, ofVal, ofVal1, layArgs, Nat.reduceAdd, reduceIte, Nat.reduceEqDiff, reduceCtorEq, rowsB, cellsG, Nat.reduceMul, f1, f2, f5, g0, Ob.pv, rowV, fda_ptr o41_1, loadO_one ag39 sz39, len_ro u39, c1, ← hx]
  | succ k =>
    have c1 : decide ((i : Int) < ((s.fs).length : Int)) = true := decide_eq_true (by omega)
    obtain ⟨o, ho⟩ : ∃ o, (s.fs)[i]? = some o := ⟨(s.fs)[i], List.getElem?_eq_getElem (by omega)⟩
    obtain ⟨r, hr⟩ := flat_drop (f := Fld.pv) (z := 5) (fun _ => rfl) (s.fs) i o ho
    rw [idx_drop _ _ i o ho] at hx
    have w := IntWalk.i64_in ((i : Int) + 1) (by omega)
    by_cases hpo : o.n = x
    · rw [if_pos (by simpa using hpo)] at hx
      simp -implicitDefEqProofs only [wpC_seq, rowsA, if_true, if_false, opnd, ofVal, ofVal1, layArgs, Nat.reduceAdd, reduceIte, Nat.reduceEqDiff, reduceCtorEq, rowsB, cellsG, Nat.reduceMul, f1, f2, f5, g0, Ob.pv, rowV, fda_ptr o41_1, loadO_one ag39 sz39, len_ro u39, c1, ida_roN (n := (s.fs).length) (i := (i : Int)) u39 sz33 (by omega) (by omega), Int.toNat_natCast, hr, fda_rop o33_0, Fld.pv, loadO_one ag9 sz9, hpo, ← hx]
    · rw [if_neg (by simpa using hpo)] at hx
      simp -implicitDefEqProofs only [wpC_seq, rowsA, if_true, if_false, opnd, ofVal, ofVal1, layArgs, Nat.reduceAdd, reduceIte, Nat.reduceEqDiff, reduceCtorEq, rowsB, cellsG, Nat.reduceMul, f1, f2, f5, g0, Ob.pv, rowV, fda_ptr o41_1, loadO_one ag39 sz39, len_ro u39, c1, ida_roN (n := (s.fs).length) (i := (i : Int)) u39 sz33 (by omega) (by omega), Int.toNat_natCast, hr, fda_rop o33_0, Fld.pv, loadO_one ag9 sz9, hpo, w]
      refine ⟨k, by omega, i + 1, by omega, ?_, ?_, ?_, ?_, hx⟩
      · simp only [Fr.at_set, Nat.reduceEqDiff, reduceIte, reduceCtorEq, f1]
      · simp only [Fr.at_set, Nat.reduceEqDiff, reduceIte, reduceCtorEq, f2]
      · simp only [Fr.at_set, Nat.reduceEqDiff, reduceIte, reduceCtorEq]; rfl
      · simp only [AH.get_up, g0]
end Go.Proofs.YtcbngkmmmfaaoaaGreatDoor
namespace Go.Proofs.YtcbngkmmmfaaoaaGreatDoor
open Go.RowKit Go.Lib Go.Ac
set_option linter.unusedSimpArgs false
set_option maxRecDepth 100000
variable {mx : Int}

theorem u5 : Tryz.prog.underlying 5 = some (.int .u8) := by kernel_rfl
theorem u21 : Tryz.prog.underlying 21 = some (.int .i32) := by kernel_rfl
theorem sz5 : tySz Tryz.prog 5 = some 1 := by kernel_rfl
theorem sz27 : tySz Tryz.prog 27 = some 1 := by kernel_rfl
theorem ag5 : tyAgg Tryz.prog 5 = some false := by kernel_rfl
theorem ag27 : tyAgg Tryz.prog 27 = some false := by kernel_rfl
theorem o152_0 : offOf Tryz.prog 152 0 = some 0 := by kernel_rfl
theorem o152_1 : offOf Tryz.prog 152 1 = some 1 := by kernel_rfl
theorem o152_2 : offOf Tryz.prog 152 2 = some 2 := by kernel_rfl
theorem o152_3 : offOf Tryz.prog 152 3 = some 3 := by kernel_rfl

theorem nilO_ptr (h : AH) (id tot off : Nat) : nilO h (.ptr id tot off) = if liveG tot (h.get id) then some (.q (.ptr id tot off)) else none := rfl
def Eqv (h h0 : AH) : Prop := (∀ j, h.get j = h0.get j) ∧ h0.next ≤ h.next
theorem Eqv.refl (h : AH) : Eqv h h := ⟨fun _ => rfl, Nat.le_refl _⟩
theorem Eqv.trans {a b c : AH} (x : Eqv a b) (y : Eqv b c) : Eqv a c := ⟨fun j => (x.1 j).trans (y.1 j), Nat.le_trans y.2 x.2⟩
theorem Eqv.up {a b : AH} (n : Nat) (x : Eqv a b) : Eqv (a.up n) b := ⟨fun j => by rw [AH.get_up]; exact x.1 j, by rw [AH.next_up]; exact Nat.le_trans x.2 (Nat.le_add_right _ _)⟩
theorem Eqv.ofUp {a b : AH} {n : Nat} (x : Eqv a (b.up n)) : Eqv a b := ⟨fun j => by rw [x.1 j, AH.get_up], Nat.le_trans (by rw [AH.next_up]; exact Nat.le_add_right _ _) x.2⟩
theorem Eqv.set {a b : AH} (id : Nat) (o : AO) (x : Eqv a b) : Eqv (a.set id o) (b.set id o) := ⟨fun j => by rw [AH.get_set, AH.get_set, x.1 j], x.2⟩
def rd (s : List UInt8) (a f n : Int) : AO := .cells 152 0 false [.str s, .int .i64 a, .int .i64 f, .int .i64 n]
theorem rd_eq (s : List UInt8) (a f n : Int) : rd s a f n = .cells 152 0 false [.str s, .int .i64 a, .int .i64 f, .int .i64 n] := rfl
theorem rd_ss (h : AH) (R : Nat) (o o' : AO) (j : Nat) : ((h.set R o).set R o').get j = (h.set R o').get j := by
  rw [AH.get_set, AH.get_set, AH.get_set]
  split <;> rfl
theorem Eqv.ss {h h' : AH} {R : Nat} {o o' : AO} (x : Eqv h' ((h.set R o).set R o')) : Eqv h' (h.set R o') := ⟨fun j => by rw [x.1 j, rd_ss], x.2⟩
theorem Eqv.same {h : AH} {R : Nat} {o : AO} (g : h.get R = some o) : Eqv h (h.set R o) := ⟨fun j => by
  rw [AH.get_set]
  split
  · rename_i e; rw [e]; exact g
  · rfl, Nat.le_refl _⟩
def byteAt (s : List UInt8) (a : Int) : Int := ((s.getD a.toNat 0).toNat : Int)
theorem byteAt_range (s : List UInt8) (a : Int) : 0 ≤ byteAt s a ∧ byteAt s a < 256 := by
  unfold byteAt
  have := (s.getD a.toNat 0).toNat_lt
  omega
theorem ixs {s : List UInt8} {a : Int} (h0 : 0 ≤ a) (h1 : a < s.length) : idxO Tryz.prog 9 (.str s) (.int .i64 a) = some (.q (.int .u8 (byteAt s a))) := idxO_str u9 h0 h1
def wrongV (f e : Int) : PV := .iface 148 (.agg [.int .i64 f, .int .i64 e])
theorem bl148 (f e : Int) : bldO Tryz.prog 148 [(0, .int .i64 f), (1, .int .i64 e)] = some (.q (.agg [.int .i64 f, .int .i64 e])) := by kernel_rfl

theorem mki148 (x : PV) : mkiO Tryz.prog 148 x = some (.q (.iface 148 x)) := by kernel_rfl
theorem lt14 : ((1 : Nat) < 4) = True := by simp
theorem lt24 : ((2 : Nat) < 4) = True := by simp
theorem lt34 : ((3 : Nat) < 4) = True := by simp
theorem stR1 (id : Nat) (s f n a : PV) (x : Int) : stoG id 4 1 (.int .i64 x) 1 (some (.cells 152 0 false [s, a, f, n])) = some (.w .undef id (.cells 152 0 false [s, .int .i64 x, f, n])) := rfl
theorem stR2 (id : Nat) (s f n a : PV) (x : Int) : stoG id 4 2 (.int .i64 x) 1 (some (.cells 152 0 false [s, a, f, n])) = some (.w .undef id (.cells 152 0 false [s, a, .int .i64 x, n])) := rfl
theorem stR3 (id : Nat) (s f n a : PV) (x : Int) : stoG id 4 3 (.int .i64 x) 1 (some (.cells 152 0 false [s, a, f, n])) = some (.w .undef id (.cells 152 0 false [s, a, f, .int .i64 x])) := rfl

theorem idxb2_c (l : List UInt8) (c : Int) (h0 : 0 ≤ c) (h1 : c < 256) (h : AH) (fr : Nat) : CR Tryz.prog (globM mx) md (.fn 193) [.str l, .int .u8 c] h fr (.val (.int .i64 (idxL c l 0))) := CR.lib (F := idxF) rfl (by simp only [idxF]; rw [if_pos ⟨h0, h1⟩])
theorem idxb1_c (l : List UInt8) (c : Int) (h0 : 0 ≤ c) (h1 : c < 256) (h : AH) (fr : Nat) : CR Tryz.prog (globM mx) md (.fn 185) [.str l, .int .u8 c] h fr (.val (.int .i64 (idxL c l 0))) := by
  refine CR.plain (rs := [.tmp 4]) Tryz.func185 rfl rfl rfl rfl rfl rfl rfl ?_ h fr
  simp -implicitDefEqProofs only [wpC_seq, rowsA, if_true, if_false, opnd, ofVal, ofVal1, layArgs, Nat.reduceAdd, reduceIte, Nat.reduceEqDiff, reduceCtorEq, rowsB, cellsG, Nat.reduceMul, goO_known (idxb2_c l c h0 h1)]
theorem idxb_c (l : List UInt8) (c : Int) (h0 : 0 ≤ c) (h1 : c < 256) (h : AH) (fr : Nat) : CR Tryz.prog (globM mx) md (.fn 173) [.str l, .int .u8 c] h fr (.val (.int .i64 (idxL c l 0))) := by
  refine CR.plain (rs := [.tmp 4]) Tryz.func173 rfl rfl rfl rfl rfl rfl rfl ?_ h fr
  simp -implicitDefEqProofs only [wpC_seq, rowsA, if_true, if_false, opnd, ofVal, ofVal1, layArgs, Nat.reduceAdd, reduceIte, Nat.reduceEqDiff, reduceCtorEq, rowsB, cellsG, Nat.reduceMul, goO_known (idxb1_c l c h0 h1)]
theorem idxB_c (l s : List UInt8) (a : Int) (h : AH) (fr : Nat) : CR Tryz.prog (globM mx) md (.fn 173) [.str l, .int .u8 (byteAt s a)] h fr (.val (.int .i64 (idxL (byteAt s a) l 0))) := idxb_c l _ (byteAt_range s a).1 (byteAt_range s a).2 h fr

def hasP (s p : List UInt8) : Bool := decide (p.length ≤ s.length) && decide (s.take p.length = p)
theorem hasP1_c (s p : List UInt8) (h : AH) (fr : Nat) : CR Tryz.prog (globM mx) md (.fn 124) [.str s, .str p] h fr (.val (.bool (hasP s p))) := by
  refine CR.plain (rs := [.tmp 4]) Tryz.func124 rfl rfl rfl rfl rfl rfl rfl ?_ h fr
  by_cases c1 : (p.length : Int) ≤ (s.length : Int)
  · have c2 : p.length ≤ s.length := by omega
    simp -implicitDefEqProofs only [wpC_seq, rowsA, if_true, if_false, opnd, ofVal, ofVal1, layArgs, Nat.reduceAdd, reduceIte, Nat.reduceEqDiff, reduceCtorEq, rowsB, cellsG, Nat.reduceMul, len_str u9, c1, slice_to (h := AH.empty) (k := .i64) (l := s) (i := (p.length : Int)) u9 (by omega) (by omega)]
    rw [slice_to u9 (by omega) (by omega)]
    simp -implicitDefEqProofs only [wpC_seq, rowsA, if_true, if_false, opnd, ofVal, ofVal1, layArgs, Nat.reduceAdd, reduceIte, Nat.reduceEqDiff, reduceCtorEq, rowsB, cellsG, Nat.reduceMul, Int.toNat_natCast, hasP, c2, Bool.true_and]
  · have c2 : ¬ (p.length ≤ s.length) := by omega
    simp -implicitDefEqProofs only [wpC_seq, rowsA, if_true, if_false, opnd, ofVal, ofVal1, layArgs, Nat.reduceAdd, reduceIte, Nat.reduceEqDiff, reduceCtorEq, rowsB, cellsG, Nat.reduceMul, len_str u9, c1, hasP, c2, Bool.false_and]
theorem hasP_c (s p : List UInt8) (h : AH) (fr : Nat) : CR Tryz.prog (globM mx) md (.fn 115) [.str s, .str p] h fr (.val (.bool (hasP s p))) := by
  refine CR.plain (rs := [.tmp 4]) Tryz.func115 rfl rfl rfl rfl rfl rfl rfl ?_ h fr
  simp -implicitDefEqProofs only [wpC_seq, rowsA, if_true, if_false, opnd, ofVal, ofVal1, layArgs, Nat.reduceAdd, reduceIte, Nat.reduceEqDiff, reduceCtorEq, rowsB, cellsG, Nat.reduceMul, goO_known (hasP1_c s p)]

section
variable {R : Nat} {s : List UInt8} {a f n : Int} {h : AH}
theorem rowsR :
  (((1 : Nat) < 4) = True) ∧
  (((2 : Nat) < 4) = True) ∧
  (((3 : Nat) < 4) = True) ∧
  (∀ (id : Nat) (s f n a : PV) (x : Int), stoG id 4 1 (PV.int IntKind.i64 x) 1 (some (AO.cells 152 0 false [s, a, f, n])) = some (OR.w PV.undef id (AO.cells 152 0 false [s, PV.int IntKind.i64 x, f, n]))) ∧
  (∀ (id : Nat) (s f n a : PV) (x : Int), stoG id 4 2 (PV.int IntKind.i64 x) 1 (some (AO.cells 152 0 false [s, a, f, n])) = some (OR.w PV.undef id (AO.cells 152 0 false [s, a, PV.int IntKind.i64 x, n]))) ∧
  (∀ (id : Nat) (s f n a : PV) (x : Int), stoG id 4 3 (PV.int IntKind.i64 x) 1 (some (AO.cells 152 0 false [s, a, f, n])) = some (OR.w PV.undef id (AO.cells 152 0 false [s, a, f, PV.int IntKind.i64 x]))) ∧
  (∀ (x_0 : Program) (x_1 : Operand → PV) (x_2 : AH) (x_3 : Nat) (x_4 : Option Tmp) (x_5 : TypeId) (x_6 : String) (x_7 : Array Edge) (x_8 : Option (Nat × Bool)) (t : TypeId) (x : Operand), aop x_0 x_1 x_2 x_3 { dst := x_4, op := Op.makeInterface t x, type := x_5, pos := x_6, after := x_7, guard := x_8 } = mkiO x_0 t (x_1 x)) ∧
  (∀ (x : PV), mkiO Tryz.prog 148 x = some (OR.q (PV.iface 148 x))) ∧
  (∀ (x_0 : Program) (x_1 : Operand → PV) (x_2 : AH) (x_3 : Nat) (x_4 : Option Tmp) (x_5 : TypeId) (x_6 : String) (x_7 : Array Edge) (x_8 : Option (Nat × Bool)) (x : Operand), aop x_0 x_1 x_2 x_3 { dst := x_4, op := Op.panic x, type := x_5, pos := x_6, after := x_7, guard := x_8 } = panO (x_1 x)) ∧
  (∀ (t : TypeId) (v : PV), panO (PV.iface t v) = some (OR.pan (PV.iface t v))) ∧
  (∀ (x_0 : Program) (x_1 : Glob) (x_2 : FuncId → Md) (x_3 : Bool) (ops : Array Oper) (base i : Nat) (rest : List Oper) (d : Option Tmp) (f : Fr) (h : AH) (Q : OX → Prop) (v : PV), goO x_0 x_1 x_2 x_3 ops base i rest d f h Q (some (OR.pan v)) = Q (OX.panic v f h)) ∧
  (∀ (x_0 : AH) (a b : Nat), AH.up (AH.up x_0 a) b = AH.up x_0 (a + b)) ∧
  (∀ (x_0 : AH) (id n : Nat) (o : AO), AH.up (AH.set x_0 id o) n = AH.set (AH.up x_0 n) id o) ∧
  (∀ (h : AH) (id tot off : Nat), nilO h (PV.ptr id tot off) = if liveG tot (AH.get h id) = true then some (OR.q (PV.ptr id tot off)) else none) ∧
  (∀ (x_0 : AH) (x_1 x_2 x_3 : Nat), fdaO Tryz.prog x_0 152 (PV.ptr x_1 x_2 x_3) 0 = if liveG x_2 (AH.get x_0 x_1) = true then some (OR.q (PV.ptr x_1 x_2 (x_3 + 0))) else none) ∧
  (∀ (x_0 : AH) (x_1 x_2 x_3 : Nat), fdaO Tryz.prog x_0 152 (PV.ptr x_1 x_2 x_3) 1 = if liveG x_2 (AH.get x_0 x_1) = true then some (OR.q (PV.ptr x_1 x_2 (x_3 + 1))) else none) ∧
  (∀ (x_0 : AH) (x_1 x_2 x_3 : Nat), fdaO Tryz.prog x_0 152 (PV.ptr x_1 x_2 x_3) 2 = if liveG x_2 (AH.get x_0 x_1) = true then some (OR.q (PV.ptr x_1 x_2 (x_3 + 2))) else none) ∧
  (∀ (x_0 : AH) (x_1 x_2 x_3 : Nat), fdaO Tryz.prog x_0 152 (PV.ptr x_1 x_2 x_3) 3 = if liveG x_2 (AH.get x_0 x_1) = true then some (OR.q (PV.ptr x_1 x_2 (x_3 + 3))) else none) ∧
  (∀ (x_0 : PV) (x_1 : List PV), loadO Tryz.prog 3 (some (x_0 :: x_1)) = some (OR.q x_0)) ∧
  (∀ (x_0 : PV) (x_1 : List PV), loadO Tryz.prog 9 (some (x_0 :: x_1)) = some (OR.q x_0)) ∧
  (∀ (x_0 : PV) (x_1 : List PV), loadO Tryz.prog 5 (some (x_0 :: x_1)) = some (OR.q x_0)) ∧
  (∀ (x_0 : List UInt8), lenO Tryz.prog [PV.str x_0] [9] = some (OR.q (PV.int IntKind.i64 ↑(List.length x_0)))) ∧
  (tySz Tryz.prog 3 = some 1) ∧
  (∀ (x_0 : Program) (rs : List ResultVar) (Q : Bool → PV → AH → Prop) (f : Fr) (h : AH), EndX x_0 rs Q EX.normal f h = EndS.RS (Q false) h (resA x_0 f h rs)) ∧
  (∀ (x_0 : Program) (rs : List ResultVar) (Q : Bool → PV → AH → Prop) (f : Fr) (h : AH), EndX x_0 rs Q EX.ret f h = EndS.RS (Q false) h (resA x_0 f h rs)) ∧
  (∀ (x_0 : Program) (rs : List ResultVar) (Q : Bool → PV → AH → Prop) (v : PV) (f : Fr) (h : AH), EndX x_0 rs Q (EX.panic v) f h = Q true v h) ∧
  (∀ (x_0 : Program) (x_1 : Glob) (x_2 : FuncId → Md) (x_3 : Option Nat) (b : Code) (Q : EX → Fr → AH → Prop) (v : PV) (f : Fr) (h : AH), KS x_0 x_1 x_2 x_3 b Q (EX.panic v) f h = Q (EX.panic v) f h) ∧
  (∀ (id : Nat) (Q : EX → Fr → AH → Prop) (v : PV) (f : Fr) (h : AH), KB id Q (EX.panic v) f h = Q (EX.panic v) f h) ∧
  (∀ (I : Nat → Fr → AH → Prop) (k : Nat) (Q : EX → Fr → AH → Prop) (v : PV) (f : Fr) (h : AH), KI I k Q (EX.panic v) f h = Q (EX.panic v) f h) ∧
  (∀ (Q : EX → Fr → AH → Prop) (v : PV) (f : Fr) (h : AH), outX Q (OX.panic v f h) = Q (EX.panic v) f h) ∧
  (∀ (I : Fr → AH → Prop) (Q : EX → Fr → AH → Prop) (f : Fr) (h : AH), KE I Q EX.normal f h = I f h) ∧
  (∀ (I : Fr → AH → Prop) (Q : EX → Fr → AH → Prop) (f : Fr) (h : AH), KE I Q EX.ret f h = Q EX.ret f h) ∧
  (∀ (I : Fr → AH → Prop) (Q : EX → Fr → AH → Prop) (i : Nat) (f : Fr) (h : AH), KE I Q (EX.exit i) f h = Q (EX.exit i) f h) ∧
  (∀ (I : Fr → AH → Prop) (Q : EX → Fr → AH → Prop) (v : PV) (f : Fr) (h : AH), KE I Q (EX.panic v) f h = Q (EX.panic v) f h) :=
  ⟨@lt14, @lt24, @lt34, @stR1, @stR2, @stR3, @aop_mki, @mki148, @aop_panic, @panO_if, @goO_pan, @up_up, @up_set, @nilO_ptr, fun _ _ _ _ => fda_ptr o152_0, fun _ _ _ _ => fda_ptr o152_1, fun _ _ _ _ => fda_ptr o152_2, fun _ _ _ _ => fda_ptr o152_3, fun _ _ => loadO_one ag3 sz3, fun _ _ => loadO_one ag9 sz9, fun _ _ => loadO_one ag5 sz5, fun _ => len_str u9, @sz3, @EndX_normal, @EndX_ret, @EndX_panic, @KS_panic, @KB_panic, @KI_panic, @outX_panic, @KE_normal, @KE_ret, @KE_exit, @KE_panic⟩
theorem must_sc (c : Bool) (e : Int) (g : h.get R = some (rd s a f n)) : SC Tryz.prog (globM mx) md (.fn 176) [.ptr R 4 0, .bool c, .int .i64 e] h fun b v h' => Eqv h' h ∧ b = !c ∧ (b = false → v = .tup []) ∧ (b = true → v = wrongV f e) := by
  rw [rd_eq] at g
  refine SC.body (rs := []) Tryz.func176 rfl rfl rfl rfl rfl ?_
  cases c with
  | true =>
    simp -implicitDefEqProofs only [wpC_seq, rowsA, if_true, if_false, opnd, ofVal, ofVal1, layArgs, Nat.reduceAdd, reduceIte, Nat.reduceEqDiff, reduceCtorEq, rowsB, cellsG, Nat.reduceMul, EndX_normal, EndX_ret]
    refine ⟨(Eqv.refl h).up 2, ?_⟩
    simp
  | false =>
    simp -implicitDefEqProofs only [wpC_seq, rowsA, if_true, if_false, opnd, ofVal, ofVal1, layArgs, Nat.reduceAdd, reduceIte, Nat.reduceEqDiff, reduceCtorEq, rowsB, cellsG, Nat.reduceMul, nilO_ptr, g, rowsR, bl148]
    refine ⟨(Eqv.refl h).up _, ?_⟩
    simp [wrongV]
theorem peek_c (k : Int) (g : h.get R = some (rd s a f n)) (ha : 0 ≤ a) (hk : 0 ≤ k) (hb : a + k ≤ 9223372036854775807) : ∃ h', (∀ fr, CR Tryz.prog (globM mx) md (.fn 188) [.ptr R 4 0, .int .i64 k] h fr (.sh (.int .u8 (if a + k < s.length then byteAt s (a + k) else 0)) h')) ∧ Eqv h' h := by
  rw [rd_eq] at g
  have w := IntWalk.i64_in (a + k) (by omega)
  obtain ⟨v, h', q1, rfl, q3⟩ := CR.sh (P := Tryz.prog) (G := globM mx) (md := md) (k := 188) (args := [.ptr R 4 0, .int .i64 k]) (h := h) (Q := fun v h' => v = .int .u8 (if a + k < s.length then byteAt s (a + k) else 0) ∧ Eqv h' h) (rs := [.tmp 4]) Tryz.func188 rfl rfl rfl rfl rfl (by
    by_cases c1 : a + k < (s.length : Int)
    · simp -implicitDefEqProofs only [wpC_seq, rowsA, if_true, if_false, opnd, ofVal, ofVal1, layArgs, Nat.reduceAdd, reduceIte, Nat.reduceEqDiff, reduceCtorEq, rowsB, cellsG, Nat.reduceMul, EndS_normal, EndS_ret, RS_some, up_up, nilO_ptr, g, fda_ptr o152_0, fda_ptr o152_1, loadO_one ag3 sz3, loadO_one ag9 sz9, len_str u9, w, c1, ixs (show 0 ≤ a + k by omega) c1]
      exact (Eqv.refl h).up _
    · simp -implicitDefEqProofs only [wpC_seq, rowsA, if_true, if_false, opnd, ofVal, ofVal1, layArgs, Nat.reduceAdd, reduceIte, Nat.reduceEqDiff, reduceCtorEq, rowsB, cellsG, Nat.reduceMul, EndS_normal, EndS_ret, RS_some, up_up, nilO_ptr, g, fda_ptr o152_0, fda_ptr o152_1, loadO_one ag3 sz3, loadO_one ag9 sz9, len_str u9, w, c1]
      exact (Eqv.refl h).up _)
  exact ⟨h', q1, q3⟩
theorem has_c (p : List UInt8) (g : h.get R = some (rd s a f n)) (ha : 0 ≤ a) (hb : a ≤ s.length) : ∃ h', (∀ fr, CR Tryz.prog (globM mx) md (.fn 174) [.ptr R 4 0, .str p] h fr (.sh (.bool (hasP (s.drop a.toNat) p)) h')) ∧ Eqv h' h := by
  rw [rd_eq] at g
  obtain ⟨v, h', q1, rfl, q3⟩ := CR.sh (P := Tryz.prog) (G := globM mx) (md := md) (k := 174) (args := [.ptr R 4 0, .str p]) (h := h) (Q := fun v h' => v = .bool (hasP (s.drop a.toNat) p) ∧ Eqv h' h) (rs := [.tmp 4]) Tryz.func174 rfl rfl rfl rfl rfl (by
    simp -implicitDefEqProofs only [wpC_seq, rowsA, if_true, if_false, opnd, ofVal, ofVal1, layArgs, Nat.reduceAdd, reduceIte, Nat.reduceEqDiff, reduceCtorEq, rowsB, cellsG, Nat.reduceMul, EndS_normal, EndS_ret, RS_some, up_up, nilO_ptr, g, fda_ptr o152_0, fda_ptr o152_1, loadO_one ag3 sz3, loadO_one ag9 sz9, slice_from u9 ha hb, goD_known (hasP_c _ _)]
    exact (Eqv.refl h).up _)
  exact ⟨h', q1, q3⟩
theorem skip_c (c : Int) (g : h.get R = some (rd s a f n)) (ha : 0 ≤ a) (hb : a ≤ s.length) (hl : s.length ≤ 16384) :
    ∃ b h', (∀ fr, CR Tryz.prog (globM mx) md (.fn 187) [.ptr R 4 0, .int .u8 c] h fr (.sh (.bool b) h')) ∧ Eqv h' (h.set R (rd s (if b then a + 1 else a) f n)) ∧ (b = true → a < s.length) := by
  have gr := g
  rw [rd_eq] at g
  have w := IntWalk.i64_in (a + 1) (by omega)
  by_cases c1 : a < (s.length : Int)
  · by_cases c2 : byteAt s a = c
    · obtain ⟨v, h', q1, rfl, q3⟩ := CR.sh (P := Tryz.prog) (G := globM mx) (md := md) (k := 187) (args := [.ptr R 4 0, .int .u8 c]) (h := h) (Q := fun v h' => v = .bool true ∧ Eqv h' (h.set R (rd s (a + 1) f n))) (rs := [.tmp 4]) Tryz.func187 rfl rfl rfl rfl rfl (by
        simp -implicitDefEqProofs only [wpC_seq, rowsA, if_true, if_false, opnd, ofVal, ofVal1, layArgs, Nat.reduceAdd, reduceIte, Nat.reduceEqDiff, reduceCtorEq, rowsB, cellsG, Nat.reduceMul, EndS_normal, EndS_ret, RS_some, up_up, up_set, nilO_ptr, g, fda_ptr o152_0, fda_ptr o152_1, loadO_one ag3 sz3, loadO_one ag9 sz9, len_str u9, w, c1, c2, ixs ha c1, sz3, stR1, lt14]
        exact ((Eqv.refl h).up _).set _ _)
      exact ⟨true, h', q1, q3, fun _ => c1⟩
    · obtain ⟨v, h', q1, rfl, q3⟩ := CR.sh (P := Tryz.prog) (G := globM mx) (md := md) (k := 187) (args := [.ptr R 4 0, .int .u8 c]) (h := h) (Q := fun v h' => v = .bool false ∧ Eqv h' h) (rs := [.tmp 4]) Tryz.func187 rfl rfl rfl rfl rfl (by
        simp -implicitDefEqProofs only [wpC_seq, rowsA, if_true, if_false, opnd, ofVal, ofVal1, layArgs, Nat.reduceAdd, reduceIte, Nat.reduceEqDiff, reduceCtorEq, rowsB, cellsG, Nat.reduceMul, EndS_normal, EndS_ret, RS_some, up_up, nilO_ptr, g, fda_ptr o152_0, fda_ptr o152_1, loadO_one ag3 sz3, loadO_one ag9 sz9, len_str u9, w, c1, c2, ixs ha c1]
        exact (Eqv.refl h).up _)
      exact ⟨false, h', q1, q3.trans (Eqv.same gr), fun e => by cases e⟩
  · obtain ⟨v, h', q1, rfl, q3⟩ := CR.sh (P := Tryz.prog) (G := globM mx) (md := md) (k := 187) (args := [.ptr R 4 0, .int .u8 c]) (h := h) (Q := fun v h' => v = .bool false ∧ Eqv h' h) (rs := [.tmp 4]) Tryz.func187 rfl rfl rfl rfl rfl (by
      simp -implicitDefEqProofs only [wpC_seq, rowsA, if_true, if_false, opnd, ofVal, ofVal1, layArgs, Nat.reduceAdd, reduceIte, Nat.reduceEqDiff, reduceCtorEq, rowsB, cellsG, Nat.reduceMul, EndS_normal, EndS_ret, RS_some, up_up, nilO_ptr, g, fda_ptr o152_0, fda_ptr o152_1, loadO_one ag3 sz3, loadO_one ag9 sz9, len_str u9, w, c1]
      exact (Eqv.refl h).up _)
    exact ⟨false, h', q1, q3.trans (Eqv.same gr), fun e => by cases e⟩

def runLen (set : List UInt8) : List UInt8 → Nat
  | [] => 0
  | b :: l => if 0 ≤ idxL (b.toNat : Int) set 0 then runLen set l + 1 else 0
theorem runLen_le (set : List UInt8) : ∀ l : List UInt8, runLen set l ≤ l.length
  | [] => Nat.le_refl _
  | b :: l => by
    rw [runLen]
    split
    · have := runLen_le set l
      simp only [List.length_cons]
      omega
    · exact Nat.zero_le _
theorem runLen_drop (set s : List UInt8) (a : Nat) (ha : a < s.length) : runLen set (s.drop a) = if 0 ≤ idxL (byteAt s a) set 0 then runLen set (s.drop (a + 1)) + 1 else 0 := by
  rw [List.drop_eq_getElem_cons ha, runLen]
  have : byteAt s a = ((s[a]).toNat : Int) := by simp [byteAt, ha]
  rw [this]
def invRun (R : Nat) (s set : List UInt8) (a : Nat) (f n : Int) (h : AH) (k : Nat) (F : Fr) (h' : AH) : Prop := ∃ i m : Nat, k + i = s.length ∧ i = a + m ∧ i ≤ s.length ∧ m + runLen set (s.drop i) = runLen set (s.drop a) ∧
  F.at 0 = .ptr R 4 0 ∧ F.at 1 = .str set ∧ F.at 5 = .int .i64 m ∧ Eqv h' (h.set R (rd s i f n))
set_option maxHeartbeats 1600000 in
theorem run_c (set : List UInt8) {a : Nat} (g : h.get R = some (rd s a f n)) (hb : a ≤ s.length) (hl : s.length ≤ 16384) :
    ∃ h', (∀ fr, CR Tryz.prog (globM mx) md (.fn 177) [.ptr R 4 0, .str set] h fr (.sh (.int .i64 (runLen set (s.drop a))) h')) ∧ Eqv h' (h.set R (rd s ((a + runLen set (s.drop a) : Nat) : Int) f n)) := by
  obtain ⟨v, h', q1, rfl, q3⟩ := CR.sh (P := Tryz.prog) (G := globM mx) (md := md) (k := 177) (args := [.ptr R 4 0, .str set]) (h := h) (Q := fun v h' => v = .int .i64 (runLen set (s.drop a)) ∧ Eqv h' (h.set R (rd s ((a + runLen set (s.drop a) : Nat) : Int) f n))) (rs := [.tmp 4]) Tryz.func177 rfl rfl rfl rfl rfl (by
    simp -implicitDefEqProofs only [wpC_seq, rowsA, if_true, if_false, opnd, ofVal, ofVal1, layArgs, Nat.reduceAdd, reduceIte, Nat.reduceEqDiff, reduceCtorEq, rowsB, cellsG, Nat.reduceMul, up_up]
    refine wpC_loop (invRun R s set a f n h) (k := s.length - a) ⟨a, 0, by omega, rfl, hb, by omega, ?_, ?_, ?_, ?_⟩ ?_
    · simp only [Fr.at_set, Nat.reduceEqDiff, reduceIte, reduceCtorEq]
    · simp only [Fr.at_set, Nat.reduceEqDiff, reduceIte, reduceCtorEq]
    · simp only [Fr.at_set, Nat.reduceEqDiff, reduceIte, reduceCtorEq]; rfl
    · exact ((Eqv.refl h).up _).trans (Eqv.same g)
    rintro k F h' ⟨i, m, ik, i1, i2, hx, f0, f1, f5, hE⟩
    have g' : h'.get R = some (.cells 152 0 false [.str s, .int .i64 i, .int .i64 f, .int .i64 n]) := by rw [hE.1 R, AH.get_set_same, rd_eq]
    by_cases c1 : i < s.length
    · have c1' : (i : Int) < (s.length : Int) := by omega
      rw [runLen_drop set s i c1] at hx
      by_cases c2 : 0 ≤ idxL (byteAt s i) set 0
      · rw [if_pos c2] at hx
        have w := IntWalk.i64_in ((i : Int) + 1) (by omega)
        have w2 := IntWalk.i64_in ((m : Int) + 1) (by omega)
        simp -implicitDefEqProofs only [wpC_seq, rowsA, if_true, if_false, opnd, ofVal, ofVal1, layArgs, Nat.reduceAdd, reduceIte, Nat.reduceEqDiff, reduceCtorEq, rowsB, cellsG, Nat.reduceMul, up_up, up_set, f0, f1, f5, nilO_ptr, g', fda_ptr o152_0, fda_ptr o152_1, loadO_one ag3 sz3, loadO_one ag9 sz9, len_str u9, c1', ixs (show (0 : Int) ≤ i by omega) c1', goD_known (idxB_c set s i), c2, w, w2, sz3, stR1, lt14]
        refine ⟨k - 1, by omega, i + 1, m + 1, by omega, by omega, by omega, by omega, ?_, ?_, ?_, ?_⟩
        · simp only [Fr.at_set, Nat.reduceEqDiff, reduceIte, reduceCtorEq, f0]
        · simp only [Fr.at_set, Nat.reduceEqDiff, reduceIte, reduceCtorEq, f1]
        · simp only [Fr.at_set, Nat.reduceEqDiff, reduceIte, reduceCtorEq]; rfl
        · exact Eqv.ss ((hE.up _).set _ _)
      · rw [if_neg c2] at hx
        simp -implicitDefEqProofs only [wpC_seq, rowsA, if_true, if_false, opnd, ofVal, ofVal1, layArgs, Nat.reduceAdd, reduceIte, Nat.reduceEqDiff, reduceCtorEq, rowsB, cellsG, Nat.reduceMul, up_up, up_set, f0, f1, f5, nilO_ptr, g', fda_ptr o152_0, fda_ptr o152_1, loadO_one ag3 sz3, loadO_one ag9 sz9, len_str u9, c1', ixs (show (0 : Int) ≤ i by omega) c1', goD_known (idxB_c set s i), c2, EndS_normal, EndS_ret, RS_some]
        refine ⟨by congr 1 <;> omega, ?_⟩
        rw [show ((a + runLen set (s.drop a) : Nat) : Int) = (i : Int) by omega]
        exact hE.up _
    · have c1' : ¬ ((i : Int) < (s.length : Int)) := by omega
      have e : runLen set (s.drop i) = 0 := by rw [List.drop_eq_nil_of_le (by omega)]; rfl
      rw [e] at hx
      simp -implicitDefEqProofs only [wpC_seq, rowsA, if_true, if_false, opnd, ofVal, ofVal1, layArgs, Nat.reduceAdd, reduceIte, Nat.reduceEqDiff, reduceCtorEq, rowsB, cellsG, Nat.reduceMul, up_up, up_set, f0, f1, f5, nilO_ptr, g', fda_ptr o152_0, fda_ptr o152_1, loadO_one ag3 sz3, loadO_one ag9 sz9, len_str u9, c1', EndS_normal, EndS_ret, RS_some]
      refine ⟨by congr 1 <;> omega, ?_⟩
      rw [show ((a + runLen set (s.drop a) : Nat) : Int) = (i : Int) by omega]
      exact hE.up _)
  exact ⟨h', q1, q3⟩
end
end Go.Proofs.YtcbngkmmmfaaoaaGreatDoor
namespace Go.Proofs.YtcbngkmmmfaaoaaGreatDoor
open Go.RowKit Go.Lib Go.Ac
set_option linter.unusedSimpArgs false
set_option maxRecDepth 100000
variable {mx : Int}

theorem accTab_eq : accTab = (List.range 32).map fun j => if j % 2 = 0 then (accLo (j / 2) : Int) else (accHi (j / 2) : Int) := by decide +kernel
theorem firstTab_at (c : Nat) (h : c < 256) : firstTab[c]? = some (firstT c : Int) := by
  simp [firstTab, h]
theorem glob_of_tabs {W : World} {mx : Int} (h : Utf8Tabs 1 2 W) (hm : W.cell? ⟨0, 0, none⟩ = some (.int .i64 mx)) : GlobOk (Gh.start W) (globM mx) := by
  intro k c e
  match k, e with
  | 0, e =>
    obtain rfl := Option.some.inj e
    exact rep_table (zs := [mx]) (by simp) fun i z hz => by
      match i, hz with
      | 0, hz =>
        obtain rfl := Option.some.inj hz
        exact hm
      | i + 1, hz => simp at hz
  | 1, e =>
    obtain rfl := Option.some.inj e
    refine rep_table (by decide) fun i z hz => ?_
    have hi : i < 256 := by
      have := (List.getElem?_eq_some_iff.1 hz).1
      simpa [firstTab] using this
    rw [firstTab_at i hi] at hz
    obtain rfl := Option.some.inj hz
    exact h.1 i hi
  | 2, e =>
    obtain rfl := Option.some.inj e
    refine rep_table (by decide) fun i z hz => ?_
    have hi : i < 32 := (List.getElem?_eq_some_iff.1 hz).1
    rw [accTab_eq, List.getElem?_map, List.getElem?_range hi] at hz
    simp only [Option.map_some, Option.some.injEq] at hz
    subst hz
    by_cases e : i % 2 = 0
    · rw [if_pos e]
      have := (h.2 (i / 2) (by omega)).1
      rwa [show 2 * (i / 2) = i by omega] at this
    · rw [if_neg e]
      have := (h.2 (i / 2) (by omega)).2
      rwa [show 2 * (i / 2) + 1 = i by omega] at this
  | k + 3, e => simp [globM] at e

theorem idxL_eq (c : Int) (h0 : 0 ≤ c) (h1 : c < 256) : ∀ (l : List UInt8) (i : Nat), idxL c l i = if indexByte l c.toNat.toUInt8 = -1 then -1 else indexByte l c.toNat.toUInt8 + i
  | [], i => rfl
  | b :: l, i => by
    have hb : (b == c.toNat.toUInt8) = decide ((b.toNat : Int) = c) := by
      rw [Bool.eq_iff_iff]
      simp only [beq_iff_eq, decide_eq_true_eq]
      have e : c.toNat.toUInt8.toNat = c.toNat := UInt8.toNat_ofNat_of_lt' (by show c.toNat < 256; omega)
      rw [← UInt8.toNat_inj, e]
      omega
    have hge := indexByte_ge l c.toNat.toUInt8
    simp only [idxL, indexByte, hb, idxL_eq c h0 h1 l (i + 1), beq_iff_eq]
    by_cases e : (b.toNat : Int) = c
    · simp [e]
    · simp only [e, decide_false, Bool.false_eq_true, if_false]
      by_cases q : indexByte l c.toNat.toUInt8 = -1
      · simp [q]
      · simp only [q, if_false]
        rw [if_neg (by omega)]
        omega
theorem next_value {P : Program} {s : Sem Next} {w : World} {v : Value} {R : Bool → Value → World → Prop} (hs : s.run P w = .ok (.value v) w) (hr : R false v w) : NextOk P s w R := by
  intro ro a o K Q hK hQ
  rw [hs]
  exact hK v w hr
theorem post_same {g : Gh} {h : AH} {N : Nat} {w0 w : World} {fr : Nat} {v : PV} {u : Value} (hw : WRel g h N w0 w) (hr : Rep g v u) : CResOk g h N w0 fr (.val v) false u w :=
  ⟨rfl, g, Gh.Le.refl g, fun _ q => .inl q, fun _ _ q => .inl q, hw, Nat.le_refl _, hr⟩
theorem idx_ok : LibOk Tryz.prog (globM mx) 193 idxF := by
  refine ⟨fun args h fr r he g N w0 w vs hG hw hal hn hr => ?_, fun args h fr => ⟨fun v he h' fr' => ?_, fun v o he h' => ?_⟩⟩
  · unfold idxF at he
    split at he
    · rename_i l c
      split at he
      · rename_i hc
        obtain rfl := Option.some.inj he
        obtain ⟨vs⟩ := vs
        cases hr with
        | cons _ _ u us h1 h2 =>
          cases h2 with
          | cons _ _ u2 us2 h3 h4 =>
            cases h4
            cases h1 with
            | str _ s hs =>
              cases h3
              refine next_value (v := .int .i64 (indexByte s.data.toList c.toNat.toUInt8)) ?_ (post_same hw ?_)
              · rw [run_callFunc_extern Tryz.func193 (by kernel_rfl) (by kernel_rfl) (by kernel_rfl) (e := Extern.BytealgIndexByte.indexByte) (by kernel_rfl)]
                rw [run_indexByteString]
                rfl
              · rw [idxL_eq c hc.1 hc.2, hs]
                have : (if indexByte l c.toNat.toUInt8 = -1 then -1 else indexByte l c.toNat.toUInt8 + ((0 : Nat) : Int)) = indexByte l c.toNat.toUInt8 := by
                  split
                  · rename_i q; exact q.symm
                  · simp
                rw [this]
                exact .int _ _
      · simp at he
    · simp at he
  · unfold idxF at he ⊢
    split at he
    · split at he
      · rename_i hc
        simp only [hc, and_self, if_true]
        exact he
      · simp at he
    · simp at he
  · unfold idxF at he
    split at he
    · split at he <;> simp at he
    · simp at he
theorem same_ok : LibOk Tryz.prog (globM mx) 203 sameF := by
  refine ⟨fun args h fr r he g N w0 w vs hG hw hal hn hr => ?_, fun args h fr => ⟨fun v he h' fr' => ?_, fun v o he h' => ?_⟩⟩
  · unfold sameF at he
    split at he
    · rename_i x
      obtain rfl := Option.some.inj he
      obtain ⟨vs⟩ := vs
      cases hr with
      | cons _ _ u us h1 h2 =>
        cases h2
        refine next_value (v := u) ?_ (post_same hw h1)
        rw [run_callFunc_extern Tryz.func203 (by kernel_rfl) (by kernel_rfl) (by kernel_rfl) (e := Extern.AbiNoEscape.same) (by kernel_rfl)]
        rfl
    · simp at he
  · unfold sameF at he ⊢
    split at he
    · exact he
    · simp at he
  · unfold sameF at he
    split at he
    · simp at he
    · simp at he
end Go.Proofs.YtcbngkmmmfaaoaaGreatDoor
