/-
  JOINED TEXTS (L13 L14 Q0 Q1 S3 Q2 Q3 S4): a pure machine for the model's code, its soundness, and what the program's functions come to.
-/
import Derived.Test.YtcbngkmmmfaaoaaGreatDoorM9
import Derived.Test.YtcbngkmmmfaaoaaGreatDoorM7
set_option linter.unusedVariables false
set_option linter.unusedSimpArgs false
namespace Go.Ac
open Go.RowKit
set_option linter.unusedSimpArgs false
section
variable {P : Program} {G : Glob} {md : FuncId → Md}
def EndM (P : Program) (G : Glob) (md : FuncId → Md) (k : FuncId) (args : List PV) (fk : Func) (ck : Code) (rs : List ResultVar) (Q : PV → AH → Prop) : EX → Fr → AH → Prop := fun x f h => ∃ i, f.ds = [.mark i, .call k args] ∧ h.get i = some (.defr true) ∧ ∃ m, modeX x = some m ∧
  wpS P G md fk.ntmps ck (layArgs 0 args Fr.none) (h.set i (.defr false)) m fun y f1 h1 m1 => (y = .normal ∨ y = .ret) ∧ f1.ds = [] ∧ (resA P f1 h1 fk.results.toList).isSome ∧ m1.settle = .ret ∧ ∃ l, resA P f h1 rs = some l ∧ Q (oneOf l) h1
theorem ends_mark {fn : Func} {c : Code} {rs : List ResultVar} {args : List PV} {h : AH} {k : FuncId} {dargs : List PV} {fk : Func} {ck : Code} {Q : PV → AH → Prop} {R : RA → Prop} (hf : P.funcs[k]? = some fk) (hb : fk.body = some ck) (hn : (fk.name == "runtime.NumGoroutine") = false) (hr : fn.results.toList = rs) (hq : ∀ v h', Q v h' → R (.val v h'))
    (he : wpC P G md (some fn.ntmps) c (layArgs 0 args Fr.none) h (EndM P G md k dargs fk ck rs Q)) : Ev P G md (some fn.ntmps) c (layArgs 0 args Fr.none) h (Ends P G md fn R) := by
  obtain ⟨n, x, f', h', he1, i, hds, hg, m, hx, hS⟩ := wpC_ev _ _ _ _ he
  obtain ⟨n2, y, f1, h1, m1, he2, hy, hd1, hrs, hm, l, hl, q⟩ := wpS_ev _ _ _ _ _ hS
  refine ⟨n, x, f', h', he1, m, n2, .val (oneOf l) h1, hx, ?_, hq _ _ q⟩
  rw [hds]
  simp only [runD, hg, hf, hb, hn, Bool.false_eq_true, if_false, he2]
  rcases hy with rfl | rfl
  · simp only [hd1, hrs, hm, List.isEmpty_nil, Bool.and_self, if_true]
    exact runD_nil (by rw [hr]; exact hl)
  · simp only [hd1, hrs, hm, List.isEmpty_nil, Bool.and_self, if_true]
    exact runD_nil (by rw [hr]; exact hl)
def Fr.dfr (f : Fr) (k : FuncId) (args : List PV) : Fr := ⟨f.t, .call k args :: f.ds⟩
def Fr.mrk (f : Fr) (i : Nat) : Fr := ⟨f.t, .mark i :: f.ds⟩
theorem Fr.at_dfr (f : Fr) (k : FuncId) (args : List PV) (j : Nat) : (f.dfr k args).at j = f.at j := rfl
theorem Fr.at_mrk (f : Fr) (i j : Nat) : (f.mrk i).at j = f.at j := rfl
theorem Fr.ds_dfr (f : Fr) (k : FuncId) (args : List PV) : (f.dfr k args).ds = .call k args :: f.ds := rfl
theorem Fr.ds_mrk (f : Fr) (i : Nat) : (f.mrk i).ds = .mark i :: f.ds := rfl
theorem goO_dfr (rd : Bool) (ops : Array Oper) (base i : Nat) (rest : List Oper) (d : Option Tmp) (f : Fr) (h : AH) (Q : OX → Prop) (k : FuncId) (args : List PV) : goO P G md rd ops base i rest d f h Q (some (.dfr k args)) = (rd = false ∧ wpO P G md rd ops base (i + 1) rest (putA (f.dfr k args) d .undef) h Q) := rfl
theorem Fr.at_mk (f : Fr) (ds : List Dfr) (j : Nat) : (⟨f.t, ds⟩ : Fr).at j = f.at j := rfl
theorem wpC_gen {nt : Option Nat} {c : Code} {f : Fr} {h : AH} {Q : EX → Fr → AH → Prop} (I : Fr → Prop) (hI : I f) (H : ∀ F, I F → wpC P G md nt c F h Q) : wpC P G md nt c f h Q := H f hI
theorem wpC_rangeSC {m : Nat} {x : Operand} {ps : Array Tmp} {asn body : Code} {f : Fr} {h : AH} {Q : EX → Fr → AH → Prop} {k : FuncId} {first captured : List PV} (R : AO → Bool → PV → AH → Prop) (hx : opnd G f.at x = .fn (.func k) first captured) (hb : bodyB P k = true)
    (hk : SC P G md (.fn k) (first ++ [.yld h.next] ++ captured) (((h.up 3).set h.next (.loop m f.t ps asn body .ready none)).set (h.next + 1) (.defr true)) (R (.loop m f.t ps asn body .ready none)))
    (hv : ∀ v h1, R (.loop m f.t ps asn body .ready none) false v h1 → h1.get h.next = some (.loop m f.t ps asn body .ready none) ∧ ∀ o, Q .normal (f.mrk (h.next + 1)) (h1.set h.next o))
    (hp : ∀ v h1, R (.loop m f.t ps asn body .ready none) true v h1 → Q (.panic v) (f.mrk (h.next + 1)) h1) : wpC P G md (some m) (.rangeFunc x ps asn body) f h Q := by
  simp only [wpC, hx]
  obtain ⟨v, h1, q | q⟩ := hk
  · obtain ⟨hg, hq⟩ := hv _ _ q.2
    exact ⟨hb, _, q.1 _, _, _, _, by simp only [finR, hg]; rfl, hq _⟩
  · exact ⟨hb, _, q.1 _, hp _ _ q.2⟩
theorem CR.someE {k : FuncId} {fn : Func} {c : Code} {args : List PV} {Q : PV → Prop} (hf : P.funcs[k]? = some fn) (hb : fn.body = some c) (hn : (fn.name == "runtime.NumGoroutine") = false) (hm : md k = .pure) (hcl : PV.cleans args = true)
    (he : Ev P G md (some fn.ntmps) c (layArgs 0 args Fr.none) .empty (Ends P G md fn fun r => ∃ v h u h', r = .val v h ∧ frz 100 v h = some (u, h') ∧ Q u)) : ∃ u, Q u ∧ ∀ (h : AH) (fr : Nat), CR P G md (.fn k) args h fr (.val u) := by
  obtain ⟨n, x, f', h', he1, m, n2, r, hx, hd, v, h1, u, h2, rfl, hz, hq⟩ := he
  exact ⟨u, hq, fun h fr => CR.pure hf hb hn hm hcl ⟨n, x, f', h', he1, m, n2, .val v h1, hx, hd, v, h1, h2, rfl, hz⟩ h fr⟩
theorem CR.yl_any {l : Nat} {args : List PV} {h : AH} {fr : Nat} {r : CRes} (a : CR P G md (.yl l) args h fr r) (fr' : Nat) : CR P G md (.yl l) args h fr' r := by
  obtain ⟨n, hn⟩ := a
  refine ⟨n, ?_⟩
  cases n with
  | zero => exact hn
  | succ n => exact hn
end
end Go.Ac
namespace Go.Proofs.YtcbngkmmmfaaoaaGreatDoor
open Go.RowKit Go.Lib Go.Ac
set_option linter.unusedSimpArgs false
set_option maxRecDepth 100000
variable {mx : Int}
theorem z121 : tyZero Tryz.prog 121 = some [.nls] := by kernel_rfl
theorem ag121 : tyAgg Tryz.prog 121 = some false := by kernel_rfl
theorem sz121 : tySz Tryz.prog 121 = some 1 := by kernel_rfl
theorem bd121 (fr : Nat) (k : Int) (t : List UInt8) (x y : Int) : buildO Tryz.prog fr 121 1 [(0, .agg [.int .i64 k, .str t, .int .i64 x, .int .i64 y])] = some (.w (.ow fr 4 0 1) fr (.cells 125 4 false [.int .i64 k, .str t, .int .i64 x, .int .i64 y])) := by kernel_rfl
theorem stN (id : Nat) (a : PV) (E : TypeId) : stoG id 1 0 .nls 1 (some (.cells E 0 false [a])) = some (.w .undef id (.cells E 0 false [.nls])) := rfl
theorem stW (id : Nat) (a : PV) (E : TypeId) (L p o m : Nat) : stoG id 1 0 (.ow L p o m) 1 (some (.cells E 0 false [a])) = some (.w .undef id (.cells E 0 false [.ow L p o m])) := rfl
theorem lt01 : ((0 : Nat) < 1) = True := by simp
theorem z3 : tyZero Tryz.prog 3 = some [.int .i64 0] := by kernel_rfl
theorem z27 : tyZero Tryz.prog 27 = some [.int .i64 0] := by kernel_rfl
section
variable {ρ : Operand → PV} {h : AH} {fr : Nat} {d : Option Tmp} {ty : TypeId} {ps : String} {af : Array Edge} {gu : Option (Nat × Bool)}
theorem al121 : aop Tryz.prog ρ h fr ⟨d, .alloc 121, ty, ps, af, gu⟩ = some (.w (.ptr fr 1 0) fr (.cells 121 0 false [.nls])) := by
  rw [aop_alloc, z121]; rfl
theorem al3 : aop Tryz.prog ρ h fr ⟨d, .alloc 3, ty, ps, af, gu⟩ = some (.w (.ptr fr 1 0) fr (.cells 3 0 false [.int .i64 0])) := by
  rw [aop_alloc, z3]; rfl
theorem al27 : aop Tryz.prog ρ h fr ⟨d, .alloc 27, ty, ps, af, gu⟩ = some (.w (.ptr fr 1 0) fr (.cells 27 0 false [.int .i64 0])) := by
  rw [aop_alloc, z27]; rfl
end
theorem bl152 (s : List UInt8) : bldO Tryz.prog 152 [(0, .str s)] = some (.q (.agg [.str s, .int .i64 0, .int .i64 0, .int .i64 0])) := by kernel_rfl
theorem all_v {h : AH} (R C : Nat) (hC : h.next = C) : ∃ v h', (∀ fr, CR Tryz.prog (globM mx) md (.fn 154) [.ptr R 4 0] h fr (.sh v h')) ∧ v = .fn (.func 165) [] [.ptr C 1 0] ∧ Eqv h' (h.set C (.cells 150 0 false [.ptr R 4 0])) ∧ C < h'.next := by
  refine CR.sh (rs := [.tmp 2]) (Q := fun v h' => v = .fn (.func 165) [] [.ptr C 1 0] ∧ Eqv h' (h.set C (.cells 150 0 false [.ptr R 4 0])) ∧ C < h'.next) Tryz.func154 rfl rfl rfl rfl rfl ?_
  simp -implicitDefEqProofs only [wpC_seq, rowsA, if_true, if_false, opnd, ofVal, ofVal1, layArgs, Nat.reduceAdd, reduceIte, Nat.reduceEqDiff, reduceCtorEq, rowsB, cellsG, Nat.reduceMul, rowsR, boxO_ptr, hC]
  exact ⟨((Eqv.refl h).up 4).set _ _, by omega⟩
section
variable {R C T T3 T4 l : Nat} {s : List UInt8} {h h' : AH} {a f n : Int} {M : Nat}
theorem AL.relo {ob ob' : AO} (A : AL ob R C T T3 T4 l s h a f n M) (hn : Go.Proofs.YtcbngkmmmfaaoaaGreatDoor.nb ob' = true) : AL ob' R C T T3 T4 l s (h.set l ob') a f n M := by
  have o1 := A.o1; have o2 := A.o2; have o3 := A.o3; have o4 := A.o4; have o5 := A.o5; have o6 := A.o6
  refine ⟨o1, o2, o3, o4, o5, by rw [AH.next_set]; exact o6, by rw [AH.get_set_ne _ _ _ _ (by omega)]; exact A.rd, by rw [AH.get_set_ne _ _ _ _ (by omega)]; exact A.cc, by rw [AH.get_set_ne _ _ _ _ (by omega)]; exact A.t3, by rw [AH.get_set_ne _ _ _ _ (by omega)]; exact A.t4, by rw [AH.get_set_same], by rw [AH.get_set_ne _ _ _ _ (by omega)]; exact A.dm, hn, ?_⟩
  obtain ⟨ts, h1, h2⟩ := A.tl
  refine ⟨ts, h1, ?_⟩
  rcases h2 with ⟨q, g⟩ | ⟨L, q1, q2, q3, q4, q5⟩
  · exact .inl ⟨q, by rw [AH.get_set_ne _ _ _ _ (by omega)]; exact g⟩
  · exact .inr ⟨L, q1, by rw [AH.next_set]; exact q2, q3, by rw [AH.get_set_ne _ _ _ _ (by omega)]; exact q4, by rw [AH.get_set_ne _ _ _ _ (by omega)]; exact q5⟩
def RndE (A : AH → Prop) (x : EX) (_ : Fr) (h : AH) : Prop := x = .normal ∧ A h
theorem RndE_normal (A : AH → Prop) (f : Fr) (h : AH) : RndE A .normal f h = A h := by simp [RndE]
def RndQ (mx : Int) (l : Nat) (ob busy : AO) (body : Code) (A : AH → Prop) (x : EX) (f1 : Fr) (h1 : AH) : Prop := x = .normal ∧ h1.get l = some ob ∧ wpC Tryz.prog (globM mx) md none body f1 (h1.set l busy) (RndE A)
theorem RndQ_normal (l : Nat) (ob busy : AO) (body : Code) (A : AH → Prop) (f1 : Fr) (h1 : AH) : RndQ mx l ob busy body A .normal f1 h1 = (h1.get l = some ob ∧ wpC Tryz.prog (globM mx) md none body f1 (h1.set l busy) (RndE A)) := by simp [RndQ]
theorem rnd_of {n0 : Nat} {F : Tr PV} {ps : Array Tmp} {asn body : Code} {tok : PV} (A : AL (.loop n0 F ps asn body .ready none) R C T T3 T4 l s h a f n M) (hl : ps.size = 1)
    (he : wpC Tryz.prog (globM mx) md none asn (layTo (ps.toList.zip [tok]) ⟨F, []⟩) h (RndQ mx l (.loop n0 F ps asn body .ready none) (.loop n0 F ps asn body .busy none) body fun h2 => AL (.loop n0 F ps asn body .busy none) R C T T3 T4 l s h2 a f n (M + 1))) :
    ∃ v h2, (∀ fr, CR Tryz.prog (globM mx) md (.yl l) [tok] h fr (.sh v h2)) ∧ v = .bool true ∧ AL (.loop n0 F ps asn body .ready none) R C T T3 T4 l s h2 a f n (M + 1) := by
  obtain ⟨x, h2, n2, F2, ps2, asn2, body2, st2, pend2, pn, ⟨hx, hA⟩, g2, hpn, hc⟩ := CR.yl (P := Tryz.prog) (G := globM mx) (md := md) (fr := 0) (args := [tok]) (Q := fun x h2 => x = .normal ∧ AL (.loop n0 F ps asn body .busy none) R C T T3 T4 l s h2 a f n (M + 1)) A.lo (by rw [hl]; rfl)
    (wpC_mono _ _ _ _ _ (fun x f1 h1 q => ⟨q.1, _, _, _, _, _, _, q.2.1, wpC_mono _ _ _ _ _ (fun x f2 h2 q => ⟨q, fun v e => (by rw [q.1] at e; cases e), _, _, _, _, _, _, _, q.2.lo⟩) q.2.2⟩) he)
  have e := hA.lo
  rw [g2] at e
  simp only [Option.some.injEq, AO.loop.injEq] at e
  obtain ⟨rfl, rfl, rfl, rfl, rfl, rfl, rfl⟩ := e
  rcases hpn with ⟨_, rfl⟩ | ⟨q, _⟩ | ⟨id, q, _⟩
  · exact ⟨_, _, fun fr => CR.yl_any hc fr, rfl, hA.relo rfl⟩
  · rw [hx] at q; cases q
  · rw [hx] at q; cases q
end
theorem as148n : asrO Tryz.prog 148 true .nif = some (.q (.tup [.agg [.int .i64 0, .int .i64 0], .bool false])) := by kernel_rfl
theorem as148 (x e : Int) : asrO Tryz.prog 148 true (.iface 148 (.agg [.int .i64 x, .int .i64 e])) = some (.q (.tup [.agg [.int .i64 x, .int .i64 e], .bool true])) := by kernel_rfl
theorem z148 : tyZero Tryz.prog 148 = some [.int .i64 0, .int .i64 0] := by kernel_rfl
theorem sz148 : tySz Tryz.prog 148 = some 2 := by kernel_rfl
theorem o148_0 : offOf Tryz.prog 148 0 = some 0 := by kernel_rfl
theorem o148_1 : offOf Tryz.prog 148 1 = some 1 := by kernel_rfl
theorem al148 {ρ : Operand → PV} {h : AH} {fr : Nat} {d : Option Tmp} {ty : TypeId} {ps : String} {af : Array Edge} {gu : Option (Nat × Bool)} : aop Tryz.prog ρ h fr ⟨d, .alloc 148, ty, ps, af, gu⟩ = some (.w (.ptr fr 2 0) fr (.cells 148 0 false [.int .i64 0, .int .i64 0])) := by
  rw [aop_alloc, z148]; rfl
theorem st148 (id : Nat) (a b x y : PV) (h : (PV.agg [x, y]).goes = true) (hc : (PV.agg [x, y]).cells = [x, y]) : stoG id 2 0 (.agg [x, y]) 2 (some (.cells 148 0 false [a, b])) = some (.w .undef id (.cells 148 0 false [x, y])) := by
  have := stoG_all id 2 0 148 (.agg [x, y]) [a, b] rfl (by rw [hc]; rfl) h
  rw [hc] at this
  exact this
theorem st148i (id : Nat) (a b : PV) (x y : Int) : stoG id 2 0 (.agg [.int .i64 x, .int .i64 y]) 2 (some (.cells 148 0 false [a, b])) = some (.w .undef id (.cells 148 0 false [.int .i64 x, .int .i64 y])) := st148 id a b _ _ rfl rfl
theorem dfr_ret {ck : Code} (hck : Tryz.f153.body = some ck) {h : AH} (h3 : 3 ≤ h.next) {Q : EX → Fr → AH → Mo → Prop} (hq : ∀ f1 h1, f1.ds = [] → (∀ j, j < h.next → h1.get j = h.get j) → Q .normal f1 h1 .ret) :
    wpS Tryz.prog (globM mx) md Tryz.f153.ntmps ck (layArgs 0 [.ptr 0 1 0, .ptr 1 1 0, .ptr 2 1 0] Fr.none) h .ret Q := by
  cases hck
  rw [Go.Ac.wpS_seq, wpS_rec _ _ _ _ _ _ _ (by rfl)]
  rw [wpRec_ret (by rfl) (by rfl)]
  simp -implicitDefEqProofs only [wpC_seq, rowsA, if_true, if_false, opnd, ofVal, ofVal1, layArgs, Nat.reduceAdd, reduceIte, Nat.reduceEqDiff, reduceCtorEq, rowsB, cellsG, Nat.reduceMul]
  rw [wpRec_op (by rfl) (by rfl)]
  simp -implicitDefEqProofs only [wpC_seq, rowsA, if_true, if_false, opnd, ofVal, ofVal1, layArgs, Nat.reduceAdd, reduceIte, Nat.reduceEqDiff, reduceCtorEq, rowsB, cellsG, Nat.reduceMul, rowsR, aop_assert, as148n, goR_q]
  rw [wpRec_op (by rfl) (by rfl)]
  simp -implicitDefEqProofs only [wpC_seq, rowsA, if_true, if_false, opnd, ofVal, ofVal1, layArgs, Nat.reduceAdd, reduceIte, Nat.reduceEqDiff, reduceCtorEq, rowsB, cellsG, Nat.reduceMul, rowsR, goR_q]
  rw [wpRec_op (by rfl) (by rfl)]
  simp -implicitDefEqProofs only [wpC_seq, rowsA, if_true, if_false, opnd, ofVal, ofVal1, layArgs, Nat.reduceAdd, reduceIte, Nat.reduceEqDiff, reduceCtorEq, rowsB, cellsG, Nat.reduceMul, rowsR, goR_q]
  rw [wpRec_op (by rfl) (by rfl)]
  simp -implicitDefEqProofs only [wpC_seq, rowsA, if_true, if_false, opnd, ofVal, ofVal1, layArgs, Nat.reduceAdd, reduceIte, Nat.reduceEqDiff, reduceCtorEq, rowsB, cellsG, Nat.reduceMul, rowsR, goR_q]
  rw [wpRec_op (by rfl) (by rfl)]
  simp -implicitDefEqProofs only [wpC_seq, rowsA, if_true, if_false, opnd, ofVal, ofVal1, layArgs, Nat.reduceAdd, reduceIte, Nat.reduceEqDiff, reduceCtorEq, rowsB, cellsG, Nat.reduceMul, rowsR, al148, goR_q, goR_w]
  rw [wpRec_op (by rfl) (by rfl)]
  simp -implicitDefEqProofs only [wpC_seq, rowsA, if_true, if_false, opnd, ofVal, ofVal1, layArgs, Nat.reduceAdd, reduceIte, Nat.reduceEqDiff, reduceCtorEq, rowsB, cellsG, Nat.reduceMul, rowsR, sz148, st148i, goR_q, goR_w]
  rw [wpRec_op (by rfl) (by rfl)]
  simp -implicitDefEqProofs only [wpC_seq, rowsA, if_true, if_false, opnd, ofVal, ofVal1, layArgs, Nat.reduceAdd, reduceIte, Nat.reduceEqDiff, reduceCtorEq, rowsB, cellsG, Nat.reduceMul, rowsR, goR_q, goR_w]
  rw [wpRec_nil, KSS_normal, Go.Ac.wpS_seq, wpS_reg _ _ _ _ _ _ _ _ (by rfl)]
  simp -implicitDefEqProofs only [wpC_seq, rowsA, if_true, if_false, opnd, ofVal, ofVal1, layArgs, Nat.reduceAdd, reduceIte, Nat.reduceEqDiff, reduceCtorEq, rowsB, cellsG, Nat.reduceMul, rowsR, KW_normal, KSS_normal]
  rw [Go.Ac.wpS_cond]
  simp -implicitDefEqProofs only [wpC_seq, rowsA, if_true, if_false, opnd, ofVal, ofVal1, layArgs, Nat.reduceAdd, reduceIte, Nat.reduceEqDiff, reduceCtorEq, rowsB, cellsG, Nat.reduceMul, rowsR, Go.Ac.wpS_skip]
  exact ⟨.inl trivial, hq _ _ rfl (fun j hj => by simp only [AH.get_set, AH.get_up, show ¬ (j = h.next + 5) by omega, if_false])⟩
section
variable {ρ : Operand → PV} {d : Option Tmp} {ty : TypeId} {ps : String} {af : Array Edge} {gu : Option (Nat × Bool)}
theorem foot_fa (t : TypeId) (x : Operand) (k : Nat) : foot ρ ⟨d, .fieldAddr t x k, ty, ps, af, gu⟩ = footV (ρ x) := by simp [foot, Op.operands]
theorem foot_ld (t : TypeId) (x : Operand) : foot ρ ⟨d, .load t x, ty, ps, af, gu⟩ = footV (ρ x) := by simp [foot, Op.operands]
theorem foot_st (t : TypeId) (x y : Operand) : foot ρ ⟨d, .store t x y, ty, ps, af, gu⟩ = footV (ρ x) ++ footV (ρ y) := by simp [foot, Op.operands]
end
theorem footV_ptr (i j k : Nat) : footV (.ptr i j k) = [i] := rfl
theorem dfr_pan {ck : Code} (hck : Tryz.f153.body = some ck) {h : AH} {v a b : PV} (x e : Int) (h3 : 3 ≤ h.next) (g0 : h.get 0 = some (.cells 121 0 false [v])) (g1 : h.get 1 = some (.cells 3 0 false [a])) (g2 : h.get 2 = some (.cells 27 0 false [b])) {Q : EX → Fr → AH → Mo → Prop} (hq : ∀ f1 h1, f1.ds = [] → h1.get 0 = some (.cells 121 0 false [.nls]) → h1.get 1 = some (.cells 3 0 false [.int .i64 x]) → h1.get 2 = some (.cells 27 0 false [.int .i64 e]) → Q .normal f1 h1 .rcv) :
    wpS Tryz.prog (globM mx) md Tryz.f153.ntmps ck (layArgs 0 [.ptr 0 1 0, .ptr 1 1 0, .ptr 2 1 0] Fr.none) h (.pan (wrongV x e)) Q := by
  cases hck
  rw [Go.Ac.wpS_seq, wpS_rec _ _ _ _ _ _ _ (by rfl)]
  rw [wpRec_pan (by rfl) (by rfl)]
  simp -implicitDefEqProofs only [wpC_seq, rowsA, if_true, if_false, opnd, ofVal, ofVal1, layArgs, Nat.reduceAdd, reduceIte, Nat.reduceEqDiff, reduceCtorEq, rowsB, cellsG, Nat.reduceMul, wrongV]
  rw [wpRec_op (by rfl) (by rfl)]
  simp -implicitDefEqProofs only [wpC_seq, rowsA, if_true, if_false, opnd, ofVal, ofVal1, layArgs, Nat.reduceAdd, reduceIte, Nat.reduceEqDiff, reduceCtorEq, rowsB, cellsG, Nat.reduceMul, rowsR, aop_assert, as148, goR_q]
  rw [wpRec_op (by rfl) (by rfl)]
  simp -implicitDefEqProofs only [wpC_seq, rowsA, if_true, if_false, opnd, ofVal, ofVal1, layArgs, Nat.reduceAdd, reduceIte, Nat.reduceEqDiff, reduceCtorEq, rowsB, cellsG, Nat.reduceMul, rowsR, goR_q]
  rw [wpRec_op (by rfl) (by rfl)]
  simp -implicitDefEqProofs only [wpC_seq, rowsA, if_true, if_false, opnd, ofVal, ofVal1, layArgs, Nat.reduceAdd, reduceIte, Nat.reduceEqDiff, reduceCtorEq, rowsB, cellsG, Nat.reduceMul, rowsR, goR_q]
  rw [wpRec_op (by rfl) (by rfl)]
  simp -implicitDefEqProofs only [wpC_seq, rowsA, if_true, if_false, opnd, ofVal, ofVal1, layArgs, Nat.reduceAdd, reduceIte, Nat.reduceEqDiff, reduceCtorEq, rowsB, cellsG, Nat.reduceMul, rowsR, goR_q]
  rw [wpRec_op (by rfl) (by rfl)]
  simp -implicitDefEqProofs only [wpC_seq, rowsA, if_true, if_false, opnd, ofVal, ofVal1, layArgs, Nat.reduceAdd, reduceIte, Nat.reduceEqDiff, reduceCtorEq, rowsB, cellsG, Nat.reduceMul, rowsR, al148, goR_q, goR_w]
  rw [wpRec_op (by rfl) (by rfl)]
  simp -implicitDefEqProofs only [wpC_seq, rowsA, if_true, if_false, opnd, ofVal, ofVal1, layArgs, Nat.reduceAdd, reduceIte, Nat.reduceEqDiff, reduceCtorEq, rowsB, cellsG, Nat.reduceMul, rowsR, sz148, st148i, goR_q, goR_w]
  rw [wpRec_op (by rfl) (by rfl)]
  simp -implicitDefEqProofs only [wpC_seq, rowsA, if_true, if_false, opnd, ofVal, ofVal1, layArgs, Nat.reduceAdd, reduceIte, Nat.reduceEqDiff, reduceCtorEq, rowsB, cellsG, Nat.reduceMul, rowsR, goR_q, goR_w]
  rw [wpRec_nil, KSS_normal, Go.Ac.wpS_seq, wpS_reg _ _ _ _ _ _ _ _ (by rfl)]
  simp -implicitDefEqProofs only [wpC_seq, rowsA, if_true, if_false, opnd, ofVal, ofVal1, layArgs, Nat.reduceAdd, reduceIte, Nat.reduceEqDiff, reduceCtorEq, rowsB, cellsG, Nat.reduceMul, rowsR, KW_normal, KSS_normal]
  rw [Go.Ac.wpS_cond]
  simp -implicitDefEqProofs only [wpC_seq, rowsA, if_true, if_false, opnd, ofVal, ofVal1, layArgs, Nat.reduceAdd, reduceIte, Nat.reduceEqDiff, reduceCtorEq, rowsB, cellsG, Nat.reduceMul, rowsR, Go.Ac.wpS_skip]
  rw [wpS_reg _ _ _ _ _ _ _ _ (by rfl)]
  have h05 : (0 = h.next + 5) = False := by simp only [eq_iff_iff, iff_false]; omega
  have h15 : (1 = h.next + 5) = False := by simp only [eq_iff_iff, iff_false]; omega
  have h25 : (2 = h.next + 5) = False := by simp only [eq_iff_iff, iff_false]; omega
  simp -implicitDefEqProofs only [wpC_seq, rowsA, if_true, if_false, opnd, ofVal, ofVal1, layArgs, Nat.reduceAdd, reduceIte, Nat.reduceEqDiff, reduceCtorEq, rowsB, cellsG, Nat.reduceMul, rowsR, fda_ptr o148_0, fda_ptr o148_1, loadO_one ag27 sz27, sz27, sz121, h05, h15, h25, g0, g1, g2, stN, lt01, KW_normal]
  rw [goD_sl (by omega) [0, 1, 2, 3] (by kernel_rfl) (by kernel_rfl) ?_ (by kernel_rfl)]
  rotate_left
  · intro j hj
    refine ⟨by omega, fun o ho => ?_⟩
    simp only [List.mem_cons, List.not_mem_nil, or_false] at hj
    rcases hj with rfl | rfl | rfl | rfl
    all_goals
      simp only [List.getElem?_toArray, List.getElem?_cons_zero, List.getElem?_cons_succ, Option.some.injEq] at ho
      subst ho
      simp only [foot_fa, foot_ld, opnd, Fr.at_set, Nat.reduceEqDiff, reduceIte, footV_ptr, List.mem_singleton]
      intro q
      omega
  simp -implicitDefEqProofs only [wpC_seq, rowsA, if_true, if_false, opnd, ofVal, ofVal1, layArgs, Nat.reduceAdd, reduceIte, Nat.reduceEqDiff, reduceCtorEq, rowsB, cellsG, Nat.reduceMul, rowsR, gdD_log, foot_st, footV_ptr, sz27, sz121, h05, h15, h25, g0, g1, g2, stN, lt01, KW_normal]
  refine ⟨by kernel_rfl, ?_⟩
  rw [goD_sl (by omega) [2, 3] (by kernel_rfl) (by kernel_rfl) ?_ (by kernel_rfl)]
  rotate_left
  · intro j hj
    refine ⟨by omega, fun o ho => ?_⟩
    simp only [List.mem_cons, List.not_mem_nil, or_false] at hj
    rcases hj with rfl | rfl
    all_goals
      simp only [List.getElem?_toArray, List.getElem?_cons_zero, List.getElem?_cons_succ, Option.some.injEq] at ho
      subst ho
      simp only [foot_fa, foot_ld, opnd, Fr.at_set, Nat.reduceEqDiff, reduceIte, footV_ptr, List.mem_singleton]
      intro q
      omega
  simp -implicitDefEqProofs only [wpC_seq, rowsA, if_true, if_false, opnd, ofVal, ofVal1, layArgs, Nat.reduceAdd, reduceIte, Nat.reduceEqDiff, reduceCtorEq, rowsB, cellsG, Nat.reduceMul, rowsR, gdD_log, foot_st, footV_ptr, sz27, sz121, h05, h15, h25, g0, g1, g2, stN, lt01, KW_normal]
  refine ⟨by kernel_rfl, ?_⟩
  rw [goD_w, if_neg (by omega)]
  refine ⟨by rw [ford]; rw [show fore _ _ = true from by kernel_rfl]; rfl, ?_⟩
  simp -implicitDefEqProofs only [wpC_seq, rowsA, if_true, if_false, opnd, ofVal, ofVal1, layArgs, Nat.reduceAdd, reduceIte, Nat.reduceEqDiff, reduceCtorEq, rowsB, cellsG, Nat.reduceMul, rowsR, KW_normal]
  refine hq _ _ rfl ?_ ?_ ?_
  · simp only [AH.get_set, Nat.reduceEqDiff, if_true, if_false]
  · simp only [AH.get_set, Nat.reduceEqDiff, if_true, if_false]
  · simp only [AH.get_set, Nat.reduceEqDiff, if_true, if_false]
theorem frzT {dd id n sz : Nat} {E : TypeId} {fz : Bool} {c : List PV} {h : AH} (hg : h.get id = some (.cells E sz fz c)) (hc : c.length = n * sz) (hcl : PV.cleans c = true) : frz (dd + 1) (.ow id (n * sz) 0 n) h = some (.ro c n, h.set id (.cells E sz true c)) := by
  rw [frz, if_neg (by simp [PV.clean])]
  simp only [hg]
  rw [if_pos ⟨hc, by omega⟩, show ((c.drop 0).take (n * sz)) = c by simp [← hc], frzL_clean c _ hcl]
theorem frz_tkD {dd id n : Nat} {E : TypeId} {fz : Bool} {c : List PV} {h : AH} {a b : Int} (hg : h.get id = some (.cells E 4 fz c)) (hc : c.length = n * 4) (hcl : PV.cleans c = true) : frz (dd + 2) (.tup [.ow id (n * 4) 0 n, .int .i64 a, .int .i64 b]) h = some (.tup [.ro c n, .int .i64 a, .int .i64 b], h.set id (.cells E 4 true c)) := by
  have e1 : ∀ (x : Int) (h : AH), frz (dd + 1) (.int .i64 x) h = some (.int .i64 x, h) := fun s h => frz_clean h rfl
  rw [frz, if_neg (by simp [PV.clean, PV.cleans])]
  simp only [frzL, e1, frzT (dd := dd) hg hc hcl]
theorem frz_tks {id n : Nat} {E : TypeId} {fz : Bool} {c : List PV} {h : AH} {a b : Int} (hg : h.get id = some (.cells E 4 fz c)) (hc : c.length = n * 4) (hcl : PV.cleans c = true) : frz 100 (.tup [.ow id (n * 4) 0 n, .int .i64 a, .int .i64 b]) h = some (.tup [.ro c n, .int .i64 a, .int .i64 b], h.set id (.cells E 4 true c)) := frz_tkD (dd := 98) hg hc hcl
def ReadG (s : List UInt8) (u : PV) : Prop := ∃ row n e, u = .tup [row, .int .i64 n, .int .i64 e] ∧ row.clean = true ∧ (e = 0 → (row = .nls ∧ ¬ full s) ∨ ∃ ts, (ts ≠ [] ∧ HdL s ts ∧ (full s → ts.length = 1)) ∧ row = rowV Tkn.pv ts) ∧ (full s → e = 0)
def ReadI (F : Fr) : Prop := F.at 2 = .ptr 0 1 0 ∧ F.at 3 = .ptr 1 1 0 ∧ F.at 4 = .ptr 2 1 0 ∧ F.at 12 = .fn (.func 165) [] [.ptr 11 1 0] ∧ F.ds = [.call 153 [.ptr 0 1 0, .ptr 1 1 0, .ptr 2 1 0]]
theorem read_c (s : List UInt8) (hl : s.length ≤ 16384) : ∃ u, ReadG s u ∧ ∀ (h : AH) (fr : Nat), CR Tryz.prog (globM mx) md (.fn 144) [.str s] h fr (.val u) := by
  refine CR.someE Tryz.func144 rfl rfl rfl rfl (ends_mark (k := 153) (dargs := [.ptr 0 1 0, .ptr 1 1 0, .ptr 2 1 0]) (rs := [.cell 2 121, .cell 3 3, .cell 4 27]) (Q := fun v h => ∃ u h', frz 100 v h = some (u, h') ∧ ReadG s u) Tryz.func153 rfl rfl rfl (fun v h' ⟨u, h2, q1, q2⟩ => ⟨v, h', u, h2, rfl, q1, q2⟩) ?_)
  simp -implicitDefEqProofs only [wpC_seq, rowsA, if_true, if_false, opnd, ofVal, ofVal1, layArgs, Nat.reduceAdd, reduceIte, Nat.reduceEqDiff, reduceCtorEq, rowsB, cellsG, Nat.reduceMul, rowsR, al121, al3, al27, aop_dfr, deferV_func, goO_dfr, Fr.at_dfr, bl152]
  refine goO_val (all_v 7 11 rfl) ?_
  rintro v2 h2 ⟨rfl, e2, n2⟩
  simp -implicitDefEqProofs only [wpC_seq, rowsA, if_true, if_false, opnd, ofVal, ofVal1, layArgs, Nat.reduceAdd, reduceIte, Nat.reduceEqDiff, reduceCtorEq, rowsB, cellsG, Nat.reduceMul, rowsR]
  refine wpC_gen ReadI ⟨?_, ?_, ?_, ?_, ?_⟩ ?_
  · simp only [Fr.at_set, Fr.at_dfr, Nat.reduceEqDiff, reduceIte, reduceCtorEq]
  · simp only [Fr.at_set, Fr.at_dfr, Nat.reduceEqDiff, reduceIte, reduceCtorEq]
  · simp only [Fr.at_set, Fr.at_dfr, Nat.reduceEqDiff, reduceIte, reduceCtorEq]
  · simp only [Fr.at_set, Fr.at_dfr, Nat.reduceEqDiff, reduceIte, reduceCtorEq]
  · simp only [Fr.ds_set, Fr.ds_dfr]; rfl
  rintro F ⟨f2, f3, f4, f12, fd⟩
  refine wpC_rangeSC (k := 165) (first := []) (captured := [.ptr 11 1 0]) (fun ob => AllQ ob 7 11 0 1 2 h2.next s) f12 rfl (all1_sc ?_ ⟨by decide, by decide, by decide, by decide, n2, ?_, ?_, ?_, ?_, ?_, ?_, ?_, rfl, ?_⟩ hl) ?_ ?_
  · -- a round
    clear e2 n2
    generalize h2.next = l
    intro h a f n M k t x y A hM hHd
    refine rnd_of A rfl ?_
    have o5 := A.o5
    have o6 := A.o6
    have hn1 : (l = h.next) = False := by simp only [eq_iff_iff, iff_false]; omega
    have h0l : (0 = l) = False := by simp only [eq_iff_iff, iff_false]; omega
    have h0n : (0 = h.next) = False := by simp only [eq_iff_iff, iff_false]; omega
    have hl4 : (h.next + 2 + 2 = l) = False := by simp only [eq_iff_iff, iff_false]; omega
    have hn4 : (h.next + 2 + 2 = h.next) = False := by simp only [eq_iff_iff, iff_false]; omega
    have hnl : (h.next = l) = False := by simp only [eq_iff_iff, iff_false]; omega
    have h04 : (0 = h.next + 2 + 2) = False := by simp only [eq_iff_iff, iff_false]; omega
    have h05 : (0 = h.next + 2 + 3) = False := by simp only [eq_iff_iff, iff_false]; omega
    obtain ⟨ts, ht1, ht2⟩ := A.tl
    rcases ht2 with ⟨rfl, g0⟩ | ⟨L, q1, q2, q3, q4, q5⟩
    · simp -implicitDefEqProofs only [wpC_seq, rowsA, if_true, if_false, opnd, ofVal, ofVal1, layArgs, Nat.reduceAdd, reduceIte, Nat.reduceEqDiff, reduceCtorEq, rowsB, cellsG, Nat.reduceMul, rowsR, al125, layTo, Fr.at_mk, List.zip_cons_cons, List.zip_nil_right, sz125, st125', hn1, wpC_regionR, RndQ_normal, A.lo, f2, h0l, h0n, hl4, hn4, hnl, h04, h05, g0, loadO_one ag121 sz121, ld125, bd121]
      rw [ap121n (c := [.int .i64 k, .str t, .int .i64 x, .int .i64 y]) (fz := false)]
      rotate_left
      · simp only [AH.get_set, if_true]
      · rfl
      simp -implicitDefEqProofs only [wpC_seq, rowsA, if_true, if_false, opnd, ofVal, ofVal1, layArgs, Nat.reduceAdd, reduceIte, Nat.reduceEqDiff, reduceCtorEq, rowsB, cellsG, Nat.reduceMul, rowsR, Fr.at_mk, f2, h0l, h0n, h04, h05, g0, sz121, stW, RndE_normal]
      refine ⟨A.o1, A.o2, A.o3, A.o4, A.o5, ?_, ?_, ?_, ?_, ?_, ?_, ?_, rfl, ?_⟩
      · simp only [AH.next_set, AH.next_up]; omega
      · repeat rw [AH.get_set_ne _ _ _ _ (by omega)]
        rw [AH.get_up]; exact A.rd
      · repeat rw [AH.get_set_ne _ _ _ _ (by omega)]
        rw [AH.get_up]; exact A.cc
      · repeat rw [AH.get_set_ne _ _ _ _ (by omega)]
        rw [AH.get_up]; exact A.t3
      · repeat rw [AH.get_set_ne _ _ _ _ (by omega)]
        rw [AH.get_up]; exact A.t4
      · repeat rw [AH.get_set_ne _ _ _ _ (by omega)]
        rw [AH.get_set_same]
      · repeat rw [AH.get_set_ne _ _ _ _ (by omega)]
        rw [AH.get_up]; exact A.dm
      · refine ⟨[⟨k, t, x, y⟩], ⟨by have := ht1.1; simp only [List.length_nil] at this; simp only [List.length_singleton]; omega, fun t0 ts' e => by cases e; exact hHd ht1.1.symm⟩, .inr ⟨h.next + 2 + 3, by omega, by simp only [AH.next_set, AH.next_up]; omega, by simp, ?_, ?_⟩⟩
        · rw [AH.get_set_same]; rfl
        · rw [AH.get_set_ne _ _ _ _ (by omega), AH.get_set_same]; rfl
    · have h0L : (0 = L) = False := by simp only [eq_iff_iff, iff_false]; omega
      simp -implicitDefEqProofs only [wpC_seq, rowsA, if_true, if_false, opnd, ofVal, ofVal1, layArgs, Nat.reduceAdd, reduceIte, Nat.reduceEqDiff, reduceCtorEq, rowsB, cellsG, Nat.reduceMul, rowsR, al125, layTo, Fr.at_mk, List.zip_cons_cons, List.zip_nil_right, sz125, st125', hn1, wpC_regionR, RndQ_normal, A.lo, f2, h0l, h0n, hl4, hn4, hnl, h04, h05, q4, loadO_one ag121 sz121, ld125, bd121]
      rw [ap121 (d := flat Tkn.pv ts) (c := [.int .i64 k, .str t, .int .i64 x, .int .i64 y]) (fz := false) (m := ts.length)]
      rotate_left
      · repeat rw [AH.get_set_ne _ _ _ _ (by omega)]
        rw [AH.get_up]; exact q5
      · exact tk_len ts
      · simp only [AH.get_set, if_true]
      · rfl
      · omega
      simp -implicitDefEqProofs only [wpC_seq, rowsA, if_true, if_false, opnd, ofVal, ofVal1, layArgs, Nat.reduceAdd, reduceIte, Nat.reduceEqDiff, reduceCtorEq, rowsB, cellsG, Nat.reduceMul, rowsR, Fr.at_mk, f2, h0l, h0n, h04, h05, h0L, q4, sz121, stW, RndE_normal]
      refine ⟨A.o1, A.o2, A.o3, A.o4, A.o5, ?_, ?_, ?_, ?_, ?_, ?_, ?_, rfl, ?_⟩
      · simp only [AH.next_set, AH.next_up]; omega
      · repeat rw [AH.get_set_ne _ _ _ _ (by omega)]
        rw [AH.get_up]; exact A.rd
      · repeat rw [AH.get_set_ne _ _ _ _ (by omega)]
        rw [AH.get_up]; exact A.cc
      · repeat rw [AH.get_set_ne _ _ _ _ (by omega)]
        rw [AH.get_up]; exact A.t3
      · repeat rw [AH.get_set_ne _ _ _ _ (by omega)]
        rw [AH.get_up]; exact A.t4
      · repeat rw [AH.get_set_ne _ _ _ _ (by omega)]
        rw [AH.get_set_same]
      · repeat rw [AH.get_set_ne _ _ _ _ (by omega)]
        rw [AH.get_up]; exact A.dm
      · refine ⟨ts ++ [⟨k, t, x, y⟩], ⟨by rw [List.length_append, List.length_singleton]; omega, fun t0 ts' e => by
          match ts, q3, ht1.2, e with
          | t1 :: ts1, _, hh, e =>
            rw [List.cons_append] at e
            cases e
            exact hh _ _ rfl⟩, .inr ⟨L, q1, by simp only [AH.next_set, AH.next_up]; omega, by simp, ?_, ?_⟩⟩
        · rw [AH.get_set_same, List.length_append, List.length_singleton]
        · rw [AH.get_set_ne _ _ _ _ (by omega), AH.get_set_same, flat_snoc]; rfl
  · simp only [AH.next_set, AH.next_up]; omega
  · repeat rw [AH.get_set_ne _ _ _ _ (by omega)]
    rw [AH.get_up, e2.1]
    simp only [AH.get_set, Nat.reduceEqDiff, if_true, if_false]; rfl
  · repeat rw [AH.get_set_ne _ _ _ _ (by omega)]
    rw [AH.get_up, e2.1]
    simp only [AH.get_set, Nat.reduceEqDiff, if_true, if_false]
  · repeat rw [AH.get_set_ne _ _ _ _ (by omega)]
    rw [AH.get_up, e2.1]
    simp only [AH.get_set, Nat.reduceEqDiff, if_true, if_false]
  · repeat rw [AH.get_set_ne _ _ _ _ (by omega)]
    rw [AH.get_up, e2.1]
    simp only [AH.get_set, Nat.reduceEqDiff, if_true, if_false]
  · rw [AH.get_set_ne _ _ _ _ (by omega), AH.get_set_same]
  · rw [AH.get_set_same]
  · refine ⟨[], ⟨rfl, fun t0 ts' e => by cases e⟩, .inl ⟨rfl, ?_⟩⟩
    repeat rw [AH.get_set_ne _ _ _ _ (by omega)]
    rw [AH.get_up, e2.1]
    simp only [AH.get_set, Nat.reduceEqDiff, if_true, if_false]
  · rintro v h3 ⟨a, f, n, M, A, hv, _⟩
    have hvf := (hv rfl).2
    refine ⟨A.lo, fun o => ?_⟩
    have o5 := A.o5
    have o6 := A.o6
    have h0l : (0 = h2.next) = False := by simp only [eq_iff_iff, iff_false]; omega
    have h1l : (1 = h2.next) = False := by simp only [eq_iff_iff, iff_false]; omega
    have h2l : (2 = h2.next) = False := by simp only [eq_iff_iff, iff_false]; omega
    have hml : (h2.next + 1 = h2.next) = False := by simp only [eq_iff_iff, iff_false]; omega
    have hm0 : (h2.next + 1 = 0) = False := by simp only [eq_iff_iff, iff_false]; omega
    have hm1 : (h2.next + 1 = 1) = False := by simp only [eq_iff_iff, iff_false]; omega
    have hm2 : (h2.next + 1 = 2) = False := by simp only [eq_iff_iff, iff_false]; omega
    obtain ⟨ts, ht1, ht2⟩ := A.tl
    rcases ht2 with ⟨rfl, g0⟩ | ⟨L, q1, q2, q3, q4, q5⟩
    · simp -implicitDefEqProofs only [wpC_seq, rowsA, if_true, if_false, opnd, ofVal, ofVal1, layArgs, Nat.reduceAdd, reduceIte, Nat.reduceEqDiff, reduceCtorEq, rowsB, cellsG, Nat.reduceMul, rowsR, Fr.at_mrk, f2, f3, f4, h0l, h1l, h2l, g0, A.t3, A.t4, loadO_one ag121 sz121, sz121, sz27, stN, lt01]
      refine ⟨h2.next + 1, ?_, ?_, .ret, rfl, ?_⟩
      · simp only [Fr.ds_set, Fr.ds_mrk, fd]
      · simp only [AH.get_set, AH.get_up, hml, hm0, hm1, hm2, if_false]; exact A.dm
      refine dfr_ret rfl (by simp only [AH.next_set, AH.next_up]; omega) fun f1 h1 d1 k1 => ?_
      have k2 := k1 0 (by simp only [AH.next_set, AH.next_up]; omega)
      have k3 := k1 1 (by simp only [AH.next_set, AH.next_up]; omega)
      have k4 := k1 2 (by simp only [AH.next_set, AH.next_up]; omega)
      have z0 : (0 = h2.next + 1) = False := by simp only [eq_iff_iff, iff_false]; omega
      have z1 : (1 = h2.next + 1) = False := by simp only [eq_iff_iff, iff_false]; omega
      have z2 : (2 = h2.next + 1) = False := by simp only [eq_iff_iff, iff_false]; omega
      simp only [AH.get_set, Nat.reduceEqDiff, if_true, if_false, z0, z1, z2] at k2 k3 k4
      refine ⟨.inl rfl, d1, rfl, rfl, ?_⟩
      simp -implicitDefEqProofs only [wpC_seq, rowsA, if_true, if_false, opnd, ofVal, ofVal1, layArgs, Nat.reduceAdd, reduceIte, Nat.reduceEqDiff, reduceCtorEq, rowsB, cellsG, Nat.reduceMul, rowsR, Fr.at_mrk, f2, f3, f4, k2, k3, k4, loadO_one ag121 sz121, loadO_one ag27 sz27]
      exact ⟨_, rfl, _, h1, frz_clean _ rfl, .nls, 0, 0, rfl, rfl, fun _ => .inl ⟨rfl, fun q => by have h1 := hvf q; have h2 := ht1.1; simp only [List.length_nil] at h2; omega⟩, fun _ => rfl⟩
    · have h0L : (0 = L) = False := by simp only [eq_iff_iff, iff_false]; omega
      simp -implicitDefEqProofs only [wpC_seq, rowsA, if_true, if_false, opnd, ofVal, ofVal1, layArgs, Nat.reduceAdd, reduceIte, Nat.reduceEqDiff, reduceCtorEq, rowsB, cellsG, Nat.reduceMul, rowsR, Fr.at_mrk, f2, f3, f4, h0l, h1l, h2l, q4, A.t3, A.t4, loadO_one ag121 sz121, sz121, sz27, stW, lt01]
      refine ⟨h2.next + 1, ?_, ?_, .ret, rfl, ?_⟩
      · simp only [Fr.ds_set, Fr.ds_mrk, fd]
      · simp only [AH.get_set, AH.get_up, hml, hm0, hm1, hm2, if_false]; exact A.dm
      refine dfr_ret rfl (by simp only [AH.next_set, AH.next_up]; omega) fun f1 h1 d1 k1 => ?_
      have k2 := k1 0 (by simp only [AH.next_set, AH.next_up]; omega)
      have k3 := k1 1 (by simp only [AH.next_set, AH.next_up]; omega)
      have k4 := k1 2 (by simp only [AH.next_set, AH.next_up]; omega)
      have k5 := k1 L (by simp only [AH.next_set, AH.next_up]; omega)
      have z0 : (0 = h2.next + 1) = False := by simp only [eq_iff_iff, iff_false]; omega
      have z1 : (1 = h2.next + 1) = False := by simp only [eq_iff_iff, iff_false]; omega
      have z2 : (2 = h2.next + 1) = False := by simp only [eq_iff_iff, iff_false]; omega
      have z3 : (L = h2.next + 1) = False := by simp only [eq_iff_iff, iff_false]; omega
      have z4 : (L = h2.next) = False := by simp only [eq_iff_iff, iff_false]; omega
      have z5 : (L = 0) = False := by simp only [eq_iff_iff, iff_false]; omega
      have z6 : (L = 1) = False := by simp only [eq_iff_iff, iff_false]; omega
      have z7 : (L = 2) = False := by simp only [eq_iff_iff, iff_false]; omega
      simp only [AH.get_set, AH.get_up, Nat.reduceEqDiff, if_true, if_false, z0, z1, z2, z3, z4, z5, z6, z7, q5] at k2 k3 k4 k5
      refine ⟨.inl rfl, d1, rfl, rfl, ?_⟩
      simp -implicitDefEqProofs only [wpC_seq, rowsA, if_true, if_false, opnd, ofVal, ofVal1, layArgs, Nat.reduceAdd, reduceIte, Nat.reduceEqDiff, reduceCtorEq, rowsB, cellsG, Nat.reduceMul, rowsR, Fr.at_mrk, f2, f3, f4, k2, k3, k4, loadO_one ag121 sz121, loadO_one ag27 sz27]
      refine ⟨_, rfl, _, _, frz_tks k5 (tk_len ts) (flat_clean (fun _ => rfl) ts), rowV Tkn.pv ts, 0, 0, rfl, rfl, fun _ => .inr ⟨ts, ⟨List.length_pos_iff.1 q3, ht1.2, fun q => by have h1 := hvf q; have h2 := ht1.1; omega⟩, rfl⟩, fun _ => rfl⟩
  · rintro v h3 ⟨a, f, n, M, A, _, hv⟩
    obtain ⟨hnf, x, e, e0, rfl⟩ := hv rfl
    have o5 := A.o5
    have o6 := A.o6
    have h0l : ¬ (0 = h2.next + 1) := by omega
    have h1l : ¬ (1 = h2.next + 1) := by omega
    have h2l : ¬ (2 = h2.next + 1) := by omega
    simp -implicitDefEqProofs only [rowsR]
    refine ⟨h2.next + 1, by rw [Fr.ds_mrk, fd], A.dm, _, rfl, ?_⟩
    obtain ⟨v0, gv⟩ : ∃ v0, h3.get 0 = some (.cells 121 0 false [v0]) := by
      obtain ⟨ts, ht1, ht2⟩ := A.tl
      rcases ht2 with ⟨_, g0⟩ | ⟨L, _, _, _, q4, _⟩
      · exact ⟨_, g0⟩
      · exact ⟨_, q4⟩
    refine dfr_pan (v := v0) (a := .int .i64 0) (b := .int .i64 0) rfl x e (by rw [AH.next_set]; omega) (by rw [AH.get_set_ne _ _ _ _ h0l]; exact gv) (by rw [AH.get_set_ne _ _ _ _ h1l]; exact A.t3) (by rw [AH.get_set_ne _ _ _ _ h2l]; exact A.t4) fun f1 h1 d1 k0 k1 k2 => ?_
    refine ⟨.inl rfl, d1, rfl, rfl, ?_⟩
    simp -implicitDefEqProofs only [wpC_seq, rowsA, if_true, if_false, opnd, ofVal, ofVal1, layArgs, Nat.reduceAdd, reduceIte, Nat.reduceEqDiff, reduceCtorEq, rowsB, cellsG, Nat.reduceMul, rowsR, Fr.at_mrk, f2, f3, f4, k0, k1, k2, loadO_one ag121 sz121, loadO_one ag27 sz27]
    exact ⟨_, rfl, _, h1, frz_clean _ rfl, .nls, x, e, rfl, rfl, fun q => absurd q e0, fun q => absurd q hnf⟩
end Go.Proofs.YtcbngkmmmfaaoaaGreatDoor
namespace Go.Proofs.YtcbngkmmmfaaoaaGreatDoor
open Go.RowKit Go.Lib Go.Ac
set_option linter.unusedSimpArgs false
set_option maxRecDepth 100000
variable {mx : Int}
theorem tokens_c (s : List UInt8) (hs : s.length ≤ 9223372036854775807) : ∃ u, ((s.length ≤ 16384 ∧ ReadG s u) ∨ (¬ s.length ≤ 16384 ∧ u = .tup [.nls, .int .i64 0, .int .i64 54])) ∧ ∀ (h : AH) (fr : Nat), CR Tryz.prog (globM mx) md (.fn 131) [.str s] h fr (.val u) := by
  by_cases c1 : (s.length : Int) > 16384
  · refine ⟨.tup [.nls, .int .i64 0, .int .i64 54], .inr ⟨by omega, rfl⟩, fun h fr => ?_⟩
    refine CR.plain (rs := [.tmp 2, .tmp 3, .tmp 4]) Tryz.func131 rfl rfl rfl rfl rfl rfl rfl ?_ h fr
    simp -implicitDefEqProofs only [wpC_seq, rowsA, if_true, if_false, opnd, ofVal, ofVal1, layArgs, Nat.reduceAdd, reduceIte, Nat.reduceEqDiff, reduceCtorEq, rowsB, cellsG, Nat.reduceMul, len_str u9, c1]
    rfl
  · obtain ⟨u, ⟨row, n, e, rfl, hcl, hr⟩, hc⟩ := read_c (mx := mx) s (by omega)
    refine ⟨_, .inl ⟨by omega, row, n, e, rfl, hcl, hr⟩, fun h fr => ?_⟩
    refine CR.plain (rs := [.tmp 2, .tmp 3, .tmp 4]) Tryz.func131 rfl rfl rfl rfl rfl rfl (by simp [PV.clean, PV.cleans, hcl]) ?_ h fr
    simp -implicitDefEqProofs only [wpC_seq, rowsA, if_true, if_false, opnd, ofVal, ofVal1, layArgs, Nat.reduceAdd, reduceIte, Nat.reduceEqDiff, reduceCtorEq, rowsB, cellsG, Nat.reduceMul, len_str u9, c1, goO_known hc]
    rfl
theorem ldT (o : Tkn) (h : AH) : idaO Tryz.prog h 121 (rowV Tkn.pv [o]) (.int .i64 0) = some (.q (.rop [.int .i64 o.k, .str o.t, .int .i64 o.x, .int .i64 o.y])) := by
  rw [rowV, ida_roN u121 sz125 (by omega) (by simp)]
  rfl
theorem lenT (o : Tkn) : lenO Tryz.prog [rowV Tkn.pv [o]] [121] = some (.q (.int .i64 1)) := len_ro u121
theorem ne01 : decide ((0 : Int) = 1) = false := rfl
theorem eq11 : decide ((1 : Int) = 1) = true := rfl
def nameOk (s : List UInt8) : Prop := s.length ≤ 16384 ∧ full s
theorem one_c (s : List UInt8) (hs : s.length ≤ 9223372036854775807) : ∃ z, (z = 1 ↔ nameOk s) ∧ ∀ (h : AH) (fr : Nat), CR Tryz.prog (globM mx) md (.fn 126) [.str s] h fr (.val (.int .i64 z)) := by
  have no : ∀ {X : Prop}, ¬ full s → X → ((-1 : Int) = 1 ↔ nameOk s) := fun q _ => ⟨fun e => absurd e (by decide), fun e => absurd e.2 q⟩
  obtain ⟨u, ⟨hle, row, n, e, rfl, hcl, hr, he⟩ | ⟨hle, rfl⟩, hc⟩ := tokens_c (mx := mx) s hs
  rotate_left
  · refine ⟨-1, ⟨fun e => absurd e (by decide), fun e => absurd e.1 hle⟩, fun h fr => CR.plain (rs := [.tmp 2]) Tryz.func126 rfl rfl rfl rfl rfl rfl rfl ?_ h fr⟩
    have c1 : ¬ ((54 : Int) = 0) := by decide
    simp -implicitDefEqProofs only [wpC_seq, rowsA, if_true, if_false, opnd, ofVal, ofVal1, layArgs, Nat.reduceAdd, reduceIte, Nat.reduceEqDiff, reduceCtorEq, rowsB, cellsG, Nat.reduceMul, goO_known hc, c1]
  by_cases c1 : e = 0
  · rcases hr c1 with ⟨rfl, hnf⟩ | ⟨ts, ⟨hts, hh, h1⟩, rfl⟩
    · refine ⟨-1, no hnf trivial, fun h fr => CR.plain (rs := [.tmp 2]) Tryz.func126 rfl rfl rfl rfl rfl rfl rfl ?_ h fr⟩
      simp -implicitDefEqProofs only [wpC_seq, rowsA, if_true, if_false, opnd, ofVal, ofVal1, layArgs, Nat.reduceAdd, reduceIte, Nat.reduceEqDiff, reduceCtorEq, rowsB, cellsG, Nat.reduceMul, goO_known hc, c1, len_nls u121, ne01]
    · by_cases c2 : (ts.length : Int) = 1
      · obtain ⟨o, rfl⟩ : ∃ o, ts = [o] := by
          match ts, c2 with
          | [o], _ => exact ⟨o, rfl⟩
          | _ :: _ :: _, q => simp only [List.length_cons] at q; omega
          | [], _ => exact absurd rfl hts
        obtain ⟨⟨tp1, tp2⟩, x0, x1, x2⟩ := hh _ _ rfl
        by_cases c3 : o.x > 0
        · refine ⟨-1, no (fun q => by have := x2 q.2.1; omega) trivial, fun h fr => CR.plain (rs := [.tmp 2]) Tryz.func126 rfl rfl rfl rfl rfl rfl rfl ?_ h fr⟩
          simp -implicitDefEqProofs only [wpC_seq, rowsA, if_true, if_false, opnd, ofVal, ofVal1, layArgs, Nat.reduceAdd, reduceIte, Nat.reduceEqDiff, reduceCtorEq, rowsB, cellsG, Nat.reduceMul, goO_known hc, c1, lenT, ldT, ne01, eq11, fda_rop o125_0, fda_rop o125_2, fda_rop o125_3, loadO_one ag3 sz3, len_str u9, c3]
        · have ex : o.x = 0 := by omega
          rw [ex] at tp1 tp2 x1
          by_cases c4 : o.y < (s.length : Int)
          · refine ⟨-1, no (fun q => by have q1 := (tp1 q.2.1).2; have q2 := q.2.2; omega) trivial, fun h fr => CR.plain (rs := [.tmp 2]) Tryz.func126 rfl rfl rfl rfl rfl rfl rfl ?_ h fr⟩
            simp -implicitDefEqProofs only [wpC_seq, rowsA, if_true, if_false, opnd, ofVal, ofVal1, layArgs, Nat.reduceAdd, reduceIte, Nat.reduceEqDiff, reduceCtorEq, rowsB, cellsG, Nat.reduceMul, goO_known hc, c1, lenT, ldT, ne01, eq11, fda_rop o125_0, fda_rop o125_2, fda_rop o125_3, loadO_one ag3 sz3, len_str u9, c3, c4]
          · have hk : o.k = 1 ↔ nameOk s := by
              refine ⟨fun q => ⟨hle, by omega, tp2 q, ?_⟩, fun q => (tp1 q.2.2.1).1⟩
              have q1 := (tp1 (tp2 q)).2
              have q2 := runLen_le (lettersL ++ digitsL) (s.drop (0 : Int).toNat)
              have q3 : nameLen s 0 = runLen (lettersL ++ digitsL) (s.drop (0 : Int).toNat) := rfl
              rw [List.length_drop] at q2
              omega
            refine ⟨o.k, hk, fun h fr => CR.plain (rs := [.tmp 2]) Tryz.func126 rfl rfl rfl rfl rfl rfl rfl ?_ h fr⟩
            simp -implicitDefEqProofs only [wpC_seq, rowsA, if_true, if_false, opnd, ofVal, ofVal1, layArgs, Nat.reduceAdd, reduceIte, Nat.reduceEqDiff, reduceCtorEq, rowsB, cellsG, Nat.reduceMul, goO_known hc, c1, lenT, ldT, ne01, eq11, fda_rop o125_0, fda_rop o125_2, fda_rop o125_3, loadO_one ag3 sz3, len_str u9, c3, c4]
      · refine ⟨-1, no (fun q => c2 (by have := h1 q; omega)) trivial, fun h fr => CR.plain (rs := [.tmp 2]) Tryz.func126 rfl rfl rfl rfl rfl rfl rfl ?_ h fr⟩
        simp -implicitDefEqProofs only [wpC_seq, rowsA, if_true, if_false, opnd, ofVal, ofVal1, layArgs, Nat.reduceAdd, reduceIte, Nat.reduceEqDiff, reduceCtorEq, rowsB, cellsG, Nat.reduceMul, goO_known hc, c1, rowV, len_ro u121, c2]
  · refine ⟨-1, no (fun q => c1 (he q)) trivial, fun h fr => CR.plain (rs := [.tmp 2]) Tryz.func126 rfl rfl rfl rfl rfl rfl rfl ?_ h fr⟩
    simp -implicitDefEqProofs only [wpC_seq, rowsA, if_true, if_false, opnd, ofVal, ofVal1, layArgs, Nat.reduceAdd, reduceIte, Nat.reduceEqDiff, reduceCtorEq, rowsB, cellsG, Nat.reduceMul, goO_known hc, c1]
instance (s : List UInt8) : Decidable (full s) := by unfold full isLet; infer_instance
instance (s : List UInt8) : Decidable (nameOk s) := by unfold nameOk; infer_instance
def nameB (_mx : Int) (s : List UInt8) : Bool := decide (nameOk s)
theorem name_c (s : List UInt8) (hs : s.length ≤ 9223372036854775807) (h : AH) (fr : Nat) : CR Tryz.prog (globM mx) md (.fn 117) [.str s] h fr (.val (.bool (nameB mx s))) := by
  obtain ⟨z, hz, hc⟩ := one_c (mx := mx) s hs
  unfold nameB
  by_cases c1 : z = 1
  · rw [decide_eq_true (hz.1 c1)]
    refine CR.plain (rs := [.tmp 2]) Tryz.func117 rfl rfl rfl rfl rfl rfl rfl ?_ h fr
    simp -implicitDefEqProofs only [wpC_seq, rowsA, if_true, if_false, opnd, ofVal, ofVal1, layArgs, Nat.reduceAdd, reduceIte, Nat.reduceEqDiff, reduceCtorEq, rowsB, cellsG, Nat.reduceMul, goO_known hc, c1, eq11]
  · rw [decide_eq_false fun q => c1 (hz.2 q)]
    refine CR.plain (rs := [.tmp 2]) Tryz.func117 rfl rfl rfl rfl rfl rfl rfl ?_ h fr
    simp -implicitDefEqProofs only [wpC_seq, rowsA, if_true, if_false, opnd, ofVal, ofVal1, layArgs, Nat.reduceAdd, reduceIte, Nat.reduceEqDiff, reduceCtorEq, rowsB, cellsG, Nat.reduceMul, goO_known hc, c1]
end Go.Proofs.YtcbngkmmmfaaoaaGreatDoor
namespace Go.Proofs.YtcbngkmmmfaaoaaGreatDoor
open Go.RowKit Go.Lib Go.Ac
set_option linter.unusedSimpArgs false
set_option maxRecDepth 100000
variable {mx : Int}

theorem strs_flat (L : List (List UInt8)) : flat strV L = L.map PV.str := by
  induction L with
  | nil => rfl
  | cons x L ih => rw [flat, ih]; rfl
def invIdxS (L : List (List UInt8)) (y : List UInt8) (k : Nat) (F : Fr) (_ : AH) : Prop := ∃ i : Nat, i + k = L.length ∧ F.at 0 = rowV strV L ∧ F.at 1 = .str y ∧ F.at 7 = .int .i64 L.length ∧ F.at 8 = .int .i64 i ∧ idx (fun x => decide (y = x)) (L.drop i) i = idx (fun x => decide (y = x)) L 0
theorem indexS_c (L : List (List UInt8)) (hl : L.length ≤ 9223372036854775807) (y : List UInt8) (h : AH) (fr : Nat) : CR Tryz.prog (globM mx) md (.fn 127) [rowV strV L, .str y] h fr (.val (.int .i64 (idx (fun x => decide (y = x)) L 0))) := by
  refine CR.plain (rs := [.tmp 4]) Tryz.func127 rfl rfl rfl rfl rfl rfl rfl ?_ h fr
  simp -implicitDefEqProofs only [wpC_seq, rowsA, if_true, if_false, opnd, ofVal, ofVal1, layArgs, Nat.reduceAdd, reduceIte, Nat.reduceEqDiff, reduceCtorEq, rowsB, cellsG, Nat.reduceMul, rowV, len_ro u43]
  refine wpC_loop (invIdxS L y) (k := L.length) ⟨0, by omega, ?_, ?_, ?_, ?_, rfl⟩ ?_
  · simp only [Fr.at_set, Nat.reduceEqDiff, reduceIte, reduceCtorEq]; rfl
  · simp only [Fr.at_set, Nat.reduceEqDiff, reduceIte, reduceCtorEq]
  · simp only [Fr.at_set, Nat.reduceEqDiff, reduceIte, reduceCtorEq]
  · simp only [Fr.at_set, Nat.reduceEqDiff, reduceIte, reduceCtorEq]; rfl
  rintro k F h' ⟨i, hi, f0, f1, f7, f8, hx⟩
  cases k with
  | zero =>
    have c1 : decide ((i : Int) < (L.length : Int)) = false := decide_eq_false (by omega)
    rw [idx_end _ L i (by omega)] at hx
    simp -implicitDefEqProofs only [wpC_seq, rowsA, if_true, if_false, opnd, ofVal, ofVal1, layArgs, Nat.reduceAdd, reduceIte, Nat.reduceEqDiff, reduceCtorEq, rowsB, cellsG, Nat.reduceMul, f0, f1, f7, f8, c1, ← hx]
  | succ k =>
    have c1 : decide ((i : Int) < (L.length : Int)) = true := decide_eq_true (by omega)
    obtain ⟨o, ho⟩ : ∃ o, L[i]? = some o := ⟨L[i], List.getElem?_eq_getElem (by omega)⟩
    obtain ⟨r, hr⟩ := flat_drop (f := strV) (z := 1) (fun _ => rfl) L i o ho
    rw [idx_drop _ L i o ho] at hx
    have w := IntWalk.i64_in ((i : Int) + 1) (by omega)
    have hld : loadO Tryz.prog 9 (some (strV o ++ r)) = some (.q (.str o)) := loadO_one ag9 sz9
    by_cases hpo : y = o
    · rw [if_pos (by simpa using hpo)] at hx
      simp -implicitDefEqProofs only [wpC_seq, rowsA, if_true, if_false, opnd, ofVal, ofVal1, layArgs, Nat.reduceAdd, reduceIte, Nat.reduceEqDiff, reduceCtorEq, rowsB, cellsG, Nat.reduceMul, f0, f1, f7, f8, c1, rowV, ida_roN (n := L.length) (i := (i : Int)) u43 sz9 (by omega) (by omega), Int.toNat_natCast, hr, hld, decide_eq_true hpo, ← hx]
    · rw [if_neg (by simpa using hpo)] at hx
      simp -implicitDefEqProofs only [wpC_seq, rowsA, if_true, if_false, opnd, ofVal, ofVal1, layArgs, Nat.reduceAdd, reduceIte, Nat.reduceEqDiff, reduceCtorEq, rowsB, cellsG, Nat.reduceMul, f0, f1, f7, f8, c1, rowV, ida_roN (n := L.length) (i := (i : Int)) u43 sz9 (by omega) (by omega), Int.toNat_natCast, hr, hld, hpo, w]
      refine ⟨k, by omega, i + 1, by omega, ?_, ?_, ?_, ?_, hx⟩
      · simp only [Fr.at_set, Nat.reduceEqDiff, reduceIte, reduceCtorEq, f0]
      · simp only [Fr.at_set, Nat.reduceEqDiff, reduceIte, reduceCtorEq, f1]
      · simp only [Fr.at_set, Nat.reduceEqDiff, reduceIte, reduceCtorEq, f7]
      · simp only [Fr.at_set, Nat.reduceEqDiff, reduceIte, reduceCtorEq]; rfl
def memB (y : List UInt8) (L : List (List UInt8)) : Bool := decide (0 ≤ idx (fun x => decide (y = x)) L 0)
theorem contains_c (L : List (List UInt8)) (hl : L.length ≤ 9223372036854775807) (y : List UInt8) (h : AH) (fr : Nat) : CR Tryz.prog (globM mx) md (.fn 118) [rowV strV L, .str y] h fr (.val (.bool (memB y L))) := by
  refine CR.plain (rs := [.tmp 4]) Tryz.func118 rfl rfl rfl rfl rfl rfl rfl ?_ h fr
  simp -implicitDefEqProofs only [wpC_seq, rowsA, if_true, if_false, opnd, ofVal, ofVal1, layArgs, Nat.reduceAdd, reduceIte, Nat.reduceEqDiff, reduceCtorEq, rowsB, cellsG, Nat.reduceMul, goO_known (indexS_c L hl y), memB, ge_iff_le]

def endsB (s p : List UInt8) : Bool := decide (p.length ≤ s.length) && decide (s.drop (s.length - p.length) = p)
theorem ends1_c (s p : List UInt8) (hs : s.length ≤ 9223372036854775807) (h : AH) (fr : Nat) : CR Tryz.prog (globM mx) md (.fn 125) [.str s, .str p] h fr (.val (.bool (endsB s p))) := by
  refine CR.plain (rs := [.tmp 4]) Tryz.func125 rfl rfl rfl rfl rfl rfl rfl ?_ h fr
  by_cases c1 : (s.length : Int) ≥ (p.length : Int)
  · have c2 : p.length ≤ s.length := by omega
    have w := IntWalk.i64_in ((s.length : Int) - (p.length : Int)) (by omega)
    have e : ((s.length : Int) - (p.length : Int)).toNat = s.length - p.length := by omega
    simp -implicitDefEqProofs only [wpC_seq, rowsA, if_true, if_false, opnd, ofVal, ofVal1, layArgs, Nat.reduceAdd, reduceIte, Nat.reduceEqDiff, reduceCtorEq, rowsB, cellsG, Nat.reduceMul, len_str u9, c1, w, slice_from (k := .i64) (l := s) (i := (s.length : Int) - (p.length : Int)) u9 (by omega) (by omega), e, endsB, c2, Bool.true_and]
  · have c2 : ¬ (p.length ≤ s.length) := by omega
    simp -implicitDefEqProofs only [wpC_seq, rowsA, if_true, if_false, opnd, ofVal, ofVal1, layArgs, Nat.reduceAdd, reduceIte, Nat.reduceEqDiff, reduceCtorEq, rowsB, cellsG, Nat.reduceMul, len_str u9, c1, endsB, c2, Bool.false_and]
theorem ends_c (s p : List UInt8) (hs : s.length ≤ 9223372036854775807) (h : AH) (fr : Nat) : CR Tryz.prog (globM mx) md (.fn 116) [.str s, .str p] h fr (.val (.bool (endsB s p))) := by
  refine CR.plain (rs := [.tmp 4]) Tryz.func116 rfl rfl rfl rfl rfl rfl rfl ?_ h fr
  simp -implicitDefEqProofs only [wpC_seq, rowsA, if_true, if_false, opnd, ofVal, ofVal1, layArgs, Nat.reduceAdd, reduceIte, Nat.reduceEqDiff, reduceCtorEq, rowsB, cellsG, Nat.reduceMul, goO_known (ends1_c s p hs)]

noncomputable def nmB (mx : Int) (s : List UInt8) (L : List (List UInt8)) : Bool := nameB mx s && decide (s.length ≤ 24) && !(hasP s [95, 95]) && !(memB s L)
theorem nm_c (s : List UInt8) (hs : s.length ≤ 9223372036854775807) (L : List (List UInt8)) (hl : L.length ≤ 9223372036854775807) (h : AH) (fr : Nat) : CR Tryz.prog (globM mx) md (.fn 85) [.str s, rowV strV L] h fr (.val (.bool (nmB mx s L))) := by
  refine CR.plain (rs := [.tmp 4]) Tryz.func85 rfl rfl rfl rfl rfl rfl rfl ?_ h fr
  unfold nmB
  cases c1 : nameB mx s with
  | false => simp -implicitDefEqProofs only [wpC_seq, rowsA, if_true, if_false, opnd, ofVal, ofVal1, layArgs, Nat.reduceAdd, reduceIte, Nat.reduceEqDiff, reduceCtorEq, rowsB, cellsG, Nat.reduceMul, goO_known (name_c s hs), c1, Bool.false_and]
  | true =>
    by_cases c2 : (s.length : Int) ≤ 24
    · have c2' : s.length ≤ 24 := by omega
      cases c3 : hasP s [95, 95] with
      | true => simp -implicitDefEqProofs only [wpC_seq, rowsA, if_true, if_false, opnd, ofVal, ofVal1, layArgs, Nat.reduceAdd, reduceIte, Nat.reduceEqDiff, reduceCtorEq, rowsB, cellsG, Nat.reduceMul, goO_known (name_c s hs), c1, len_str u9, c2, c2', goO_known (hasP_c s [95, 95]), c3, Bool.true_and, Bool.and_false, Bool.false_and]
      | false => simp -implicitDefEqProofs only [wpC_seq, rowsA, if_true, if_false, opnd, ofVal, ofVal1, layArgs, Nat.reduceAdd, reduceIte, Nat.reduceEqDiff, reduceCtorEq, rowsB, cellsG, Nat.reduceMul, goO_known (name_c s hs), c1, len_str u9, c2, c2', goO_known (hasP_c s [95, 95]), c3, goO_known (contains_c L hl s), Bool.true_and]
    · have c2' : ¬ s.length ≤ 24 := by omega
      simp -implicitDefEqProofs only [wpC_seq, rowsA, if_true, if_false, opnd, ofVal, ofVal1, layArgs, Nat.reduceAdd, reduceIte, Nat.reduceEqDiff, reduceCtorEq, rowsB, cellsG, Nat.reduceMul, goO_known (name_c s hs), c1, len_str u9, c2, c2', Bool.true_and, Bool.false_and, Bool.and_false]
theorem nm_sh (s : List UInt8) (hs : s.length ≤ 9223372036854775807) (L : List (List UInt8)) (hl : L.length ≤ 9223372036854775807) {id : Nat} {h : AH} (hg : h.get id = some (.cells 9 1 false (L.map PV.str))) (fr : Nat) :
    CR Tryz.prog (globM mx) md (.fn 85) [.str s, .ow id L.length 0 L.length] h fr (.sh (.bool (nmB mx s L)) (h.set id (.cells 9 1 true (L.map PV.str)))) := by
  refine CR.viaFrz (args' := [.str s, rowV strV L]) Tryz.func85 rfl rfl rfl rfl ?_ rfl (fun h fr => nm_c s hs L hl h fr) fr
  have e : frz 100 (.ow id L.length 0 L.length) h = some (.ro (L.map PV.str) L.length, h.set id (.cells 9 1 true (L.map PV.str))) := frz_ow (dd := 99) hg (by rw [List.length_map]) (cleans_strs L)
  simp only [frzL, frz_clean h (show (PV.str s).clean = true from rfl), e, rowV, strs_flat]
def frontL : List (List UInt8) := [[65, 100, 100], [80, 97, 116, 99, 104]]
def tailL : List (List UInt8) := [[70, 105, 108, 116, 101, 114], [79, 114, 100, 101, 114], [79, 114, 100, 101, 114, 97, 98, 108, 101]]
def notL : List (List UInt8) := [[81, 117, 101, 114, 121], [77, 117, 116, 97, 116, 105, 111, 110], [83, 117, 98, 115, 99, 114, 105, 112, 116, 105, 111, 110], [73, 68]]
noncomputable def ownB (mx : Int) (s : List UInt8) : Bool := frontL.all (fun p => !(hasP s p)) && tailL.all (fun p => !(endsB s p)) && nmB mx s notL && !(scalar s)
theorem bd43_2 (fr : Nat) (a b : List UInt8) : buildO Tryz.prog fr 43 2 [(0, .str a), (1, .str b)] = some (.w (.ow fr 2 0 2) fr (.cells 9 1 false [.str a, .str b])) := by kernel_rfl
theorem bd43_3 (fr : Nat) (a b c : List UInt8) : buildO Tryz.prog fr 43 3 [(0, .str a), (1, .str b), (2, .str c)] = some (.w (.ow fr 3 0 3) fr (.cells 9 1 false [.str a, .str b, .str c])) := by kernel_rfl
theorem bd43_4 (fr : Nat) (a b c d : List UInt8) : buildO Tryz.prog fr 43 4 [(0, .str a), (1, .str b), (2, .str c), (3, .str d)] = some (.w (.ow fr 4 0 4) fr (.cells 9 1 false [.str a, .str b, .str c, .str d])) := by kernel_rfl
def OwnA (s : List UInt8) (F : Fr) (_ : AH) : Prop := F.at 0 = .str s ∧ frontL.all (fun p => !(hasP s p)) = true
def OwnB (s : List UInt8) (F : Fr) (_ : AH) : Prop := F.at 0 = .str s ∧ frontL.all (fun p => !(hasP s p)) = true ∧ tailL.all (fun p => !(endsB s p)) = true
def invOwn (s : List UInt8) (L : List (List UInt8)) (q : List UInt8 → Bool) (tr tn ti : Nat) (k : Nat) (F : Fr) (h : AH) : Prop := ∃ (i B : Nat), i + k = L.length ∧ F.at 0 = .str s ∧ F.at tr = .ow B L.length 0 L.length ∧ F.at tn = .int .i64 L.length ∧ F.at ti = .int .i64 i ∧ h.get B = some (.cells 9 1 false (L.map PV.str)) ∧ (L.take i).all q = true
theorem take_all {α : Type} {q : α → Bool} {L : List α} {i : Nat} {o : α} (ho : L[i]? = some o) (h : (L.take i).all q = true) (hq : q o = true) : (L.take (i + 1)).all q = true := by
  rw [List.take_add_one, ho, List.all_append, h]
  simp [hq]
theorem all_false {α : Type} {q : α → Bool} {L : List α} {i : Nat} {o : α} (ho : L[i]? = some o) (hq : q o = false) : L.all q = false := by
  rw [List.all_eq_false]
  exact ⟨o, List.mem_of_getElem? ho, by simp [hq]⟩
theorem own_c (s : List UInt8) (hs : s.length ≤ 9223372036854775807) (h : AH) (fr : Nat) : CR Tryz.prog (globM mx) md (.fn 83) [.str s] h fr (.val (.bool (ownB mx s))) := by
  refine CR.plain (rs := [.tmp 2]) Tryz.func83 rfl rfl rfl rfl rfl rfl rfl ?_ h fr
  rw [wpC_seq]; simp -implicitDefEqProofs only [rowsA, if_true, if_false, opnd, ofVal, ofVal1, layArgs, Nat.reduceAdd, reduceIte, Nat.reduceEqDiff, reduceCtorEq, rowsB, cellsG, Nat.reduceMul]
  refine wpC_then (OwnA s) ?_ ?_
  · simp -implicitDefEqProofs only [wpC_seq, rowsA, if_true, if_false, opnd, ofVal, ofVal1, layArgs, Nat.reduceAdd, reduceIte, Nat.reduceEqDiff, reduceCtorEq, rowsB, cellsG, Nat.reduceMul, bd43_2, len_ow u43]
    refine wpC_loop (invOwn s frontL (fun p => !(hasP s p)) 7 8 9) (k := frontL.length) ⟨0, 1, by omega, ?_, ?_, ?_, ?_, ?_, rfl⟩ ?_
    · simp only [Fr.at_set, Nat.reduceEqDiff, reduceIte, reduceCtorEq]
    · simp only [Fr.at_set, Nat.reduceEqDiff, reduceIte, reduceCtorEq]; rfl
    · simp only [Fr.at_set, Nat.reduceEqDiff, reduceIte, reduceCtorEq]; rfl
    · simp only [Fr.at_set, Nat.reduceEqDiff, reduceIte, reduceCtorEq]; rfl
    · simp only [AH.get_set, if_true]; rfl
    rintro k F h' ⟨i, B, ik, f0, f7, f8, f9, g, hq⟩
    cases k with
    | zero =>
      have c1 : decide ((i : Int) < (frontL.length : Int)) = false := decide_eq_false (by omega)
      rw [List.take_of_length_le (by omega)] at hq
      simp -implicitDefEqProofs only [wpC_seq, rowsA, if_true, if_false, opnd, ofVal, ofVal1, layArgs, Nat.reduceAdd, reduceIte, Nat.reduceEqDiff, reduceCtorEq, rowsB, cellsG, Nat.reduceMul, rowsR, f8, f9, c1]
      exact ⟨by simp only [Fr.at_set, Nat.reduceEqDiff, reduceIte, reduceCtorEq, f0], hq⟩
    | succ k =>
      have c1 : decide ((i : Int) < (frontL.length : Int)) = true := decide_eq_true (by omega)
      have d2 : i < frontL.length := by omega
      obtain ⟨o, ho⟩ : ∃ o, frontL[i]? = some o := ⟨frontL[i], List.getElem?_eq_getElem d2⟩
      have hgd : frontL.getD i [] = o := by rw [List.getD_eq_getElem?_getD, ho]; rfl
      have w := IntWalk.i64_in ((i : Int) + 1) (by have : frontL.length ≤ 3 := by decide
                                                   omega)
      cases hp : hasP s o with
      | true =>
        have hall : frontL.all (fun p => !(hasP s p)) = false := all_false ho (by simp [hp])
        simp -implicitDefEqProofs only [wpC_seq, rowsA, if_true, if_false, opnd, ofVal, ofVal1, layArgs, Nat.reduceAdd, reduceIte, Nat.reduceEqDiff, reduceCtorEq, rowsB, cellsG, Nat.reduceMul, rowsR, f0, f7, f8, f9, c1, ida43 d2, g, List.length_map, ld9L d2, hgd, goO_known (hasP_c s o), hp]
        rw [ownB, hall]
        simp only [Bool.false_and, Bool.and_false]
      | false =>
        simp -implicitDefEqProofs only [wpC_seq, rowsA, if_true, if_false, opnd, ofVal, ofVal1, layArgs, Nat.reduceAdd, reduceIte, Nat.reduceEqDiff, reduceCtorEq, rowsB, cellsG, Nat.reduceMul, rowsR, f0, f7, f8, f9, c1, ida43 d2, g, List.length_map, ld9L d2, hgd, goO_known (hasP_c s o), hp, w]
        refine ⟨k, by omega, i + 1, B, by omega, ?_, ?_, ?_, ?_, ?_, take_all ho hq (by simp [hp])⟩
        · simp only [Fr.at_set, Nat.reduceEqDiff, reduceIte, reduceCtorEq, f0]
        · simp only [Fr.at_set, Nat.reduceEqDiff, reduceIte, reduceCtorEq, f7]
        · simp only [Fr.at_set, Nat.reduceEqDiff, reduceIte, reduceCtorEq, f8]
        · simp only [Fr.at_set, Nat.reduceEqDiff, reduceIte, reduceCtorEq]; rfl
        · simp only [AH.get_up]; exact g
  rintro F h1 ⟨f0, q1⟩
  refine wpC_then (OwnB s) ?_ ?_
  · simp -implicitDefEqProofs only [wpC_seq, rowsA, if_true, if_false, opnd, ofVal, ofVal1, layArgs, Nat.reduceAdd, reduceIte, Nat.reduceEqDiff, reduceCtorEq, rowsB, cellsG, Nat.reduceMul, bd43_3, len_ow u43]
    refine wpC_loop (invOwn s tailL (fun p => !(endsB s p)) 17 18 19) (k := tailL.length) ⟨0, h1.next, by omega, ?_, ?_, ?_, ?_, ?_, rfl⟩ ?_
    · simp only [Fr.at_set, Nat.reduceEqDiff, reduceIte, reduceCtorEq, f0]
    · simp only [Fr.at_set, Nat.reduceEqDiff, reduceIte, reduceCtorEq]; rfl
    · simp only [Fr.at_set, Nat.reduceEqDiff, reduceIte, reduceCtorEq]; rfl
    · simp only [Fr.at_set, Nat.reduceEqDiff, reduceIte, reduceCtorEq]; rfl
    · simp only [AH.get_set, if_true]; rfl
    rintro k F h' ⟨i, B, ik, f0, f7, f8, f9, g, hq⟩
    cases k with
    | zero =>
      have c1 : decide ((i : Int) < (tailL.length : Int)) = false := decide_eq_false (by omega)
      rw [List.take_of_length_le (by omega)] at hq
      simp -implicitDefEqProofs only [wpC_seq, rowsA, if_true, if_false, opnd, ofVal, ofVal1, layArgs, Nat.reduceAdd, reduceIte, Nat.reduceEqDiff, reduceCtorEq, rowsB, cellsG, Nat.reduceMul, rowsR, f8, f9, c1]
      exact ⟨by simp only [Fr.at_set, Nat.reduceEqDiff, reduceIte, reduceCtorEq, f0], q1, hq⟩
    | succ k =>
      have c1 : decide ((i : Int) < (tailL.length : Int)) = true := decide_eq_true (by omega)
      have d2 : i < tailL.length := by omega
      obtain ⟨o, ho⟩ : ∃ o, tailL[i]? = some o := ⟨tailL[i], List.getElem?_eq_getElem d2⟩
      have hgd : tailL.getD i [] = o := by rw [List.getD_eq_getElem?_getD, ho]; rfl
      have w := IntWalk.i64_in ((i : Int) + 1) (by have : tailL.length ≤ 3 := by decide
                                                   omega)
      cases hp : endsB s o with
      | true =>
        have hall : tailL.all (fun p => !(endsB s p)) = false := all_false ho (by simp [hp])
        simp -implicitDefEqProofs only [wpC_seq, rowsA, if_true, if_false, opnd, ofVal, ofVal1, layArgs, Nat.reduceAdd, reduceIte, Nat.reduceEqDiff, reduceCtorEq, rowsB, cellsG, Nat.reduceMul, rowsR, f0, f7, f8, f9, c1, ida43 d2, g, List.length_map, ld9L d2, hgd, goO_known (ends_c s o hs), hp]
        rw [ownB, hall]
        simp only [Bool.false_and, Bool.and_false]
      | false =>
        simp -implicitDefEqProofs only [wpC_seq, rowsA, if_true, if_false, opnd, ofVal, ofVal1, layArgs, Nat.reduceAdd, reduceIte, Nat.reduceEqDiff, reduceCtorEq, rowsB, cellsG, Nat.reduceMul, rowsR, f0, f7, f8, f9, c1, ida43 d2, g, List.length_map, ld9L d2, hgd, goO_known (ends_c s o hs), hp, w]
        refine ⟨k, by omega, i + 1, B, by omega, ?_, ?_, ?_, ?_, ?_, take_all ho hq (by simp [hp])⟩
        · simp only [Fr.at_set, Nat.reduceEqDiff, reduceIte, reduceCtorEq, f0]
        · simp only [Fr.at_set, Nat.reduceEqDiff, reduceIte, reduceCtorEq, f7]
        · simp only [Fr.at_set, Nat.reduceEqDiff, reduceIte, reduceCtorEq, f8]
        · simp only [Fr.at_set, Nat.reduceEqDiff, reduceIte, reduceCtorEq]; rfl
        · simp only [AH.get_up]; exact g
  rintro F h2 ⟨f0, q1, q2⟩
  have hnm := fun (h : AH) => nm_sh (mx := mx) s hs notL (by decide) (id := h2.next + 1) (h := h)
  cases c1 : nmB mx s notL with
  | false =>
    simp -implicitDefEqProofs only [wpC_seq, rowsA, if_true, if_false, opnd, ofVal, ofVal1, layArgs, Nat.reduceAdd, reduceIte, Nat.reduceEqDiff, reduceCtorEq, rowsB, cellsG, Nat.reduceMul, rowsR, f0, bd43_4]
    refine goO_shv (hnm _ (by simp only [AH.get_set, if_true]; rfl)) ?_
    simp -implicitDefEqProofs only [wpC_seq, rowsA, if_true, if_false, opnd, ofVal, ofVal1, layArgs, Nat.reduceAdd, reduceIte, Nat.reduceEqDiff, reduceCtorEq, rowsB, cellsG, Nat.reduceMul, rowsR, f0, c1]
    rw [ownB, c1]
    simp only [Bool.false_and, Bool.and_false]
  | true =>
    simp -implicitDefEqProofs only [wpC_seq, rowsA, if_true, if_false, opnd, ofVal, ofVal1, layArgs, Nat.reduceAdd, reduceIte, Nat.reduceEqDiff, reduceCtorEq, rowsB, cellsG, Nat.reduceMul, rowsR, f0, bd43_4]
    refine goO_shv (hnm _ (by simp only [AH.get_set, if_true]; rfl)) ?_
    simp -implicitDefEqProofs only [wpC_seq, rowsA, if_true, if_false, opnd, ofVal, ofVal1, layArgs, Nat.reduceAdd, reduceIte, Nat.reduceEqDiff, reduceCtorEq, rowsB, cellsG, Nat.reduceMul, rowsR, f0, c1, goO_known (scalar_c s)]
    rw [ownB, c1, q1, q2]
    simp only [Bool.true_and]
end Go.Proofs.YtcbngkmmmfaaoaaGreatDoor
namespace Go.Proofs.YtcbngkmmmfaaoaaGreatDoor
open Go.RowKit Go.Lib Go.Ac
set_option linter.unusedSimpArgs false
set_option maxRecDepth 100000
variable {mx : Int}

def RowR {α : Type} (f : α → List PV) (v : PV) (l : List α) : Prop := v = rowV f l ∨ (l = [] ∧ (v = .nls ∨ v = .els))
theorem RowR.clean {α : Type} {f : α → List PV} {v : PV} {l : List α} (h : RowR f v l) : v.clean = true := by
  rcases h with rfl | ⟨_, rfl | rfl⟩ <;> rfl
theorem len_els {t e : TypeId} (hu : Tryz.prog.underlying t = some (.slice e)) : lenO Tryz.prog [.els] [t] = some (.q (.int .i64 0)) := by simp [lenO, lenV, hu]
theorem lss00 : decide ((0 : Int) < 0) = false := rfl
theorem z41q : tyZero Tryz.prog 41 = some [.str [], .nls] := by kernel_rfl
theorem z45q : tyZero Tryz.prog 45 = some [.str [], .nls] := by kernel_rfl
theorem z33q : tyZero Tryz.prog 33 = some [.str [], .str [], .str [], .bool false, .str []] := by kernel_rfl
section
variable {ρ : Operand → PV} {h : AH} {fr : Nat} {d : Option Tmp} {ty : TypeId} {ps : String} {af : Array Edge} {gu : Option (Nat × Bool)}
theorem al41q : aop Tryz.prog ρ h fr ⟨d, .alloc 41, ty, ps, af, gu⟩ = some (.w (.ptr fr 2 0) fr (.cells 41 0 false [.str [], .nls])) := by
  rw [aop_alloc, z41q]; rfl
theorem al45q : aop Tryz.prog ρ h fr ⟨d, .alloc 45, ty, ps, af, gu⟩ = some (.w (.ptr fr 2 0) fr (.cells 45 0 false [.str [], .nls])) := by
  rw [aop_alloc, z45q]; rfl
theorem al33q : aop Tryz.prog ρ h fr ⟨d, .alloc 33, ty, ps, af, gu⟩ = some (.w (.ptr fr 5 0) fr (.cells 33 0 false [.str [], .str [], .str [], .bool false, .str []])) := by
  rw [aop_alloc, z33q]; rfl
end
def invAllF {α : Type} (f : α → List PV) (p : α → Bool) (l : List α) (g : PV) (k : Nat) (F : Fr) (_ : AH) : Prop := ∃ i : Nat, i + k = l.length ∧ F.at 1 = g ∧ F.at 7 = rowV f l ∧ F.at 8 = .int .i64 l.length ∧ F.at 9 = .int .i64 i ∧ (l.take i).all p = true
theorem all_take {α : Type} {p : α → Bool} {l : List α} {i : Nat} (hi : l.length ≤ i) (h : (l.take i).all p = true) : l.all p = true := by rwa [List.take_of_length_le hi] at h
theorem allS_c (p : List UInt8 → Bool) (l : List (List UInt8)) (hl : l.length ≤ 9223372036854775807) {v : PV} (hv : RowR strV v l) (kf : FuncId) (cap : List PV) (hcap : PV.cleans cap = true) (hp : ∀ o ∈ l, ∀ h fr, CR Tryz.prog (globM mx) md (.fn kf) (.str o :: cap) h fr (.val (.bool (p o)))) (h : AH) (fr : Nat) :
    CR Tryz.prog (globM mx) md (.fn 87) [v, .fn (.func kf) [] cap] h fr (.val (.bool (l.all p))) := by
  refine CR.plain (rs := [.tmp 4]) Tryz.func87 rfl rfl rfl rfl rfl (by simp [PV.cleans, PV.clean, hcap, hv.clean]) rfl ?_ h fr
  rcases hv with rfl | ⟨rfl, hv⟩
  rotate_left
  · have hlen : lenO Tryz.prog [v] [43] = some (.q (.int .i64 0)) := by
      rcases hv with rfl | rfl
      · exact len_nls u43
      · exact len_els u43
    simp -implicitDefEqProofs only [wpC_seq, rowsA, if_true, if_false, opnd, ofVal, ofVal1, layArgs, Nat.reduceAdd, reduceIte, Nat.reduceEqDiff, reduceCtorEq, rowsB, cellsG, Nat.reduceMul, hlen]
    refine wpC_loop (fun _ F _ => F.at 8 = .int .i64 0 ∧ F.at 9 = .int .i64 0) (k := 0) ⟨?_, ?_⟩ ?_
    · simp only [Fr.at_set, Nat.reduceEqDiff, reduceIte, reduceCtorEq]
    · simp only [Fr.at_set, Nat.reduceEqDiff, reduceIte, reduceCtorEq]
    rintro k F h' ⟨f8, f9⟩
    simp -implicitDefEqProofs only [wpC_seq, rowsA, if_true, if_false, opnd, ofVal, ofVal1, layArgs, Nat.reduceAdd, reduceIte, Nat.reduceEqDiff, reduceCtorEq, rowsB, cellsG, Nat.reduceMul, f8, f9, lss00]
  simp -implicitDefEqProofs only [wpC_seq, rowsA, if_true, if_false, opnd, ofVal, ofVal1, layArgs, Nat.reduceAdd, reduceIte, Nat.reduceEqDiff, reduceCtorEq, rowsB, cellsG, Nat.reduceMul, rowV, len_ro u43]
  refine wpC_loop (invAllF strV p l (.fn (.func kf) [] cap)) (k := l.length) ⟨0, by omega, ?_, ?_, ?_, ?_, rfl⟩ ?_
  · simp only [Fr.at_set, Nat.reduceEqDiff, reduceIte, reduceCtorEq]
  · simp only [Fr.at_set, Nat.reduceEqDiff, reduceIte, reduceCtorEq]; rfl
  · simp only [Fr.at_set, Nat.reduceEqDiff, reduceIte, reduceCtorEq]
  · simp only [Fr.at_set, Nat.reduceEqDiff, reduceIte, reduceCtorEq]; rfl
  rintro k F h' ⟨i, hi, f1, f7, f8, f9, hx⟩
  cases k with
  | zero =>
    have c1 : decide ((i : Int) < (l.length : Int)) = false := decide_eq_false (by omega)
    simp -implicitDefEqProofs only [wpC_seq, rowsA, if_true, if_false, opnd, ofVal, ofVal1, layArgs, Nat.reduceAdd, reduceIte, Nat.reduceEqDiff, reduceCtorEq, rowsB, cellsG, Nat.reduceMul, f1, f7, f8, f9, c1, all_take (by omega) hx]
  | succ k =>
    have c1 : decide ((i : Int) < (l.length : Int)) = true := decide_eq_true (by omega)
    obtain ⟨o, ho⟩ : ∃ o, l[i]? = some o := ⟨l[i], List.getElem?_eq_getElem (by omega)⟩
    obtain ⟨r, hr⟩ := flat_drop (f := strV) (z := 1) (fun _ => rfl) l i o ho
    have w := IntWalk.i64_in ((i : Int) + 1) (by omega)
    have hld : loadO Tryz.prog 9 (some (strV o ++ r)) = some (.q (.str o)) := loadO_one ag9 sz9
    have hpo' := hp o (List.mem_of_getElem? ho)
    cases hpo : p o with
    | true =>
      simp -implicitDefEqProofs only [wpC_seq, rowsA, if_true, if_false, opnd, ofVal, ofVal1, layArgs, Nat.reduceAdd, reduceIte, Nat.reduceEqDiff, reduceCtorEq, rowsB, cellsG, Nat.reduceMul, f1, f7, f8, f9, c1, rowV, ida_roN (n := l.length) (i := (i : Int)) u43 sz9 (by omega) (by omega), Int.toNat_natCast, hr, hld, goO_known hpo', hpo, w]
      refine ⟨k, by omega, i + 1, by omega, ?_, ?_, ?_, ?_, take_all ho hx hpo⟩
      · simp only [Fr.at_set, Nat.reduceEqDiff, reduceIte, reduceCtorEq, f1]
      · simp only [Fr.at_set, Nat.reduceEqDiff, reduceIte, reduceCtorEq, f7]
      · simp only [Fr.at_set, Nat.reduceEqDiff, reduceIte, reduceCtorEq, f8]
      · simp only [Fr.at_set, Nat.reduceEqDiff, reduceIte, reduceCtorEq]; rfl
    | false =>
      simp -implicitDefEqProofs only [wpC_seq, rowsA, if_true, if_false, opnd, ofVal, ofVal1, layArgs, Nat.reduceAdd, reduceIte, Nat.reduceEqDiff, reduceCtorEq, rowsB, cellsG, Nat.reduceMul, f1, f7, f8, f9, c1, rowV, ida_roN (n := l.length) (i := (i : Int)) u43 sz9 (by omega) (by omega), Int.toNat_natCast, hr, hld, goO_known hpo', hpo, all_false ho hpo]
theorem allO_c {α : Type} (f : α → List PV) (hf : ∀ x, (f x).length = 2) (hgo : ∀ x, (PV.agg (f x)).goes = true) (p : α → Bool) (l : List α) (hl : l.length ≤ 9223372036854775807) {v : PV} (hv : RowR f v l) (kf : FuncId) (cap : List PV) (hcap : PV.cleans cap = true) (hp : ∀ o ∈ l, ∀ h fr, CR Tryz.prog (globM mx) md (.fn kf) (.agg (f o) :: cap) h fr (.val (.bool (p o)))) (h : AH) (fr : Nat) :
    CR Tryz.prog (globM mx) md (.fn 78) [v, .fn (.func kf) [] cap] h fr (.val (.bool (l.all p))) := by
  refine CR.plain (rs := [.tmp 4]) Tryz.func78 rfl rfl rfl rfl rfl (by simp [PV.cleans, PV.clean, hcap, hv.clean]) rfl ?_ h fr
  rcases hv with rfl | ⟨rfl, hv⟩
  rotate_left
  · have hlen : lenO Tryz.prog [v] [22] = some (.q (.int .i64 0)) := by
      rcases hv with rfl | rfl
      · exact len_nls u22
      · exact len_els u22
    simp -implicitDefEqProofs only [wpC_seq, rowsA, if_true, if_false, opnd, ofVal, ofVal1, layArgs, Nat.reduceAdd, reduceIte, Nat.reduceEqDiff, reduceCtorEq, rowsB, cellsG, Nat.reduceMul, hlen]
    refine wpC_loop (fun _ F _ => F.at 8 = .int .i64 0 ∧ F.at 9 = .int .i64 0) (k := 0) ⟨?_, ?_⟩ ?_
    · simp only [Fr.at_set, Nat.reduceEqDiff, reduceIte, reduceCtorEq]
    · simp only [Fr.at_set, Nat.reduceEqDiff, reduceIte, reduceCtorEq]
    rintro k F h' ⟨f8, f9⟩
    simp -implicitDefEqProofs only [wpC_seq, rowsA, if_true, if_false, opnd, ofVal, ofVal1, layArgs, Nat.reduceAdd, reduceIte, Nat.reduceEqDiff, reduceCtorEq, rowsB, cellsG, Nat.reduceMul, f8, f9, lss00]
  simp -implicitDefEqProofs only [wpC_seq, rowsA, if_true, if_false, opnd, ofVal, ofVal1, layArgs, Nat.reduceAdd, reduceIte, Nat.reduceEqDiff, reduceCtorEq, rowsB, cellsG, Nat.reduceMul, rowV, len_ro u22]
  refine wpC_loop (invAllF f p l (.fn (.func kf) [] cap)) (k := l.length) ⟨0, by omega, ?_, ?_, ?_, ?_, rfl⟩ ?_
  · simp only [Fr.at_set, Nat.reduceEqDiff, reduceIte, reduceCtorEq]
  · simp only [Fr.at_set, Nat.reduceEqDiff, reduceIte, reduceCtorEq]; rfl
  · simp only [Fr.at_set, Nat.reduceEqDiff, reduceIte, reduceCtorEq]
  · simp only [Fr.at_set, Nat.reduceEqDiff, reduceIte, reduceCtorEq]; rfl
  rintro k F h' ⟨i, hi, f1, f7, f8, f9, hx⟩
  cases k with
  | zero =>
    have c1 : decide ((i : Int) < (l.length : Int)) = false := decide_eq_false (by omega)
    simp -implicitDefEqProofs only [wpC_seq, rowsA, if_true, if_false, opnd, ofVal, ofVal1, layArgs, Nat.reduceAdd, reduceIte, Nat.reduceEqDiff, reduceCtorEq, rowsB, cellsG, Nat.reduceMul, f1, f7, f8, f9, c1, all_take (by omega) hx]
  | succ k =>
    have c1 : decide ((i : Int) < (l.length : Int)) = true := decide_eq_true (by omega)
    obtain ⟨o, ho⟩ : ∃ o, l[i]? = some o := ⟨l[i], List.getElem?_eq_getElem (by omega)⟩
    obtain ⟨r, hr⟩ := flat_drop (f := f) (z := 2) (fun x => hf x) l i o ho
    have w := IntWalk.i64_in ((i : Int) + 1) (by omega)
    have hld : loadO Tryz.prog 41 (some (f o ++ r)) = some (.q (.agg (f o))) := by
      rw [load_agg ag41 sz41 (by rw [List.length_append, hf]; omega), List.take_left' (hf o)]
    have hld2 : loadO Tryz.prog 41 (some (f o)) = some (.q (.agg (f o))) := by
      rw [load_agg ag41 sz41 (by rw [hf]; omega), List.take_of_length_le (by rw [hf]; omega)]
    have hst : ∀ (id : Nat), stoG id 2 0 (.agg (f o)) 2 (some (.cells 41 0 false [.str [], .nls])) = some (.w .undef id (.cells 41 0 false (f o))) := fun id => stoG_all id 2 0 41 (.agg (f o)) [.str [], .nls] rfl (hf o) (hgo o)
    have hpo' := hp o (List.mem_of_getElem? ho)
    cases hpo : p o with
    | true =>
      simp -implicitDefEqProofs only [wpC_seq, rowsA, if_true, if_false, opnd, ofVal, ofVal1, layArgs, Nat.reduceAdd, reduceIte, Nat.reduceEqDiff, reduceCtorEq, rowsB, cellsG, Nat.reduceMul, f1, f7, f8, f9, c1, rowV, ida_roN (n := l.length) (i := (i : Int)) u22 sz41 (by omega) (by omega), Int.toNat_natCast, hr, hld, goO_known hpo', hpo, w, al41q, sz41, hst, hld2, hf]
      refine ⟨k, by omega, i + 1, by omega, ?_, ?_, ?_, ?_, take_all ho hx hpo⟩
      · simp only [Fr.at_set, Nat.reduceEqDiff, reduceIte, reduceCtorEq, f1]
      · simp only [Fr.at_set, Nat.reduceEqDiff, reduceIte, reduceCtorEq, f7]
      · simp only [Fr.at_set, Nat.reduceEqDiff, reduceIte, reduceCtorEq, f8]
      · simp only [Fr.at_set, Nat.reduceEqDiff, reduceIte, reduceCtorEq]; rfl
    | false =>
      simp -implicitDefEqProofs only [wpC_seq, rowsA, if_true, if_false, opnd, ofVal, ofVal1, layArgs, Nat.reduceAdd, reduceIte, Nat.reduceEqDiff, reduceCtorEq, rowsB, cellsG, Nat.reduceMul, f1, f7, f8, f9, c1, rowV, ida_roN (n := l.length) (i := (i : Int)) u22 sz41 (by omega) (by omega), Int.toNat_natCast, hr, hld, goO_known hpo', hpo, all_false ho hpo, al41q, sz41, hst, hld2, hf]
theorem allE_c {α : Type} (f : α → List PV) (hf : ∀ x, (f x).length = 2) (hgo : ∀ x, (PV.agg (f x)).goes = true) (p : α → Bool) (l : List α) (hl : l.length ≤ 9223372036854775807) {v : PV} (hv : RowR f v l) (kf : FuncId) (cap : List PV) (hcap : PV.cleans cap = true) (hp : ∀ o ∈ l, ∀ h fr, CR Tryz.prog (globM mx) md (.fn kf) (.agg (f o) :: cap) h fr (.val (.bool (p o)))) (h : AH) (fr : Nat) :
    CR Tryz.prog (globM mx) md (.fn 80) [v, .fn (.func kf) [] cap] h fr (.val (.bool (l.all p))) := by
  refine CR.plain (rs := [.tmp 4]) Tryz.func80 rfl rfl rfl rfl rfl (by simp [PV.cleans, PV.clean, hcap, hv.clean]) rfl ?_ h fr
  rcases hv with rfl | ⟨rfl, hv⟩
  rotate_left
  · have hlen : lenO Tryz.prog [v] [23] = some (.q (.int .i64 0)) := by
      rcases hv with rfl | rfl
      · exact len_nls u23
      · exact len_els u23
    simp -implicitDefEqProofs only [wpC_seq, rowsA, if_true, if_false, opnd, ofVal, ofVal1, layArgs, Nat.reduceAdd, reduceIte, Nat.reduceEqDiff, reduceCtorEq, rowsB, cellsG, Nat.reduceMul, hlen]
    refine wpC_loop (fun _ F _ => F.at 8 = .int .i64 0 ∧ F.at 9 = .int .i64 0) (k := 0) ⟨?_, ?_⟩ ?_
    · simp only [Fr.at_set, Nat.reduceEqDiff, reduceIte, reduceCtorEq]
    · simp only [Fr.at_set, Nat.reduceEqDiff, reduceIte, reduceCtorEq]
    rintro k F h' ⟨f8, f9⟩
    simp -implicitDefEqProofs only [wpC_seq, rowsA, if_true, if_false, opnd, ofVal, ofVal1, layArgs, Nat.reduceAdd, reduceIte, Nat.reduceEqDiff, reduceCtorEq, rowsB, cellsG, Nat.reduceMul, f8, f9, lss00]
  simp -implicitDefEqProofs only [wpC_seq, rowsA, if_true, if_false, opnd, ofVal, ofVal1, layArgs, Nat.reduceAdd, reduceIte, Nat.reduceEqDiff, reduceCtorEq, rowsB, cellsG, Nat.reduceMul, rowV, len_ro u23]
  refine wpC_loop (invAllF f p l (.fn (.func kf) [] cap)) (k := l.length) ⟨0, by omega, ?_, ?_, ?_, ?_, rfl⟩ ?_
  · simp only [Fr.at_set, Nat.reduceEqDiff, reduceIte, reduceCtorEq]
  · simp only [Fr.at_set, Nat.reduceEqDiff, reduceIte, reduceCtorEq]; rfl
  · simp only [Fr.at_set, Nat.reduceEqDiff, reduceIte, reduceCtorEq]
  · simp only [Fr.at_set, Nat.reduceEqDiff, reduceIte, reduceCtorEq]; rfl
  rintro k F h' ⟨i, hi, f1, f7, f8, f9, hx⟩
  cases k with
  | zero =>
    have c1 : decide ((i : Int) < (l.length : Int)) = false := decide_eq_false (by omega)
    simp -implicitDefEqProofs only [wpC_seq, rowsA, if_true, if_false, opnd, ofVal, ofVal1, layArgs, Nat.reduceAdd, reduceIte, Nat.reduceEqDiff, reduceCtorEq, rowsB, cellsG, Nat.reduceMul, f1, f7, f8, f9, c1, all_take (by omega) hx]
  | succ k =>
    have c1 : decide ((i : Int) < (l.length : Int)) = true := decide_eq_true (by omega)
    obtain ⟨o, ho⟩ : ∃ o, l[i]? = some o := ⟨l[i], List.getElem?_eq_getElem (by omega)⟩
    obtain ⟨r, hr⟩ := flat_drop (f := f) (z := 2) (fun x => hf x) l i o ho
    have w := IntWalk.i64_in ((i : Int) + 1) (by omega)
    have hld : loadO Tryz.prog 45 (some (f o ++ r)) = some (.q (.agg (f o))) := by
      rw [load_agg ag45 sz45 (by rw [List.length_append, hf]; omega), List.take_left' (hf o)]
    have hld2 : loadO Tryz.prog 45 (some (f o)) = some (.q (.agg (f o))) := by
      rw [load_agg ag45 sz45 (by rw [hf]; omega), List.take_of_length_le (by rw [hf]; omega)]
    have hst : ∀ (id : Nat), stoG id 2 0 (.agg (f o)) 2 (some (.cells 45 0 false [.str [], .nls])) = some (.w .undef id (.cells 45 0 false (f o))) := fun id => stoG_all id 2 0 45 (.agg (f o)) [.str [], .nls] rfl (hf o) (hgo o)
    have hpo' := hp o (List.mem_of_getElem? ho)
    cases hpo : p o with
    | true =>
      simp -implicitDefEqProofs only [wpC_seq, rowsA, if_true, if_false, opnd, ofVal, ofVal1, layArgs, Nat.reduceAdd, reduceIte, Nat.reduceEqDiff, reduceCtorEq, rowsB, cellsG, Nat.reduceMul, f1, f7, f8, f9, c1, rowV, ida_roN (n := l.length) (i := (i : Int)) u23 sz45 (by omega) (by omega), Int.toNat_natCast, hr, hld, goO_known hpo', hpo, w, al45q, sz45, hst, hld2, hf]
      refine ⟨k, by omega, i + 1, by omega, ?_, ?_, ?_, ?_, take_all ho hx hpo⟩
      · simp only [Fr.at_set, Nat.reduceEqDiff, reduceIte, reduceCtorEq, f1]
      · simp only [Fr.at_set, Nat.reduceEqDiff, reduceIte, reduceCtorEq, f7]
      · simp only [Fr.at_set, Nat.reduceEqDiff, reduceIte, reduceCtorEq, f8]
      · simp only [Fr.at_set, Nat.reduceEqDiff, reduceIte, reduceCtorEq]; rfl
    | false =>
      simp -implicitDefEqProofs only [wpC_seq, rowsA, if_true, if_false, opnd, ofVal, ofVal1, layArgs, Nat.reduceAdd, reduceIte, Nat.reduceEqDiff, reduceCtorEq, rowsB, cellsG, Nat.reduceMul, f1, f7, f8, f9, c1, rowV, ida_roN (n := l.length) (i := (i : Int)) u23 sz45 (by omega) (by omega), Int.toNat_natCast, hr, hld, goO_known hpo', hpo, all_false ho hpo, al45q, sz45, hst, hld2, hf]
theorem allF_c {α : Type} (f : α → List PV) (hf : ∀ x, (f x).length = 5) (hgo : ∀ x, (PV.agg (f x)).goes = true) (p : α → Bool) (l : List α) (hl : l.length ≤ 9223372036854775807) {v : PV} (hv : RowR f v l) (kf : FuncId) (cap : List PV) (hcap : PV.cleans cap = true) (hp : ∀ o ∈ l, ∀ h fr, CR Tryz.prog (globM mx) md (.fn kf) (.agg (f o) :: cap) h fr (.val (.bool (p o)))) (h : AH) (fr : Nat) :
    CR Tryz.prog (globM mx) md (.fn 99) [v, .fn (.func kf) [] cap] h fr (.val (.bool (l.all p))) := by
  refine CR.plain (rs := [.tmp 4]) Tryz.func99 rfl rfl rfl rfl rfl (by simp [PV.cleans, PV.clean, hcap, hv.clean]) rfl ?_ h fr
  rcases hv with rfl | ⟨rfl, hv⟩
  rotate_left
  · have hlen : lenO Tryz.prog [v] [39] = some (.q (.int .i64 0)) := by
      rcases hv with rfl | rfl
      · exact len_nls u39
      · exact len_els u39
    simp -implicitDefEqProofs only [wpC_seq, rowsA, if_true, if_false, opnd, ofVal, ofVal1, layArgs, Nat.reduceAdd, reduceIte, Nat.reduceEqDiff, reduceCtorEq, rowsB, cellsG, Nat.reduceMul, hlen]
    refine wpC_loop (fun _ F _ => F.at 8 = .int .i64 0 ∧ F.at 9 = .int .i64 0) (k := 0) ⟨?_, ?_⟩ ?_
    · simp only [Fr.at_set, Nat.reduceEqDiff, reduceIte, reduceCtorEq]
    · simp only [Fr.at_set, Nat.reduceEqDiff, reduceIte, reduceCtorEq]
    rintro k F h' ⟨f8, f9⟩
    simp -implicitDefEqProofs only [wpC_seq, rowsA, if_true, if_false, opnd, ofVal, ofVal1, layArgs, Nat.reduceAdd, reduceIte, Nat.reduceEqDiff, reduceCtorEq, rowsB, cellsG, Nat.reduceMul, f8, f9, lss00]
  simp -implicitDefEqProofs only [wpC_seq, rowsA, if_true, if_false, opnd, ofVal, ofVal1, layArgs, Nat.reduceAdd, reduceIte, Nat.reduceEqDiff, reduceCtorEq, rowsB, cellsG, Nat.reduceMul, rowV, len_ro u39]
  refine wpC_loop (invAllF f p l (.fn (.func kf) [] cap)) (k := l.length) ⟨0, by omega, ?_, ?_, ?_, ?_, rfl⟩ ?_
  · simp only [Fr.at_set, Nat.reduceEqDiff, reduceIte, reduceCtorEq]
  · simp only [Fr.at_set, Nat.reduceEqDiff, reduceIte, reduceCtorEq]; rfl
  · simp only [Fr.at_set, Nat.reduceEqDiff, reduceIte, reduceCtorEq]
  · simp only [Fr.at_set, Nat.reduceEqDiff, reduceIte, reduceCtorEq]; rfl
  rintro k F h' ⟨i, hi, f1, f7, f8, f9, hx⟩
  cases k with
  | zero =>
    have c1 : decide ((i : Int) < (l.length : Int)) = false := decide_eq_false (by omega)
    simp -implicitDefEqProofs only [wpC_seq, rowsA, if_true, if_false, opnd, ofVal, ofVal1, layArgs, Nat.reduceAdd, reduceIte, Nat.reduceEqDiff, reduceCtorEq, rowsB, cellsG, Nat.reduceMul, f1, f7, f8, f9, c1, all_take (by omega) hx]
  | succ k =>
    have c1 : decide ((i : Int) < (l.length : Int)) = true := decide_eq_true (by omega)
    obtain ⟨o, ho⟩ : ∃ o, l[i]? = some o := ⟨l[i], List.getElem?_eq_getElem (by omega)⟩
    obtain ⟨r, hr⟩ := flat_drop (f := f) (z := 5) (fun x => hf x) l i o ho
    have w := IntWalk.i64_in ((i : Int) + 1) (by omega)
    have hld : loadO Tryz.prog 33 (some (f o ++ r)) = some (.q (.agg (f o))) := by
      rw [load_agg ag33 sz33 (by rw [List.length_append, hf]; omega), List.take_left' (hf o)]
    have hld2 : loadO Tryz.prog 33 (some (f o)) = some (.q (.agg (f o))) := by
      rw [load_agg ag33 sz33 (by rw [hf]; omega), List.take_of_length_le (by rw [hf]; omega)]
    have hst : ∀ (id : Nat), stoG id 5 0 (.agg (f o)) 5 (some (.cells 33 0 false [.str [], .str [], .str [], .bool false, .str []])) = some (.w .undef id (.cells 33 0 false (f o))) := fun id => stoG_all id 5 0 33 (.agg (f o)) [.str [], .str [], .str [], .bool false, .str []] rfl (hf o) (hgo o)
    have hpo' := hp o (List.mem_of_getElem? ho)
    cases hpo : p o with
    | true =>
      simp -implicitDefEqProofs only [wpC_seq, rowsA, if_true, if_false, opnd, ofVal, ofVal1, layArgs, Nat.reduceAdd, reduceIte, Nat.reduceEqDiff, reduceCtorEq, rowsB, cellsG, Nat.reduceMul, f1, f7, f8, f9, c1, rowV, ida_roN (n := l.length) (i := (i : Int)) u39 sz33 (by omega) (by omega), Int.toNat_natCast, hr, hld, goO_known hpo', hpo, w, al33q, sz33, hst, hld2, hf]
      refine ⟨k, by omega, i + 1, by omega, ?_, ?_, ?_, ?_, take_all ho hx hpo⟩
      · simp only [Fr.at_set, Nat.reduceEqDiff, reduceIte, reduceCtorEq, f1]
      · simp only [Fr.at_set, Nat.reduceEqDiff, reduceIte, reduceCtorEq, f7]
      · simp only [Fr.at_set, Nat.reduceEqDiff, reduceIte, reduceCtorEq, f8]
      · simp only [Fr.at_set, Nat.reduceEqDiff, reduceIte, reduceCtorEq]; rfl
    | false =>
      simp -implicitDefEqProofs only [wpC_seq, rowsA, if_true, if_false, opnd, ofVal, ofVal1, layArgs, Nat.reduceAdd, reduceIte, Nat.reduceEqDiff, reduceCtorEq, rowsB, cellsG, Nat.reduceMul, f1, f7, f8, f9, c1, rowV, ida_roN (n := l.length) (i := (i : Int)) u39 sz33 (by omega) (by omega), Int.toNat_natCast, hr, hld, goO_known hpo', hpo, all_false ho hpo, al33q, sz33, hst, hld2, hf]
end Go.Proofs.YtcbngkmmmfaaoaaGreatDoor
namespace Go.Proofs.YtcbngkmmmfaaoaaGreatDoor
open Go.RowKit Go.Lib Go.Ac
set_option linter.unusedSimpArgs false
set_option maxRecDepth 100000
variable {mx : Int}

def objAt (s : Sc) (x : List UInt8) : Int := idx (fun o => decide (o.n = x)) s.os 0
def enmAt (s : Sc) (x : List UInt8) : Int := idx (fun o => decide (o.n = x)) s.es 0
def placeAt (o : Ob) (x : List UInt8) : Int := idx (fun o => decide (o.n = x)) o.fs 0
def propB (s : Sc) (f : Fld) : Bool := scalar f.t || decide (0 ≤ enmAt s f.t)
def edgeOf (s : Sc) (f : Fld) : Int := if propB s f then -1 else objAt s f.t
def Sc.fits (s : Sc) : Prop := s.os.length ≤ 9223372036854775807 ∧ s.es.length ≤ 9223372036854775807 ∧ ∀ o ∈ s.os, o.fs.length ≤ 9223372036854775807
theorem refObj_c {s : Sc} (hs : s.fits) (x : List UInt8) (h : AH) (fr : Nat) : CR Tryz.prog (globM mx) md (.fn 18) [.agg s.pv, .str x] h fr (.val (.int .i64 (objAt s x))) := refObject_c s hs.1 x h fr
theorem enm_c {s : Sc} (hs : s.fits) (x : List UInt8) (h : AH) (fr : Nat) : CR Tryz.prog (globM mx) md (.fn 19) [.agg s.pv, .str x] h fr (.val (.int .i64 (enmAt s x))) := enum_c s hs.2.1 x h fr
theorem refEnm_c {s : Sc} (hs : s.fits) (x : List UInt8) (h : AH) (fr : Nat) : CR Tryz.prog (globM mx) md (.fn 20) [.agg s.pv, .str x] h fr (.val (.int .i64 (enmAt s x))) := refEnum_c s hs.2.1 x h fr

theorem prop_c {s : Sc} (hs : s.fits) (f : Fld) (h : AH) (fr : Nat) : CR Tryz.prog (globM mx) md (.fn 57) [.agg s.pv, .agg f.pv] h fr (.val (.bool (propB s f))) := by
  refine CR.plain (rs := [.tmp 4]) Tryz.func57 rfl rfl rfl rfl rfl (by simp [PV.cleans, PV.clean, Sc.cl, Fld.cl]) rfl ?_ h fr
  cases c1 : scalar f.t with
  | true =>
    simp -implicitDefEqProofs only [wpC_seq, rowsA, if_true, if_false, opnd, ofVal, ofVal1, layArgs, Nat.reduceAdd, reduceIte, Nat.reduceEqDiff, reduceCtorEq, rowsB, cellsG, Nat.reduceMul, Fld.pv, fda_ptr o33_1, fda_ptr o31_0, loadO_one ag9 sz9, goO_known (refScalar_c f.t), c1]
    simp [propB, c1]
  | false =>
    simp -implicitDefEqProofs only [wpC_seq, rowsA, if_true, if_false, opnd, ofVal, ofVal1, layArgs, Nat.reduceAdd, reduceIte, Nat.reduceEqDiff, reduceCtorEq, rowsB, cellsG, Nat.reduceMul, Fld.pv, fda_ptr o33_1, fda_ptr o31_0, loadO_one ag9 sz9, goO_known (refScalar_c f.t), c1, ld25 s, goO_known (refEnm_c hs f.t)]
    simp [propB, c1]
theorem refEdge_c {s : Sc} (hs : s.fits) (f : Fld) (h : AH) (fr : Nat) : CR Tryz.prog (globM mx) md (.fn 24) [.agg s.pv, .agg f.pv] h fr (.val (.int .i64 (edgeOf s f))) := by
  refine CR.plain (rs := [.tmp 4]) Tryz.func24 rfl rfl rfl rfl rfl (by simp [PV.cleans, PV.clean, Sc.cl, Fld.cl]) rfl ?_ h fr
  cases c1 : propB s f with
  | true =>
    simp -implicitDefEqProofs only [wpC_seq, rowsA, if_true, if_false, opnd, ofVal, ofVal1, layArgs, Nat.reduceAdd, reduceIte, Nat.reduceEqDiff, reduceCtorEq, rowsB, cellsG, Nat.reduceMul, ld25 s, ld33 f, goO_known (prop_c hs f), c1]
    simp [edgeOf, c1]
  | false =>
    simp -implicitDefEqProofs only [wpC_seq, rowsA, if_true, if_false, opnd, ofVal, ofVal1, layArgs, Nat.reduceAdd, reduceIte, Nat.reduceEqDiff, reduceCtorEq, rowsB, cellsG, Nat.reduceMul, ld25 s, ld33 f, goO_known (prop_c hs f), c1, fda_ptr o33_1, fda_ptr o31_0]
    simp -implicitDefEqProofs only [wpC_seq, rowsA, if_true, if_false, opnd, ofVal, ofVal1, layArgs, Nat.reduceAdd, reduceIte, Nat.reduceEqDiff, reduceCtorEq, rowsB, cellsG, Nat.reduceMul, Fld.pv, ld25 s, fda_ptr o33_1, fda_ptr o31_0, loadO_one ag9 sz9, goO_known (refObj_c hs f.t)]
    simp [edgeOf, c1]
end Go.Proofs.YtcbngkmmmfaaoaaGreatDoor
namespace Go.Proofs.YtcbngkmmmfaaoaaGreatDoor
open Go.RowKit Go.Lib Go.Ac
set_option linter.unusedSimpArgs false
set_option maxRecDepth 100000
variable {mx : Int}

theorem Ob.goes (o : Ob) : (PV.agg o.pv).goes = true := rfl
theorem En.goes (o : En) : (PV.agg o.pv).goes = true := rfl
theorem Fld.goes (o : Fld) : (PV.agg o.pv).goes = true := rfl
def scV (s : Sc) (ve : PV) : List PV := [rowV Ob.pv s.os, ve]
theorem ld25v (s : Sc) {ve : PV} : loadO Tryz.prog 25 (some (scV s ve)) = some (.q (.agg (scV s ve))) := load_agg (c := scV s ve) ag25 sz25 (Nat.le_refl 2)
theorem scV_clean {s : Sc} {ve : PV} (hv : RowR En.pv ve s.es) : PV.cleans (scV s ve) = true := by simp [scV, PV.cleans, hv.clean]; rfl
theorem frz_fn1 {id n sz : Nat} {E : TypeId} {fz : Bool} {c : List PV} {h : AH} (k : FuncId) (hg : h.get id = some (.cells E sz fz c)) (hc : c.length = n) (hcl : PV.cleans c = true) : frz 100 (.fn (.func k) [] [.ptr id n 0]) h = some (.fn (.func k) [] [.rop c], h.set id (.cells E sz true c)) := by
  have := frz_cap100 k hg hc hcl
  exact this
theorem frz_fn2D {dd id n sz : Nat} {E : TypeId} {fz : Bool} {c d : List PV} {h : AH} (k : FuncId) (hg : h.get id = some (.cells E sz fz c)) (hc : c.length = n) (hcl : PV.cleans c = true) : frz (dd + 2) (.fn (.func k) [] [.rop d, .ptr id n 0]) h = some (.fn (.func k) [] [.rop d, .rop c], h.set id (.cells E sz true c)) := by
  have e1 : frz (dd + 1) (.rop d) h = some (.rop d, h) := frz_clean h rfl
  have e2 : frz (dd + 1) (.ptr id n 0) h = some (.rop c, h.set id (.cells E sz true c)) := by
    have := frz_ptr (dd := dd) (off := 0) hg hc hcl
    simpa using this
  rw [frz, if_neg (by simp [PV.clean, PV.cleans])]
  simp only [frzL, e1, e2]
theorem frz_fn2 {id n sz : Nat} {E : TypeId} {fz : Bool} {c d : List PV} {h : AH} (k : FuncId) (hg : h.get id = some (.cells E sz fz c)) (hc : c.length = n) (hcl : PV.cleans c = true) : frz 100 (.fn (.func k) [] [.rop d, .ptr id n 0]) h = some (.fn (.func k) [] [.rop d, .rop c], h.set id (.cells E sz true c)) := frz_fn2D (dd := 98) k hg hc hcl
theorem boxO_fn (fr : Nat) (t : TypeId) (k : FuncId) (cap : List PV) : boxO fr t (.fn (.func k) [] cap) = some (.w (.ptr fr 1 0) fr (.cells t 0 false [.fn (.func k) [] cap])) := rfl
theorem allO_fz {os : List Ob} (hl : os.length ≤ 9223372036854775807) (p : Ob → Bool) {id n sz : Nat} {E : TypeId} {fz : Bool} {c : List PV} {h : AH} (k : FuncId) (hg : h.get id = some (.cells E sz fz c)) (hc : c.length = n) (hcl : PV.cleans c = true)
    (hp : ∀ o ∈ os, ∀ h fr, CR Tryz.prog (globM mx) md (.fn k) [.agg o.pv, .rop c] h fr (.val (.bool (p o)))) (fr : Nat) : CR Tryz.prog (globM mx) md (.fn 78) [rowV Ob.pv os, .fn (.func k) [] [.ptr id n 0]] h fr (.sh (.bool (os.all p)) (h.set id (.cells E sz true c))) := by
  refine CR.viaFrz (args' := [rowV Ob.pv os, .fn (.func k) [] [.rop c]]) Tryz.func78 rfl rfl rfl rfl ?_ rfl (fun h fr => allO_c Ob.pv (fun _ => rfl) Ob.goes p os hl (.inl rfl) k [.rop c] rfl hp h fr) fr
  simp only [frzL, frz_clean h (show (rowV Ob.pv os).clean = true from rfl), frz_fn1 k hg hc hcl]
theorem allF_fz {fs : List Fld} (hl : fs.length ≤ 9223372036854775807) (p : Fld → Bool) {id n sz : Nat} {E : TypeId} {fz : Bool} {c d : List PV} {h : AH} (k : FuncId) (hg : h.get id = some (.cells E sz fz c)) (hc : c.length = n) (hcl : PV.cleans c = true)
    (hp : ∀ o ∈ fs, ∀ h fr, CR Tryz.prog (globM mx) md (.fn k) [.agg o.pv, .rop d, .rop c] h fr (.val (.bool (p o)))) (fr : Nat) : CR Tryz.prog (globM mx) md (.fn 99) [rowV Fld.pv fs, .fn (.func k) [] [.rop d, .ptr id n 0]] h fr (.sh (.bool (fs.all p)) (h.set id (.cells E sz true c))) := by
  refine CR.viaFrz (args' := [rowV Fld.pv fs, .fn (.func k) [] [.rop d, .rop c]]) Tryz.func99 rfl rfl rfl rfl ?_ rfl (fun h fr => allF_c Fld.pv (fun _ => rfl) Fld.goes p fs hl (.inl rfl) k [.rop d, .rop c] rfl hp h fr) fr
  simp only [frzL, frz_clean h (show (rowV Fld.pv fs).clean = true from rfl), frz_fn2 k hg hc hcl]
theorem ag69 : tyAgg Tryz.prog 69 = some false := by kernel_rfl
theorem sz69 : tySz Tryz.prog 69 = some 1 := by kernel_rfl
section
variable {kh : FuncId} {ch : List PV} {q : Ob → Fld → Bool}
theorem fields3_c (hch : PV.cleans ch = true) (o : Ob) (f : Fld) (hq : ∀ h fr, CR Tryz.prog (globM mx) md (.fn kh) (.agg o.pv :: .agg f.pv :: ch) h fr (.val (.bool (q o f)))) (h : AH) (fr : Nat) :
    CR Tryz.prog (globM mx) md (.fn 100) [.agg f.pv, .rop [.fn (.func kh) [] ch], .rop o.pv] h fr (.val (.bool (q o f))) := by
  refine CR.plain (rs := [.tmp 4]) Tryz.func100 rfl rfl rfl rfl rfl rfl rfl ?_ h fr
  simp -implicitDefEqProofs only [wpC_seq, rowsA, if_true, if_false, opnd, ofVal, ofVal1, layArgs, Nat.reduceAdd, reduceIte, Nat.reduceEqDiff, reduceCtorEq, rowsB, cellsG, Nat.reduceMul, loadO_one ag69 sz69, ld41, ld33, Fld.len, Ob.len, goO_known hq]
theorem fields2_c (hch : PV.cleans ch = true) (o : Ob) (hl : o.fs.length ≤ 9223372036854775807) (hq : ∀ f ∈ o.fs, ∀ h fr, CR Tryz.prog (globM mx) md (.fn kh) (.agg o.pv :: .agg f.pv :: ch) h fr (.val (.bool (q o f)))) (h : AH) (fr : Nat) :
    CR Tryz.prog (globM mx) md (.fn 98) [.agg o.pv, .rop [.fn (.func kh) [] ch]] h fr (.val (.bool (o.fs.all (q o)))) := by
  refine CR.plain (rs := [.tmp 3]) Tryz.func98 rfl rfl rfl rfl rfl rfl rfl ?_ h fr
  simp -implicitDefEqProofs only [wpC_seq, rowsA, if_true, if_false, opnd, ofVal, ofVal1, layArgs, Nat.reduceAdd, reduceIte, Nat.reduceEqDiff, reduceCtorEq, rowsB, cellsG, Nat.reduceMul, rowsS, List.drop_drop]
  rw [goO_shared (allF_fz hl (q o) (id := 0) (n := 2) (sz := 0) (E := 41) (fz := false) (c := o.pv) 100 (by simp only [AH.get_set, AH.get_up, if_true]) rfl (Ob.cl o) (fun f hf h fr => fields3_c hch o f (hq f hf) h fr))]
  simp -implicitDefEqProofs only [wpC_seq, rowsA, if_true, if_false, opnd, ofVal, ofVal1, layArgs, Nat.reduceAdd, reduceIte, Nat.reduceEqDiff, reduceCtorEq, rowsB, cellsG, Nat.reduceMul]
theorem fields1_c (hch : PV.cleans ch = true) {s : Sc} {ve : PV} (hv : RowR En.pv ve s.es) (hs : s.fits) (hq : ∀ o ∈ s.os, ∀ f ∈ o.fs, ∀ h fr, CR Tryz.prog (globM mx) md (.fn kh) (.agg o.pv :: .agg f.pv :: ch) h fr (.val (.bool (q o f)))) (h : AH) (fr : Nat) :
    CR Tryz.prog (globM mx) md (.fn 42) [.agg (scV s ve), .fn (.func kh) [] ch] h fr (.val (.bool (s.os.all fun o => o.fs.all (q o)))) := by
  refine CR.plain (rs := [.tmp 4]) Tryz.func42 rfl rfl rfl rfl rfl (by simp [PV.cleans, PV.clean, scV_clean hv, hch]) rfl ?_ h fr
  simp -implicitDefEqProofs only [wpC_seq, rowsA, if_true, if_false, opnd, ofVal, ofVal1, layArgs, Nat.reduceAdd, reduceIte, Nat.reduceEqDiff, reduceCtorEq, rowsB, cellsG, Nat.reduceMul, boxO_fn, scV, fda_ptr o25_0, loadO_one ag22 sz22]
  rw [goO_shared (allO_fz hs.1 (fun o => o.fs.all (q o)) (id := 1) (n := 1) (sz := 0) (E := 69) (fz := false) (c := [.fn (.func kh) [] ch]) 98 (by simp only [AH.get_set, AH.get_up, Nat.reduceEqDiff, if_false, if_true]) rfl (by simp [PV.cleans, PV.clean, hch]) (fun o ho h fr => fields2_c hch o (hs.2.2 o ho) (hq o ho) h fr))]
  simp -implicitDefEqProofs only [wpC_seq, rowsA, if_true, if_false, opnd, ofVal, ofVal1, layArgs, Nat.reduceAdd, reduceIte, Nat.reduceEqDiff, reduceCtorEq, rowsB, cellsG, Nat.reduceMul]
theorem fields_sh {s s' : Sc} {ve ve' : PV} (hv : RowR En.pv ve s.es) (hs : s.fits) (hc : PV.cleans (scV s' ve') = true) {id : Nat} {fz : Bool} {h : AH} (hg : h.get id = some (.cells 25 0 fz (scV s' ve')))
    (hq : ∀ o ∈ s.os, ∀ f ∈ o.fs, ∀ h fr, CR Tryz.prog (globM mx) md (.fn kh) [.agg o.pv, .agg f.pv, .rop (scV s' ve')] h fr (.val (.bool (q o f)))) (fr : Nat) :
    CR Tryz.prog (globM mx) md (.fn 42) [.agg (scV s ve), .fn (.func kh) [] [.ptr id 2 0]] h fr (.sh (.bool (s.os.all fun o => o.fs.all (q o))) (h.set id (.cells 25 0 true (scV s' ve')))) := by
  refine CR.viaFrz (args' := [.agg (scV s ve), .fn (.func kh) [] [.rop (scV s' ve')]]) Tryz.func42 rfl rfl rfl (by simp [PV.cleans, PV.clean]) ?_ (by simp [PV.cleans, PV.clean, scV_clean hv]) (fun h fr => fields1_c rfl hv hs hq h fr) fr
  simp only [frzL, frz_clean h (show (PV.agg (scV s ve)).clean = true from scV_clean hv), frz_fn1 kh hg (show (scV s' ve').length = 2 from rfl) hc]
end
theorem obj_v {s : Sc} {ve : PV} (hv : RowR En.pv ve s.es) (hs : s.fits) (x : List UInt8) (h : AH) (fr : Nat) : CR Tryz.prog (globM mx) md (.fn 17) [.agg (scV s ve), .str x] h fr (.val (.int .i64 (objAt s x))) := by
  refine CR.plain (rs := [.tmp 4]) Tryz.func17 rfl rfl rfl rfl rfl (by simp [PV.cleans, PV.clean, scV_clean hv]) rfl ?_ h fr
  simp -implicitDefEqProofs only [wpC_seq, rowsA, if_true, if_false, opnd, ofVal, ofVal1, layArgs, Nat.reduceAdd, reduceIte, Nat.reduceEqDiff, reduceCtorEq, rowsB, cellsG, Nat.reduceMul, scV, fda_ptr o25_0, loadO_one ag22 sz22]
  rw [goO_shared (indexOb_sh s.os hs.1 x 1 _ (by simp only [AH.get_set, AH.get_up, Nat.reduceEqDiff, if_false, if_true]))]
  simp -implicitDefEqProofs only [wpC_seq, rowsA, if_true, if_false, opnd, ofVal, ofVal1, layArgs, Nat.reduceAdd, reduceIte, Nat.reduceEqDiff, reduceCtorEq, rowsB, cellsG, Nat.reduceMul, objAt]
def inv0 (_ : Nat) (F : Fr) (_ : AH) : Prop := F.at 7 = .int .i64 0 ∧ F.at 8 = .int .i64 0
theorem indexEn0_c {v : PV} (hv : v = .nls ∨ v = .els) (kf : FuncId) (cap : List PV) (hcap : PV.cleans cap = true) (h : AH) (fr : Nat) : CR Tryz.prog (globM mx) md (.fn 55) [v, .fn (.func kf) [] cap] h fr (.val (.int .i64 (-1))) := by
  have hc : v.clean = true := by rcases hv with rfl | rfl <;> rfl
  have hlen : lenO Tryz.prog [v] [23] = some (.q (.int .i64 0)) := by
    rcases hv with rfl | rfl
    · exact len_nls u23
    · exact len_els u23
  refine CR.plain (rs := [.tmp 4]) Tryz.func55 rfl rfl rfl rfl rfl (by simp [PV.cleans, PV.clean, hcap, hc]) rfl ?_ h fr
  simp -implicitDefEqProofs only [wpC_seq, rowsA, if_true, if_false, opnd, ofVal, ofVal1, layArgs, Nat.reduceAdd, reduceIte, Nat.reduceEqDiff, reduceCtorEq, rowsB, cellsG, Nat.reduceMul, hlen]
  refine wpC_loop inv0 (k := 0) ⟨?_, ?_⟩ ?_
  · simp only [Fr.at_set, Nat.reduceEqDiff, reduceIte, reduceCtorEq]
  · simp only [Fr.at_set, Nat.reduceEqDiff, reduceIte, reduceCtorEq]
  rintro k F h' ⟨f7, f8⟩
  simp -implicitDefEqProofs only [wpC_seq, rowsA, if_true, if_false, opnd, ofVal, ofVal1, layArgs, Nat.reduceAdd, reduceIte, Nat.reduceEqDiff, reduceCtorEq, rowsB, cellsG, Nat.reduceMul, f7, f8, lss00]
theorem indexEn0_sh {v : PV} (hv : v = .nls ∨ v = .els) (x : List UInt8) (id : Nat) (h : AH) (hg : h.get id = some (.cells 9 0 false [.str x])) (fr : Nat) :
    CR Tryz.prog (globM mx) md (.fn 55) [v, .fn (.func 56) [] [.ptr id 1 0]] h fr (.sh (.int .i64 (-1)) (h.set id (.cells 9 0 true [.str x]))) := by
  have hc : v.clean = true := by rcases hv with rfl | rfl <;> rfl
  refine CR.viaFrz (args' := [v, .fn (.func 56) [] [.rop [.str x]]]) Tryz.func55 rfl rfl rfl (by simp [PV.cleans, PV.clean]) ?_ (by simp [PV.cleans, PV.clean, hc]) (fun h fr => indexEn0_c hv 56 [.rop [.str x]] rfl h fr) fr
  simp only [frzL, frz_clean h hc, frz_cap100 (tot := 1) 56 hg rfl rfl]
theorem enm_v {s : Sc} {ve : PV} (hv : RowR En.pv ve s.es) (hs : s.fits) (x : List UInt8) (h : AH) (fr : Nat) : CR Tryz.prog (globM mx) md (.fn 19) [.agg (scV s ve), .str x] h fr (.val (.int .i64 (enmAt s x))) := by
  have hcl := scV_clean hv
  rcases hv with rfl | ⟨he, hv⟩
  · exact enm_c hs x h fr
  · refine CR.plain (rs := [.tmp 4]) Tryz.func19 rfl rfl rfl rfl rfl (by simp [PV.cleans, PV.clean, hcl]) rfl ?_ h fr
    simp -implicitDefEqProofs only [wpC_seq, rowsA, if_true, if_false, opnd, ofVal, ofVal1, layArgs, Nat.reduceAdd, reduceIte, Nat.reduceEqDiff, reduceCtorEq, rowsB, cellsG, Nat.reduceMul, scV, fda_ptr o25_1, loadO_one ag23 sz23]
    rw [goO_shared (indexEn0_sh hv x 1 _ (by simp only [AH.get_set, AH.get_up, Nat.reduceEqDiff, if_false, if_true]))]
    simp -implicitDefEqProofs only [wpC_seq, rowsA, if_true, if_false, opnd, ofVal, ofVal1, layArgs, Nat.reduceAdd, reduceIte, Nat.reduceEqDiff, reduceCtorEq, rowsB, cellsG, Nat.reduceMul, enmAt, he]
    rfl
theorem edge_v {s : Sc} {ve : PV} (hv : RowR En.pv ve s.es) (hs : s.fits) (f : Fld) (h : AH) (fr : Nat) : CR Tryz.prog (globM mx) md (.fn 23) [.agg (scV s ve), .agg f.pv] h fr (.val (.int .i64 (edgeOf s f))) := by
  refine CR.plain (rs := [.tmp 4]) Tryz.func23 rfl rfl rfl rfl rfl (by simp [PV.cleans, PV.clean, scV_clean hv, Fld.cl]) rfl ?_ h fr
  have hlen : (scV s ve).length = 2 := rfl
  cases c1 : scalar f.t with
  | true =>
    simp -implicitDefEqProofs only [wpC_seq, rowsA, if_true, if_false, opnd, ofVal, ofVal1, layArgs, Nat.reduceAdd, reduceIte, Nat.reduceEqDiff, reduceCtorEq, rowsB, cellsG, Nat.reduceMul, hlen, Fld.pv, fda_ptr o33_1, fda_ptr o31_0, loadO_one ag9 sz9, goO_known (scalar_c f.t), c1]
    simp [edgeOf, propB, c1]
  | false =>
    by_cases c2 : 0 ≤ enmAt s f.t
    · simp -implicitDefEqProofs only [wpC_seq, rowsA, if_true, if_false, opnd, ofVal, ofVal1, layArgs, Nat.reduceAdd, reduceIte, Nat.reduceEqDiff, reduceCtorEq, rowsB, cellsG, Nat.reduceMul, hlen, Fld.pv, fda_ptr o33_1, fda_ptr o31_0, loadO_one ag9 sz9, goO_known (scalar_c f.t), c1, ld25v s, goO_known (enm_v hv hs f.t), c2]
      simp [edgeOf, propB, c1, c2]
    · simp -implicitDefEqProofs only [wpC_seq, rowsA, if_true, if_false, opnd, ofVal, ofVal1, layArgs, Nat.reduceAdd, reduceIte, Nat.reduceEqDiff, reduceCtorEq, rowsB, cellsG, Nat.reduceMul, hlen, Fld.pv, fda_ptr o33_1, fda_ptr o31_0, loadO_one ag9 sz9, goO_known (scalar_c f.t), c1, ld25v s, goO_known (enm_v hv hs f.t), c2, goO_known (obj_v hv hs f.t)]
      simp [edgeOf, propB, c1, c2]
end Go.Proofs.YtcbngkmmmfaaoaaGreatDoor
namespace Go.Proofs.YtcbngkmmmfaaoaaGreatDoor
open Go.RowKit Go.Lib Go.Ac
set_option linter.unusedSimpArgs false
set_option maxRecDepth 100000
variable {mx : Int}

structure Rw where
  n : List UInt8
  v : PV
  k : Nat
def Rw.pv (o : Rw) : List PV := [.str o.n, o.v]
def RwOk (t : TypeId) (o : Rw) : Prop := o.v.clean = true ∧ o.k ≤ 9223372036854775807 ∧ tyAgg Tryz.prog t = some false ∧ lenO Tryz.prog [o.v] [t] = some (.q (.int .i64 o.k))
def betw (k lo hi : Nat) : Bool := decide (lo ≤ k) && decide (k ≤ hi)
theorem betw_c (k lo hi : Nat) (h : AH) (fr : Nat) : CR Tryz.prog (globM mx) md (.fn 77) [.int .i64 k, .int .i64 lo, .int .i64 hi] h fr (.val (.bool (betw k lo hi))) := by
  refine CR.plain (rs := [.tmp 6]) Tryz.func77 rfl rfl rfl rfl rfl rfl rfl ?_ h fr
  unfold betw
  by_cases c1 : lo ≤ k
  · have c1' : (k : Int) ≥ (lo : Int) := by omega
    by_cases c2 : k ≤ hi
    · have c2' : (k : Int) ≤ (hi : Int) := by omega
      simp -implicitDefEqProofs only [wpC_seq, rowsA, if_true, if_false, opnd, ofVal, ofVal1, layArgs, Nat.reduceAdd, reduceIte, Nat.reduceEqDiff, reduceCtorEq, rowsB, cellsG, Nat.reduceMul, c1, c1', c2, c2']
    · have c2' : ¬ (k : Int) ≤ (hi : Int) := by omega
      simp -implicitDefEqProofs only [wpC_seq, rowsA, if_true, if_false, opnd, ofVal, ofVal1, layArgs, Nat.reduceAdd, reduceIte, Nat.reduceEqDiff, reduceCtorEq, rowsB, cellsG, Nat.reduceMul, c1, c1', c2, c2', Bool.true_and]
  · have c1' : ¬ (k : Int) ≥ (lo : Int) := by omega
    simp -implicitDefEqProofs only [wpC_seq, rowsA, if_true, if_false, opnd, ofVal, ofVal1, layArgs, Nat.reduceAdd, reduceIte, Nat.reduceEqDiff, reduceCtorEq, rowsB, cellsG, Nat.reduceMul, c1, c1', Bool.false_and]
theorem enoughO_c (o : Rw) (ho : RwOk 39 o) (h : AH) (fr : Nat) : CR Tryz.prog (globM mx) md (.fn 79) [.agg o.pv] h fr (.val (.bool (betw o.k 1 12))) := by
  obtain ⟨h1, h3, h4, h5⟩ := ho
  refine CR.plain (rs := [.tmp 2]) Tryz.func79 rfl rfl rfl rfl rfl (by simp [PV.cleans, PV.clean, Rw.pv, h1]) rfl ?_ h fr
  simp -implicitDefEqProofs only [wpC_seq, rowsA, if_true, if_false, opnd, ofVal, ofVal1, layArgs, Nat.reduceAdd, reduceIte, Nat.reduceEqDiff, reduceCtorEq, rowsB, cellsG, Nat.reduceMul, Rw.pv, fda_ptr o41_1, loadO_one ag39 sz39, h5, goO_known (show ∀ h fr, CR Tryz.prog (globM mx) md (.fn 77) [.int .i64 o.k, .int .i64 1, .int .i64 12] h fr _ from betw_c o.k 1 12)]
theorem enoughE_c (o : Rw) (ho : RwOk 43 o) (h : AH) (fr : Nat) : CR Tryz.prog (globM mx) md (.fn 81) [.agg o.pv] h fr (.val (.bool (betw o.k 1 16))) := by
  obtain ⟨h1, h3, h4, h5⟩ := ho
  refine CR.plain (rs := [.tmp 2]) Tryz.func81 rfl rfl rfl rfl rfl (by simp [PV.cleans, PV.clean, Rw.pv, h1]) rfl ?_ h fr
  simp -implicitDefEqProofs only [wpC_seq, rowsA, if_true, if_false, opnd, ofVal, ofVal1, layArgs, Nat.reduceAdd, reduceIte, Nat.reduceEqDiff, reduceCtorEq, rowsB, cellsG, Nat.reduceMul, Rw.pv, fda_ptr o45_1, loadO_one ag43 sz43, h5, goO_known (show ∀ h fr, CR Tryz.prog (globM mx) md (.fn 77) [.int .i64 o.k, .int .i64 1, .int .i64 16] h fr _ from betw_c o.k 1 16)]
def enoughB (os es : List Rw) : Bool := betw os.length 1 8 && decide (es.length ≤ 8) && os.all (fun o => betw o.k 1 12) && es.all (fun o => betw o.k 1 16)
theorem lenR {α : Type} {f : α → List PV} {v : PV} {l : List α} {t e : TypeId} (hu : Tryz.prog.underlying t = some (.slice e)) (h : RowR f v l) : lenO Tryz.prog [v] [t] = some (.q (.int .i64 l.length)) := by
  rcases h with rfl | ⟨rfl, rfl | rfl⟩
  · exact len_ro hu
  · exact len_nls hu
  · exact len_els hu
theorem enough_c {os es : List Rw} {vo ve : PV} (ho : RowR Rw.pv vo os) (he : RowR Rw.pv ve es) (h1 : ∀ o ∈ os, RwOk 39 o) (h2 : ∀ o ∈ es, RwOk 43 o) (l1 : os.length ≤ 9223372036854775807) (l2 : es.length ≤ 9223372036854775807) (h : AH) (fr : Nat) :
    CR Tryz.prog (globM mx) md (.fn 39) [.agg [vo, ve]] h fr (.val (.bool (enoughB os es))) := by
  refine CR.plain (rs := [.tmp 2]) Tryz.func39 rfl rfl rfl rfl rfl (by simp [PV.cleans, PV.clean, ho.clean, he.clean]) rfl ?_ h fr
  have k1 : ∀ h fr, CR Tryz.prog (globM mx) md (.fn 77) [.int .i64 os.length, .int .i64 1, .int .i64 8] h fr (.val (.bool (betw os.length 1 8))) := betw_c os.length 1 8
  have k2 := allO_c (mx := mx) Rw.pv (fun _ => rfl) (fun _ => rfl) (fun o => betw o.k 1 12) os l1 ho 79 [] rfl (fun o ho h fr => enoughO_c o (h1 o ho) h fr)
  have k3 := allE_c (mx := mx) Rw.pv (fun _ => rfl) (fun _ => rfl) (fun o => betw o.k 1 16) es l2 he 81 [] rfl (fun o ho h fr => enoughE_c o (h2 o ho) h fr)
  unfold enoughB
  cases c1 : betw os.length 1 8 with
  | false => simp -implicitDefEqProofs only [wpC_seq, rowsA, if_true, if_false, opnd, ofVal, ofVal1, layArgs, Nat.reduceAdd, reduceIte, Nat.reduceEqDiff, reduceCtorEq, rowsB, cellsG, Nat.reduceMul, fda_ptr o25_0, loadO_one ag22 sz22, lenR u22 ho, goO_known k1, c1, Bool.false_and]
  | true =>
    by_cases c2 : es.length ≤ 8
    · have c2' : (es.length : Int) ≤ 8 := by omega
      cases c3 : os.all (fun o => betw o.k 1 12) with
      | false => simp -implicitDefEqProofs only [wpC_seq, rowsA, if_true, if_false, opnd, ofVal, ofVal1, layArgs, Nat.reduceAdd, reduceIte, Nat.reduceEqDiff, reduceCtorEq, rowsB, cellsG, Nat.reduceMul, fda_ptr o25_0, fda_ptr o25_1, loadO_one ag22 sz22, loadO_one ag23 sz23, lenR u22 ho, lenR u23 he, goO_known k1, c1, c2, c2', goO_known k2, c3, Bool.false_and, Bool.true_and, Bool.and_false]
      | true => simp -implicitDefEqProofs only [wpC_seq, rowsA, if_true, if_false, opnd, ofVal, ofVal1, layArgs, Nat.reduceAdd, reduceIte, Nat.reduceEqDiff, reduceCtorEq, rowsB, cellsG, Nat.reduceMul, fda_ptr o25_0, fda_ptr o25_1, loadO_one ag22 sz22, loadO_one ag23 sz23, lenR u22 ho, lenR u23 he, goO_known k1, c1, c2, c2', goO_known k2, c3, goO_known k3, Bool.false_and, Bool.true_and, Bool.and_false]
    · have c2' : ¬ (es.length : Int) ≤ 8 := by omega
      simp -implicitDefEqProofs only [wpC_seq, rowsA, if_true, if_false, opnd, ofVal, ofVal1, layArgs, Nat.reduceAdd, reduceIte, Nat.reduceEqDiff, reduceCtorEq, rowsB, cellsG, Nat.reduceMul, fda_ptr o25_0, fda_ptr o25_1, loadO_one ag22 sz22, loadO_one ag23 sz23, lenR u22 ho, lenR u23 he, goO_known k1, c1, c2, c2', Bool.false_and, Bool.true_and, Bool.and_false]

def Sc.small (s : Sc) : Prop := (∀ o ∈ s.os, o.n.length ≤ 9223372036854775807 ∧ ∀ f ∈ o.fs, f.n.length ≤ 9223372036854775807) ∧ ∀ e ∈ s.es, e.n.length ≤ 9223372036854775807 ∧ e.ws.length ≤ 9223372036854775807 ∧ ∀ w ∈ e.ws, w.length ≤ 9223372036854775807
def idL : List (List UInt8) := [[105, 100], [97, 110, 100], [111, 114], [110, 111, 116]]
def wordL : List (List UInt8) := [[116, 114, 117, 101], [102, 97, 108, 115, 101], [110, 117, 108, 108]]
theorem named1_c (o : Ob) (hs : o.n.length ≤ 9223372036854775807) (h : AH) (fr : Nat) : CR Tryz.prog (globM mx) md (.fn 82) [.agg o.pv] h fr (.val (.bool (ownB mx o.n))) := by
  refine CR.plain (rs := [.tmp 2]) Tryz.func82 rfl rfl rfl rfl rfl rfl rfl ?_ h fr
  simp -implicitDefEqProofs only [wpC_seq, rowsA, if_true, if_false, opnd, ofVal, ofVal1, layArgs, Nat.reduceAdd, reduceIte, Nat.reduceEqDiff, reduceCtorEq, rowsB, cellsG, Nat.reduceMul, Ob.pv, fda_ptr o41_0, loadO_one ag9 sz9, goO_known (own_c o.n hs)]
theorem named2_c (o : Ob) (f : Fld) (hs : f.n.length ≤ 9223372036854775807) (h : AH) (fr : Nat) : CR Tryz.prog (globM mx) md (.fn 84) [.agg o.pv, .agg f.pv] h fr (.val (.bool (nmB mx f.n idL))) := by
  refine CR.plain (rs := [.tmp 4]) Tryz.func84 rfl rfl rfl rfl rfl rfl rfl ?_ h fr
  have hnm := fun (h : AH) (id : Nat) => nm_sh (mx := mx) f.n hs idL (by decide) (id := id) (h := h)
  simp -implicitDefEqProofs only [wpC_seq, rowsA, if_true, if_false, opnd, ofVal, ofVal1, layArgs, Nat.reduceAdd, reduceIte, Nat.reduceEqDiff, reduceCtorEq, rowsB, cellsG, Nat.reduceMul, Ob.len, Fld.pv, fda_ptr o33_0, loadO_one ag9 sz9, bd43_4]
  refine goO_shv (hnm _ _ (by simp only [AH.get_set, if_true]; rfl)) ?_
  simp -implicitDefEqProofs only [wpC_seq, rowsA, if_true, if_false, opnd, ofVal, ofVal1, layArgs, Nat.reduceAdd, reduceIte, Nat.reduceEqDiff, reduceCtorEq, rowsB, cellsG, Nat.reduceMul]
theorem word_c (w : List UInt8) (hs : w.length ≤ 9223372036854775807) (h : AH) (fr : Nat) : CR Tryz.prog (globM mx) md (.fn 88) [.str w] h fr (.val (.bool (nmB mx w wordL))) := by
  refine CR.plain (rs := [.tmp 2]) Tryz.func88 rfl rfl rfl rfl rfl rfl rfl ?_ h fr
  have hnm := fun (h : AH) (id : Nat) => nm_sh (mx := mx) w hs wordL (by decide) (id := id) (h := h)
  simp -implicitDefEqProofs only [wpC_seq, rowsA, if_true, if_false, opnd, ofVal, ofVal1, layArgs, Nat.reduceAdd, reduceIte, Nat.reduceEqDiff, reduceCtorEq, rowsB, cellsG, Nat.reduceMul, bd43_3]
  refine goO_shv (hnm _ _ (by simp only [AH.get_set, if_true]; rfl)) ?_
  simp -implicitDefEqProofs only [wpC_seq, rowsA, if_true, if_false, opnd, ofVal, ofVal1, layArgs, Nat.reduceAdd, reduceIte, Nat.reduceEqDiff, reduceCtorEq, rowsB, cellsG, Nat.reduceMul]
noncomputable def enmB (mx : Int) (e : En) : Bool := ownB mx e.n && e.ws.all (fun w => nmB mx w wordL)
theorem named3_c (e : En) (h1 : e.n.length ≤ 9223372036854775807) (h2 : e.ws.length ≤ 9223372036854775807) (h3 : ∀ w ∈ e.ws, w.length ≤ 9223372036854775807) (h : AH) (fr : Nat) : CR Tryz.prog (globM mx) md (.fn 86) [.agg e.pv] h fr (.val (.bool (enmB mx e))) := by
  refine CR.plain (rs := [.tmp 2]) Tryz.func86 rfl rfl rfl rfl rfl rfl rfl ?_ h fr
  have k1 := allS_c (mx := mx) (fun w => nmB mx w wordL) e.ws h2 (.inl rfl) 88 [] rfl (fun w hw h fr => word_c w (h3 w hw) h fr)
  unfold enmB
  cases c1 : ownB mx e.n with
  | false => simp -implicitDefEqProofs only [wpC_seq, rowsA, if_true, if_false, opnd, ofVal, ofVal1, layArgs, Nat.reduceAdd, reduceIte, Nat.reduceEqDiff, reduceCtorEq, rowsB, cellsG, Nat.reduceMul, En.pv, fda_ptr o45_0, loadO_one ag9 sz9, goO_known (own_c e.n h1), c1, Bool.false_and]
  | true => simp -implicitDefEqProofs only [wpC_seq, rowsA, if_true, if_false, opnd, ofVal, ofVal1, layArgs, Nat.reduceAdd, reduceIte, Nat.reduceEqDiff, reduceCtorEq, rowsB, cellsG, Nat.reduceMul, En.pv, fda_ptr o45_0, fda_ptr o45_1, loadO_one ag9 sz9, loadO_one ag43 sz43, goO_known (own_c e.n h1), c1, goO_known k1, Bool.true_and]
noncomputable def namedB (mx : Int) (s : Sc) : Bool := s.os.all (fun o => ownB mx o.n) && s.os.all (fun o => o.fs.all (fun f => nmB mx f.n idL)) && s.es.all (enmB mx)
theorem named_c {s : Sc} {ve : PV} (hv : RowR En.pv ve s.es) (hs : s.fits) (hm : s.small) (h : AH) (fr : Nat) : CR Tryz.prog (globM mx) md (.fn 40) [.agg (scV s ve)] h fr (.val (.bool (namedB mx s))) := by
  refine CR.plain (rs := [.tmp 2]) Tryz.func40 rfl rfl rfl rfl rfl (by simp [PV.cleans, PV.clean, scV_clean hv]) rfl ?_ h fr
  have k1 := allO_c (mx := mx) Ob.pv (fun _ => rfl) Ob.goes (fun o => ownB mx o.n) s.os hs.1 (.inl rfl) 82 [] rfl (fun o ho h fr => named1_c o (hm.1 o ho).1 h fr)
  have k2 := fields1_c (mx := mx) (kh := 84) (ch := []) (q := fun _ f => nmB mx f.n idL) rfl hv hs (fun o ho f hf h fr => named2_c o f ((hm.1 o ho).2 f hf) h fr)
  have k3 := allE_c (mx := mx) En.pv (fun _ => rfl) En.goes (enmB mx) s.es hs.2.1 hv 86 [] rfl (fun e he h fr => named3_c e (hm.2 e he).1 (hm.2 e he).2.1 (hm.2 e he).2.2 h fr)
  have hld := ld25v s (ve := ve)
  unfold namedB
  rw [scV] at hld k2
  cases c1 : s.os.all (fun o => ownB mx o.n) with
  | false => simp -implicitDefEqProofs only [wpC_seq, rowsA, if_true, if_false, opnd, ofVal, ofVal1, layArgs, Nat.reduceAdd, reduceIte, Nat.reduceEqDiff, reduceCtorEq, rowsB, cellsG, Nat.reduceMul, scV, fda_ptr o25_0, loadO_one ag22 sz22, goO_known k1, c1, Bool.false_and]
  | true =>
    cases c2 : s.os.all (fun o => o.fs.all (fun f => nmB mx f.n idL)) with
    | false => simp -implicitDefEqProofs only [wpC_seq, rowsA, if_true, if_false, opnd, ofVal, ofVal1, layArgs, Nat.reduceAdd, reduceIte, Nat.reduceEqDiff, reduceCtorEq, rowsB, cellsG, Nat.reduceMul, scV, fda_ptr o25_0, fda_ptr o25_1, loadO_one ag22 sz22, loadO_one ag23 sz23, goO_known k1, c1, hld, goO_known k2, c2, Bool.false_and, Bool.true_and]
    | true => simp -implicitDefEqProofs only [wpC_seq, rowsA, if_true, if_false, opnd, ofVal, ofVal1, layArgs, Nat.reduceAdd, reduceIte, Nat.reduceEqDiff, reduceCtorEq, rowsB, cellsG, Nat.reduceMul, scV, fda_ptr o25_0, fda_ptr o25_1, loadO_one ag22 sz22, loadO_one ag23 sz23, goO_known k1, c1, hld, goO_known k2, c2, goO_known k3, Bool.true_and]
end Go.Proofs.YtcbngkmmmfaaoaaGreatDoor
namespace Go.Proofs.YtcbngkmmmfaaoaaGreatDoor
open Go.RowKit Go.Lib Go.Ac
set_option linter.unusedSimpArgs false
set_option maxRecDepth 100000
variable {mx : Int}

theorem z33 : tyZero Tryz.prog 33 = some [.str [], .str [], .str [], .bool false, .str []] := by kernel_rfl
theorem st33 (f : Fld) (id : Nat) (c : List PV) (hc : c.length = 5) : stoG id 5 0 (.agg f.pv) 5 (some (.cells 33 0 false c)) = some (.w .undef id (.cells 33 0 false f.pv)) := stoG_all id 5 0 33 (.agg f.pv) c hc rfl rfl
theorem al33 {ρ : Operand → PV} {h : AH} {fr : Nat} {d : Option Tmp} {ty : TypeId} {ps : String} {af : Array Edge} {gu : Option (Nat × Bool)} : aop Tryz.prog ρ h fr ⟨d, .alloc 33, ty, ps, af, gu⟩ = some (.w (.ptr fr 5 0) fr (.cells 33 0 false [.str [], .str [], .str [], .bool false, .str []])) := by
  rw [aop_alloc, z33]
  rfl
theorem idx_range {α : Type} (p : α → Bool) : ∀ (l : List α) (i : Nat), idx p l i = -1 ∨ ∃ j x, idx p l i = ((i + j : Nat) : Int) ∧ l[j]? = some x ∧ p x = true
  | [], _ => .inl rfl
  | x :: l, i => by
    rw [idx]
    by_cases h : p x = true
    · rw [if_pos h]
      exact .inr ⟨0, x, by simp, rfl, h⟩
    · rw [if_neg h]
      rcases idx_range p l (i + 1) with h1 | ⟨j, y, h1, h2, h3⟩
      · exact .inl h1
      · exact .inr ⟨j + 1, y, by rw [h1]; congr 1; omega, by simpa using h2, h3⟩
theorem edge_range (s : Sc) (f : Fld) : edgeOf s f = -1 ∨ ∃ (j : Nat) (o : Ob), edgeOf s f = (j : Int) ∧ s.os[j]? = some o := by
  unfold edgeOf
  split
  · exact .inl rfl
  · rcases idx_range (fun o : Ob => decide (o.n = f.t)) s.os 0 with h | ⟨j, x, h1, h2, _⟩
    · exact .inl h
    · exact .inr ⟨j, x, by unfold objAt; rw [h1]; simp, h2⟩
end Go.Proofs.YtcbngkmmmfaaoaaGreatDoor
