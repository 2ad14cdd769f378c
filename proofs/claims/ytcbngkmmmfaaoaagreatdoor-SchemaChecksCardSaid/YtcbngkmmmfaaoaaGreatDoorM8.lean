/-
  JOINED TEXTS (L0 L2 L3 L4 L5 L6): a pure machine for the model's code, its soundness, and what the program's functions come to.
-/
import Derived.Test.YtcbngkmmmfaaoaaGreatDoorM7
import Derived.Test.YtcbngkmmmfaaoaaGreatDoorM4
import Derived.Shelf.Unicode.DecodeAny
import Derived.Shelf.Strings.Replace
import Derived.Shelf.Strings.SlTrimAscii
import Derived.Shelf.Strings.Split
import Derived.Shelf.Strings.OnBuilder
import Derived.Lib.MapLaws
import Derived.Lib.TrimU
set_option linter.unusedVariables false
set_option linter.unusedSimpArgs false
namespace Go.Proofs.YtcbngkmmmfaaoaaGreatDoor
open Go.RowKit Go.Shelf Go.Lib Go.Ac
set_option linter.unusedSimpArgs false
set_option maxRecDepth 100000

def lren : Ren where
  f := fun | 119 => 210 | 137 => 173 | 138 => 224 | 143 => 225 | 146 => 205 | 151 => 228 | 152 => 236 | 154 => 211 | 155 => 204 | 156 => 198 | 161 => 206 | 165 => 207 | 166 => 189 | 169 => 191 | 195 => 233 | 197 => 194 | 217 => 185 | 218 => 234 | 219 => 235 | 221 => 212 | 224 => 239 | 225 => 238 | 227 => 214 | 228 => 227 | 231 => 213 | 233 => 215 | 235 => 216 | 240 => 195 | 241 => 217 | 260 => 202 | 266 => 193 | 267 => 240 | 268 => 226 | 276 => 203 | 277 => 229 | 314 => 242 | n => n
  t := fun | 31 => 43 | 37 => 171 | 46 => 120 | 51 => 135 | 70 => 183 | 72 => 185 | 75 => 187 | 76 => 188 | 80 => 177 | 105 => 190 | 116 => 214 | 117 => 215 | 119 => 206 | 124 => 218 | 127 => 193 | 138 => 208 | 139 => 209 | 146 => 237 | 164 => 198 | n => n
  g := fun | 1 => 0 | 3 => 1 | 4 => 2 | n => n
theorem laysDecode : Lays.n197 Tryz.prog lren := {
  mixed := by kernel_rfl
  f197 := Tryz.func194.trans (congrArg some (by kernel_rfl))
  f260 := Tryz.func202.trans (congrArg some (by kernel_rfl))
  t0 := Tryz.underlying0
  a0 := Tryz.isAgg0
  z0 := Tryz.sizeOf0
  v0 := Tryz.zeroValue0
  t3 := Tryz.underlying3
  a3 := Tryz.isAgg3
  z3 := Tryz.sizeOf3
  v3 := Tryz.zeroValue3
  t4 := Tryz.underlying4
  a4 := Tryz.isAgg4
  z4 := Tryz.sizeOf4
  v4 := Tryz.zeroValue4
  t5 := Tryz.underlying5
  a5 := Tryz.isAgg5
  z5 := Tryz.sizeOf5
  v5 := Tryz.zeroValue5
  t9 := Tryz.underlying9
  a9 := Tryz.isAgg9
  z9 := Tryz.sizeOf9
  v9 := Tryz.zeroValue9
  t21 := Tryz.underlying21
  a21 := Tryz.isAgg21
  z21 := Tryz.sizeOf21
  v21 := Tryz.zeroValue21
  t46 := Tryz.underlying120
  a46 := Tryz.isAgg120
  z46 := Tryz.sizeOf120
  v46 := Tryz.zeroValue120
  t105 := Tryz.underlying190
  a105 := Tryz.isAgg190
  z105 := Tryz.sizeOf190
  v105 := Tryz.zeroValue190
  t119 := Tryz.underlying206
  a119 := Tryz.isAgg206
  z119 := Tryz.sizeOf206
  t138 := Tryz.underlying208
  a138 := Tryz.isAgg208
  z138 := Tryz.sizeOf208
  v138 := Tryz.zeroValue208
  t139 := Tryz.underlying209
  a139 := Tryz.isAgg209
  z139 := Tryz.sizeOf209
  v139 := Tryz.zeroValue209
  g3 := by kernel_rfl
  g4 := by kernel_rfl }
theorem laysRepl : Lays.n155 Tryz.prog lren := {
  mixed := by kernel_rfl
  f138 := Tryz.func224.trans (congrArg some (by kernel_rfl))
  f143 := Tryz.func225.trans (congrArg some (by kernel_rfl))
  f154 := Tryz.func211.trans (congrArg some (by kernel_rfl))
  f155 := Tryz.func204.trans (congrArg some (by kernel_rfl))
  f165 := Tryz.func207.trans (congrArg some (by kernel_rfl))
  f166 := Tryz.func189.trans (congrArg some (by kernel_rfl))
  f169 := Tryz.func191.trans (congrArg some (by kernel_rfl))
  f195 := Tryz.func233.trans (congrArg some (by kernel_rfl))
  f197 := Tryz.func194.trans (congrArg some (by kernel_rfl))
  f217 := Tryz.func185.trans (congrArg some (by kernel_rfl))
  f218 := Tryz.func234.trans (congrArg some (by kernel_rfl))
  f219 := Tryz.func235.trans (congrArg some (by kernel_rfl))
  f224 := Tryz.func239.trans (congrArg some (by kernel_rfl))
  f225 := Tryz.func238.trans (congrArg some (by kernel_rfl))
  f240 := Tryz.func195.trans (congrArg some (by kernel_rfl))
  f241 := Tryz.func217.trans (congrArg some (by kernel_rfl))
  f260 := Tryz.func202.trans (congrArg some (by kernel_rfl))
  f266 := Tryz.func193.trans (congrArg some (by kernel_rfl))
  f267 := Tryz.func240.trans (congrArg some (by kernel_rfl))
  f276 := Tryz.func203.trans (congrArg some (by kernel_rfl))
  f277 := Tryz.func229.trans (congrArg some (by kernel_rfl))
  f314 := Tryz.func242.trans (congrArg some (by kernel_rfl))
  t0 := Tryz.underlying0
  a0 := Tryz.isAgg0
  z0 := Tryz.sizeOf0
  v0 := Tryz.zeroValue0
  t3 := Tryz.underlying3
  a3 := Tryz.isAgg3
  z3 := Tryz.sizeOf3
  v3 := Tryz.zeroValue3
  t4 := Tryz.underlying4
  a4 := Tryz.isAgg4
  z4 := Tryz.sizeOf4
  v4 := Tryz.zeroValue4
  t5 := Tryz.underlying5
  a5 := Tryz.isAgg5
  z5 := Tryz.sizeOf5
  v5 := Tryz.zeroValue5
  t9 := Tryz.underlying9
  a9 := Tryz.isAgg9
  z9 := Tryz.sizeOf9
  v9 := Tryz.zeroValue9
  t20 := Tryz.underlying20
  a20 := Tryz.isAgg20
  z20 := Tryz.sizeOf20
  v20 := Tryz.zeroValue20
  t21 := Tryz.underlying21
  a21 := Tryz.isAgg21
  z21 := Tryz.sizeOf21
  v21 := Tryz.zeroValue21
  t37 := Tryz.underlying171
  a37 := Tryz.isAgg171
  z37 := Tryz.sizeOf171
  v37 := Tryz.zeroValue171
  t46 := Tryz.underlying120
  a46 := Tryz.isAgg120
  z46 := Tryz.sizeOf120
  v46 := Tryz.zeroValue120
  t51 := Tryz.underlying135
  a51 := Tryz.isAgg135
  z51 := Tryz.sizeOf135
  v51 := Tryz.zeroValue135
  t70 := Tryz.underlying183
  a70 := Tryz.isAgg183
  z70 := Tryz.sizeOf183
  v70 := Tryz.zeroValue183
  t72 := Tryz.underlying185
  a72 := Tryz.isAgg185
  z72 := Tryz.sizeOf185
  v72 := Tryz.zeroValue185
  t75 := Tryz.underlying187
  a75 := Tryz.isAgg187
  z75 := Tryz.sizeOf187
  v75 := Tryz.zeroValue187
  t76 := Tryz.underlying188
  a76 := Tryz.isAgg188
  z76 := Tryz.sizeOf188
  v76 := Tryz.zeroValue188
  t105 := Tryz.underlying190
  a105 := Tryz.isAgg190
  z105 := Tryz.sizeOf190
  v105 := Tryz.zeroValue190
  t119 := Tryz.underlying206
  a119 := Tryz.isAgg206
  z119 := Tryz.sizeOf206
  t127 := Tryz.underlying193
  a127 := Tryz.isAgg193
  z127 := Tryz.sizeOf193
  v127 := Tryz.zeroValue193
  t138 := Tryz.underlying208
  a138 := Tryz.isAgg208
  z138 := Tryz.sizeOf208
  v138 := Tryz.zeroValue208
  t139 := Tryz.underlying209
  a139 := Tryz.isAgg209
  z139 := Tryz.sizeOf209
  v139 := Tryz.zeroValue209
  t146 := Tryz.underlying237
  a146 := Tryz.isAgg237
  z146 := Tryz.sizeOf237
  v146 := Tryz.zeroValue237
  t164 := Tryz.underlying198
  a164 := Tryz.isAgg198
  z164 := Tryz.sizeOf198
  v164 := Tryz.zeroValue198
  g1 := by kernel_rfl
  g3 := by kernel_rfl
  g4 := by kernel_rfl }
theorem laysTrim : Lays.n161 Tryz.prog lren := {
  mixed := by kernel_rfl
  f119 := Tryz.func210.trans (congrArg some (by kernel_rfl))
  f137 := Tryz.func173.trans (congrArg some (by kernel_rfl))
  f151 := Tryz.func228.trans (congrArg some (by kernel_rfl))
  f152 := Tryz.func236.trans (congrArg some (by kernel_rfl))
  f161 := Tryz.func206.trans (congrArg some (by kernel_rfl))
  f197 := Tryz.func194.trans (congrArg some (by kernel_rfl))
  f217 := Tryz.func185.trans (congrArg some (by kernel_rfl))
  f224 := Tryz.func239.trans (congrArg some (by kernel_rfl))
  f225 := Tryz.func238.trans (congrArg some (by kernel_rfl))
  f227 := Tryz.func214.trans (congrArg some (by kernel_rfl))
  f228 := Tryz.func227.trans (congrArg some (by kernel_rfl))
  f231 := Tryz.func213.trans (congrArg some (by kernel_rfl))
  f233 := Tryz.func215.trans (congrArg some (by kernel_rfl))
  f235 := Tryz.func216.trans (congrArg some (by kernel_rfl))
  f260 := Tryz.func202.trans (congrArg some (by kernel_rfl))
  f266 := Tryz.func193.trans (congrArg some (by kernel_rfl))
  t0 := Tryz.underlying0
  a0 := Tryz.isAgg0
  z0 := Tryz.sizeOf0
  v0 := Tryz.zeroValue0
  t3 := Tryz.underlying3
  a3 := Tryz.isAgg3
  z3 := Tryz.sizeOf3
  v3 := Tryz.zeroValue3
  t4 := Tryz.underlying4
  a4 := Tryz.isAgg4
  z4 := Tryz.sizeOf4
  v4 := Tryz.zeroValue4
  t5 := Tryz.underlying5
  a5 := Tryz.isAgg5
  z5 := Tryz.sizeOf5
  v5 := Tryz.zeroValue5
  t9 := Tryz.underlying9
  a9 := Tryz.isAgg9
  z9 := Tryz.sizeOf9
  v9 := Tryz.zeroValue9
  t21 := Tryz.underlying21
  a21 := Tryz.isAgg21
  z21 := Tryz.sizeOf21
  v21 := Tryz.zeroValue21
  t46 := Tryz.underlying120
  a46 := Tryz.isAgg120
  z46 := Tryz.sizeOf120
  v46 := Tryz.zeroValue120
  t105 := Tryz.underlying190
  a105 := Tryz.isAgg190
  z105 := Tryz.sizeOf190
  v105 := Tryz.zeroValue190
  t116 := Tryz.underlying214
  a116 := Tryz.isAgg214
  z116 := Tryz.sizeOf214
  t117 := Tryz.underlying215
  a117 := Tryz.isAgg215
  z117 := Tryz.sizeOf215
  v117 := Tryz.zeroValue215
  t119 := Tryz.underlying206
  a119 := Tryz.isAgg206
  z119 := Tryz.sizeOf206
  t124 := Tryz.underlying218
  a124 := Tryz.isAgg218
  z124 := Tryz.sizeOf218
  v124 := Tryz.zeroValue218
  t138 := Tryz.underlying208
  a138 := Tryz.isAgg208
  z138 := Tryz.sizeOf208
  v138 := Tryz.zeroValue208
  t139 := Tryz.underlying209
  a139 := Tryz.isAgg209
  z139 := Tryz.sizeOf209
  v139 := Tryz.zeroValue209
  g3 := by kernel_rfl
  g4 := by kernel_rfl }
theorem laysSplit : Lays.n146 Tryz.prog lren := {
  mixed := by kernel_rfl
  f138 := Tryz.func224.trans (congrArg some (by kernel_rfl))
  f143 := Tryz.func225.trans (congrArg some (by kernel_rfl))
  f146 := Tryz.func205.trans (congrArg some (by kernel_rfl))
  f195 := Tryz.func233.trans (congrArg some (by kernel_rfl))
  f197 := Tryz.func194.trans (congrArg some (by kernel_rfl))
  f217 := Tryz.func185.trans (congrArg some (by kernel_rfl))
  f218 := Tryz.func234.trans (congrArg some (by kernel_rfl))
  f219 := Tryz.func235.trans (congrArg some (by kernel_rfl))
  f221 := Tryz.func212.trans (congrArg some (by kernel_rfl))
  f224 := Tryz.func239.trans (congrArg some (by kernel_rfl))
  f225 := Tryz.func238.trans (congrArg some (by kernel_rfl))
  f260 := Tryz.func202.trans (congrArg some (by kernel_rfl))
  f266 := Tryz.func193.trans (congrArg some (by kernel_rfl))
  f267 := Tryz.func240.trans (congrArg some (by kernel_rfl))
  f268 := Tryz.func226.trans (congrArg some (by kernel_rfl))
  f314 := Tryz.func242.trans (congrArg some (by kernel_rfl))
  t0 := Tryz.underlying0
  a0 := Tryz.isAgg0
  z0 := Tryz.sizeOf0
  v0 := Tryz.zeroValue0
  t3 := Tryz.underlying3
  a3 := Tryz.isAgg3
  z3 := Tryz.sizeOf3
  v3 := Tryz.zeroValue3
  t4 := Tryz.underlying4
  a4 := Tryz.isAgg4
  z4 := Tryz.sizeOf4
  v4 := Tryz.zeroValue4
  t5 := Tryz.underlying5
  a5 := Tryz.isAgg5
  z5 := Tryz.sizeOf5
  v5 := Tryz.zeroValue5
  t9 := Tryz.underlying9
  a9 := Tryz.isAgg9
  z9 := Tryz.sizeOf9
  v9 := Tryz.zeroValue9
  t21 := Tryz.underlying21
  a21 := Tryz.isAgg21
  z21 := Tryz.sizeOf21
  v21 := Tryz.zeroValue21
  t31 := Tryz.underlying43
  a31 := Tryz.isAgg43
  z31 := Tryz.sizeOf43
  v31 := Tryz.zeroValue43
  t46 := Tryz.underlying120
  a46 := Tryz.isAgg120
  z46 := Tryz.sizeOf120
  v46 := Tryz.zeroValue120
  t51 := Tryz.underlying135
  a51 := Tryz.isAgg135
  z51 := Tryz.sizeOf135
  v51 := Tryz.zeroValue135
  t105 := Tryz.underlying190
  a105 := Tryz.isAgg190
  z105 := Tryz.sizeOf190
  v105 := Tryz.zeroValue190
  t119 := Tryz.underlying206
  a119 := Tryz.isAgg206
  z119 := Tryz.sizeOf206
  t138 := Tryz.underlying208
  a138 := Tryz.isAgg208
  z138 := Tryz.sizeOf208
  v138 := Tryz.zeroValue208
  t139 := Tryz.underlying209
  a139 := Tryz.isAgg209
  z139 := Tryz.sizeOf209
  v139 := Tryz.zeroValue209
  t146 := Tryz.underlying237
  a146 := Tryz.isAgg237
  z146 := Tryz.sizeOf237
  v146 := Tryz.zeroValue237
  g1 := by kernel_rfl
  g3 := by kernel_rfl
  g4 := by kernel_rfl }
theorem laysJoin : Lays.n156 Tryz.prog lren := {
  mixed := by kernel_rfl
  f156 := Tryz.func198.trans (congrArg some (by kernel_rfl))
  f165 := Tryz.func207.trans (congrArg some (by kernel_rfl))
  f166 := Tryz.func189.trans (congrArg some (by kernel_rfl))
  f169 := Tryz.func191.trans (congrArg some (by kernel_rfl))
  f240 := Tryz.func195.trans (congrArg some (by kernel_rfl))
  f241 := Tryz.func217.trans (congrArg some (by kernel_rfl))
  f276 := Tryz.func203.trans (congrArg some (by kernel_rfl))
  f277 := Tryz.func229.trans (congrArg some (by kernel_rfl))
  t0 := Tryz.underlying0
  a0 := Tryz.isAgg0
  z0 := Tryz.sizeOf0
  v0 := Tryz.zeroValue0
  t3 := Tryz.underlying3
  a3 := Tryz.isAgg3
  z3 := Tryz.sizeOf3
  v3 := Tryz.zeroValue3
  t4 := Tryz.underlying4
  a4 := Tryz.isAgg4
  z4 := Tryz.sizeOf4
  v4 := Tryz.zeroValue4
  t9 := Tryz.underlying9
  a9 := Tryz.isAgg9
  z9 := Tryz.sizeOf9
  v9 := Tryz.zeroValue9
  t20 := Tryz.underlying20
  a20 := Tryz.isAgg20
  z20 := Tryz.sizeOf20
  v20 := Tryz.zeroValue20
  t31 := Tryz.underlying43
  a31 := Tryz.isAgg43
  z31 := Tryz.sizeOf43
  v31 := Tryz.zeroValue43
  t37 := Tryz.underlying171
  a37 := Tryz.isAgg171
  z37 := Tryz.sizeOf171
  v37 := Tryz.zeroValue171
  t70 := Tryz.underlying183
  a70 := Tryz.isAgg183
  z70 := Tryz.sizeOf183
  v70 := Tryz.zeroValue183
  t72 := Tryz.underlying185
  a72 := Tryz.isAgg185
  z72 := Tryz.sizeOf185
  v72 := Tryz.zeroValue185
  t75 := Tryz.underlying187
  a75 := Tryz.isAgg187
  z75 := Tryz.sizeOf187
  v75 := Tryz.zeroValue187
  t76 := Tryz.underlying188
  a76 := Tryz.isAgg188
  z76 := Tryz.sizeOf188
  v76 := Tryz.zeroValue188
  t127 := Tryz.underlying193
  a127 := Tryz.isAgg193
  z127 := Tryz.sizeOf193
  v127 := Tryz.zeroValue193
  t164 := Tryz.underlying198
  a164 := Tryz.isAgg198
  z164 := Tryz.sizeOf198
  v164 := Tryz.zeroValue198 }
theorem extra : Builder.Extra Tryz.prog lren := {
  sizeBuilder := by kernel_rfl
  liesBuilder := by kernel_rfl
  t5 := Tryz.underlying5
  a5 := Tryz.isAgg5
  z5 := Tryz.sizeOf5
  v5 := Tryz.zeroValue5
  infoByte := by kernel_rfl
  cellsByte := by kernel_rfl
  sizeByte := by kernel_rfl
  neB5 := by decide }
variable {mx : Int}

section
variable {g : Gh} {h : AH} {N : Nat} {w0 w : World}
theorem WRel.later (hw : WRel g h N w0 w) {w' : World} (hb : Below w.heap.size w w') : WRel g h N w0 w' := by
  refine ⟨hw.below.trans (hb.mono hw.n0), Nat.le_trans hw.n0 hb.size, fun b C hC => ?_, fun id o ho => ?_, hw.inj, hw.dead⟩
  · obtain ⟨c, E, z, hc, hv⟩ := hw.ros b C hC
    exact ⟨c, E, z, by rw [hb.block b (Array.getElem?_eq_some_iff.1 hc).1]; exact hc, hv⟩
  · obtain ⟨k1, k2, k3, k4⟩ := hw.objs id o ho
    exact ⟨k1, k2, Nat.lt_of_lt_of_le k3 hb.size, k4.keep (Gh.Le.refl _) rfl rfl rfl rfl (hb.block _ k3) (fun q => q)⟩
theorem next_of {k : FuncId} {fn : Func} {c : Code} (hf : Tryz.prog.funcs[k]? = some fn) (hb : fn.body = some c) (hn : (fn.name == "runtime.NumGoroutine") = false) {vs : Array Value} {Q : Ending → World → Prop} {R : Bool → Value → World → Prop} (h : Calls Tryz.prog k vs w Q) (hq : ∀ e w', Q e w' → ∃ u, e = .returned u ∧ R false u w') : NextOk Tryz.prog (callFunc k vs) w R := by
  refine next_of_calls hf hb (by rw [hn]; simp) (callsIn_wide.2 (h.mono fun e w' q => ?_))
  obtain ⟨u, rfl, r⟩ := hq e w' q
  exact r
theorem post_val (hw : WRel g h N w0 w) {w' : World} (hb : Below w.heap.size w w') {fr : Nat} {v : PV} {u : Value} (hr : Rep g v u) : CResOk g h N w0 fr (.val v) false u w' :=
  ⟨rfl, g, Gh.Le.refl g, fun _ q => .inl q, fun _ _ q => .inl q, WRel.later hw hb, Nat.le_refl _, hr⟩
theorem post_sh (hw : WRel g h N w0 w) {w' : World} (hb : Below w.heap.size w w') {fr : Nat} {v : PV} {u : Value} (hr : Rep g v u) : CResOk g h N w0 fr (.sh v h) false u w' :=
  ⟨rfl, g, Gh.Le.refl g, fun _ q => .inl q, fun _ _ q => .inl q, WRel.later hw hb, Nat.le_refl _, hr⟩
theorem cell_of_glob {g : Gh} {w : World} (hG : GlobOk g (globM mx)) (ros : ∀ b C, g.ro b = some C → ∃ c E z, w.heap[b]? = some (.cells c E z) ∧ ∀ (i : Nat) (v : Value), C[i]? = some v → c[i]? = some v) : w.cell? ⟨0, 0, none⟩ = some (.int .i64 mx) :=
  cell_of_table (k := .i64) (zs := [mx]) (hG 0 _ rfl) ros 0 mx rfl
theorem tabs_of_glob {g : Gh} {w : World} (hG : GlobOk g (globM mx)) (ros : ∀ b C, g.ro b = some C → ∃ c E z, w.heap[b]? = some (.cells c E z) ∧ ∀ (i : Nat) (v : Value), C[i]? = some v → c[i]? = some v) : Utf8Tabs 1 2 w := by
  refine ⟨fun c hc => cell_of_table (hG 1 _ rfl) ros c _ (firstTab_at c hc), fun i hi => ⟨?_, ?_⟩⟩
  · refine cell_of_table (hG 2 _ rfl) ros (2 * i) _ ?_
    rw [accTab_eq, List.getElem?_map, List.getElem?_range (by omega)]
    simp
  · refine cell_of_table (hG 2 _ rfl) ros (2 * i + 1) _ ?_
    rw [accTab_eq, List.getElem?_map, List.getElem?_range (by omega)]
    rw [Option.map_some, if_neg (by omega), show (2 * i + 1) / 2 = i by omega]
end
theorem str_eq (s : ByteArray) : (⟨s.data.toList.toArray⟩ : ByteArray) = s := by cases s; simp
theorem one_arg {g : Gh} {l : List UInt8} {vs : Array Value} (h : Reps g [.str l] vs.toList) : ∃ s : ByteArray, vs = #[.string s] ∧ s.data.toList = l := by
  cases vs with
  | mk vs =>
    cases h with
    | cons _ _ v vs' h1 h2 =>
      cases h2
      cases h1 with
      | str _ s e => exact ⟨s, rfl, e⟩
theorem two_args {g : Gh} {l m : List UInt8} {vs : Array Value} (h : Reps g [.str l, .str m] vs.toList) : ∃ s t : ByteArray, vs = #[.string s, .string t] ∧ s.data.toList = l ∧ t.data.toList = m := by
  cases vs with
  | mk vs =>
    cases h with
    | cons _ _ v vs' h1 h2 =>
      cases h2 with
      | cons _ _ v2 vs2 h3 h4 =>
        cases h4
        cases h1 with
        | str _ s e => cases h3 with
          | str _ t e2 => exact ⟨s, t, rfl, e, e2⟩
theorem three_args {g : Gh} {l m n : List UInt8} {vs : Array Value} (h : Reps g [.str l, .str m, .str n] vs.toList) : ∃ s t r : ByteArray, vs = #[.string s, .string t, .string r] ∧ s.data.toList = l ∧ t.data.toList = m ∧ r.data.toList = n := by
  cases vs with
  | mk vs =>
    cases h with
    | cons _ _ v vs' h1 h2 =>
      cases h2 with
      | cons _ _ v2 vs2 h3 h4 =>
        cases h4 with
        | cons _ _ v3 vs3 h5 h6 =>
          cases h6
          cases h1 with
          | str _ s e => cases h3 with
            | str _ t e2 => cases h5 with
              | str _ r e3 => exact ⟨s, t, r, rfl, e, e2, e3⟩
theorem strsOf_some : ∀ {l : List PV} {L : List (List UInt8)}, strsOf l = some L → l = L.map PV.str
  | [], _, h => by
    obtain rfl := Option.some.inj h
    rfl
  | .str s :: l, L, h => by
    simp only [strsOf, Option.map_eq_some_iff] at h
    obtain ⟨M, h1, rfl⟩ := h
    rw [strsOf_some h1]
    rfl
  | .undef :: _, _, h => by simp [strsOf] at h
  | .bool _ :: _, _, h => by simp [strsOf] at h
  | .int _ _ :: _, _, h => by simp [strsOf] at h
  | .flt _ _ :: _, _, h => by simp [strsOf] at h
  | .ro _ _ :: _, _, h => by simp [strsOf] at h
  | .ow _ _ _ _ :: _, _, h => by simp [strsOf] at h
  | .nls :: _, _, h => by simp [strsOf] at h
  | .els :: _, _, h => by simp [strsOf] at h
  | .emp :: _, _, h => by simp [strsOf] at h
  | .rop _ :: _, _, h => by simp [strsOf] at h
  | .ptr _ _ _ :: _, _, h => by simp [strsOf] at h
  | .npt :: _, _, h => by simp [strsOf] at h
  | .anyp :: _, _, h => by simp [strsOf] at h
  | .map _ :: _, _, h => by simp [strsOf] at h
  | .nmap :: _, _, h => by simp [strsOf] at h
  | .fn _ _ _ :: _, _, h => by simp [strsOf] at h
  | .yld _ :: _, _, h => by simp [strsOf] at h
  | .nfn :: _, _, h => by simp [strsOf] at h
  | .iface _ _ :: _, _, h => by simp [strsOf] at h
  | .nif :: _, _, h => by simp [strsOf] at h
  | .agg _ :: _, _, h => by simp [strsOf] at h
  | .tup _ :: _, _, h => by simp [strsOf] at h
  | .iter _ :: _, _, h => by simp [strsOf] at h
theorem reps_strs (g : Gh) : ∀ L : List ByteArray, Reps g (L.map fun b => .str b.data.toList) (L.map Value.string)
  | [] => .nil
  | b :: L => .cons _ _ _ _ (.str _ b rfl) (reps_strs g L)
theorem ones_strs (L : List ByteArray) : PV.ones (L.map fun b => .str b.data.toList) = true := by
  simp only [PV.ones, List.all_eq_true]
  intro x hx
  obtain ⟨b, _, rfl⟩ := List.mem_map.1 hx
  rfl
theorem strs_out {g : Gh} : ∀ (L : List (List UInt8)) (vs : List Value), Reps g (L.map PV.str) vs → ∃ xs : List ByteArray, L = xs.map (fun b => b.data.toList) ∧ vs = xs.map Value.string
  | [], _, h => by cases h; exact ⟨[], rfl, rfl⟩
  | l :: L, _, h => by
    cases h with
    | cons _ _ v vs h1 h2 =>
      cases h1 with
      | str _ s e =>
        obtain ⟨xs, e1, e2⟩ := strs_out L vs h2
        exact ⟨s :: xs, by rw [e1, ← e]; rfl, by rw [e2]; rfl⟩
theorem lib_of {k : FuncId} {G : List PV → Option PV} (H : ∀ args v, G args = some v → ∀ (g : Gh) (h : AH) (N : Nat) (w0 w : World) (vs : Array Value) (fr : Nat), GlobOk g (globM mx) → WRel g h N w0 w → Reps g args vs.toList → NextOk Tryz.prog (callFunc k vs) w (CResOk g h N w0 fr (.val v))) : LibOk Tryz.prog (globM mx) k fun args _ _ => (G args).map CRes.val := by
  refine ⟨fun args h fr r he g N w0 w vs hG hw hal hn hr => ?_, fun args h fr => ⟨fun v he h' fr' => he, fun v o he h' => ?_⟩⟩
  · obtain ⟨v, hv, rfl⟩ := Option.map_eq_some_iff.1 he
    exact H args v hv g h N w0 w vs fr hG hw hr
  · obtain ⟨v, hv, q⟩ := Option.map_eq_some_iff.1 he
    cases q

theorem decode_ok : LibOk Tryz.prog (globM mx) 194 decodeF := by
  refine lib_of (G := decodeG) fun args v he g h N w0 w vs fr hG hw hr => ?_
  unfold decodeG at he
  split at he
  · rename_i l
    obtain rfl := Option.some.inj he
    obtain ⟨s, rfl, rfl⟩ := one_arg hr
    refine next_of Tryz.func194 rfl rfl (Any.utf8_DecodeRuneInString laysDecode s w (tabs_of_glob hG hw.ros)) ?_
    rintro e w' ⟨rfl, hb⟩
    refine ⟨_, rfl, post_val hw hb ?_⟩
    rw [str_eq]
    exact .tup _ _ (.cons _ _ _ _ (.int _ _) (.cons _ _ _ _ (.int _ _) .nil))
  · simp at he
theorem repl_ok : LibOk Tryz.prog (globM mx) 204 replF := by
  refine lib_of (G := replG) fun args v he g h N w0 w vs fr hG hw hr => ?_
  unfold replG at he
  split at he
  · rename_i l m n
    split at he
    · rename_i hc
      obtain rfl := Option.some.inj he
      obtain ⟨s, t, r, rfl, rfl, rfl, rfl⟩ := three_args hr
      have e1 : s.data.toList.length = s.size := (Lib.size_eq s).symm
      have e2 : t.data.toList.length = t.size := (Lib.size_eq t).symm
      have e3 : r.data.toList.length = r.size := (Lib.size_eq r).symm
      rw [e1, e2, e3] at hc
      obtain ⟨c1, c2, c3⟩ := hc
      have c4 := Lib.countB_mul_le t c2 s.size s (Nat.le_refl _)
      have c5 : Lib.countB s t ≤ s.size := Nat.le_trans (Nat.le_mul_of_pos_right _ (by omega)) c4
      have c6 : Lib.countB s t * r.size ≤ s.size * 1 := Nat.mul_le_mul c5 c3
      refine next_of Tryz.func204 rfl rfl (Any.strings_ReplaceAll laysRepl extra s t r mx w (by omega) (cell_of_glob hG hw.ros) c2 (by omega)) ?_
      rintro e w' ⟨rfl, hb⟩
      exact ⟨_, rfl, post_val hw hb (.str _ _ rfl)⟩
    · simp at he
  · simp at he
theorem trim_ok : LibOk Tryz.prog (globM mx) 206 trimF := by
  refine lib_of (G := trimG) fun args v he g h N w0 w vs fr hG hw hr => ?_
  unfold trimG at he
  split at he
  · rename_i l m
    split at he
    · rename_i hc
      obtain rfl := Option.some.inj he
      obtain ⟨s, t, rfl, rfl, rfl⟩ := two_args hr
      have e2 : t.data.toList.length = t.size := (Lib.size_eq t).symm
      refine next_of Tryz.func206 rfl rfl (Any.strings_TrimLeft_laid laysTrim (by kernel_rfl) s t w (by omega) fun j b hb => ?_) ?_
      · have := List.all_eq_true.1 hc.2 b (List.mem_of_getElem? hb)
        simpa using this
      · rintro e w' ⟨rfl, hb⟩
        exact ⟨_, rfl, post_val hw hb (.str _ _ rfl)⟩
    · simp at he
  · simp at he
theorem split_ok : LibOk Tryz.prog (globM mx) 205 splitF := by
  refine ⟨fun args h fr r he g N w0 w vs hG hw hal hn hr => ?_, fun args h fr => ⟨fun v he h' fr' => ?_, fun v o he h' => ?_⟩⟩
  · unfold splitF at he
    split at he
    · rename_i l m
      split at he
      · rename_i hc
        obtain rfl := Option.some.inj he
        obtain ⟨s, t, rfl, rfl, rfl⟩ := two_args hr
        have e1 : s.data.toList.length = s.size := (Lib.size_eq s).symm
        have e2 : t.data.toList.length = t.size := (Lib.size_eq t).symm
        rw [e1, e2] at hc
        refine next_of Tryz.func205 rfl rfl (Any.strings_Split laysSplit (by kernel_rfl) s t mx w (by omega) (cell_of_glob hG hw.ros) hc.2) ?_
        rintro e w' ⟨rfl, rfl⟩
        have hlen := Lib.splitB_all t hc.2 0 _ s rfl
        rw [str_eq, str_eq]
        generalize Lib.splitB t 0 (Lib.countB s t) s = L at hlen
        generalize Lib.countB s t = n at hlen
        obtain ⟨g', k1, k2, k3⟩ := row_made (w := w) hw hn (sz := 1) (len := n + 1) (cap := n + 1) (c := L.map fun b => .str b.data.toList) (C := (L.map Value.string).toArray) 9 (by simp) (by
          simp only [List.length_map]
          rw [List.take_of_length_le (by simp)]
          exact reps_strs g L) (ones_strs L) (by simp [hlen]) (by simp [hlen]) (by omega) (by omega)
        refine ⟨_, rfl, rfl, g', k1.le, fun i q => (k1.al i q).elim .inl fun e => .inr (.inl ⟨e, rfl⟩), k1.ro, k2, by rw [AH.next_set]; exact Nat.le_refl _, ?_⟩
        rw [List.length_map, hlen] at k3
        rw [hlen]
        exact k3
      · simp at he
    · simp at he
  · unfold splitF at he
    split at he
    · split at he <;> simp at he
    · simp at he
  · unfold splitF at he ⊢
    split at he
    · exact he
    · simp at he
theorem join_ok : LibOk Tryz.prog (globM mx) 198 joinF := by
  refine ⟨fun args h fr r he g N w0 w vs hG hw hal hn hr => ?_, fun args h fr => ⟨fun v he h' fr' => ?_, fun v o he h' => ?_⟩⟩
  · unfold joinF at he
    split at he
    · rename_i x m
      cases vs with | mk vs =>
      cases hr with
      | cons _ _ u us r1 r2 =>
        cases r2 with
        | cons _ _ u2 us2 r3 r4 =>
          cases r4
          cases r3 with
          | str _ t e =>
            split at he
            · cases r1 with
              | ro0 a c =>
                obtain rfl := Option.some.inj he
                refine next_of Tryz.func198 rfl rfl (Any.strings_Join_none laysJoin extra a c t w) ?_
                rintro e w' ⟨rfl, rfl⟩
                exact ⟨_, rfl, post_sh hw (Below.refl _ _) (.str _ _ rfl)⟩
              | ro _ _ vs C a c q1 q2 q3 q4 q5 q6 q7 =>
                obtain rfl := Option.some.inj he
                refine next_of Tryz.func198 rfl rfl (Any.strings_Join_none laysJoin extra (some a) c t w) ?_
                rintro e w' ⟨rfl, rfl⟩
                exact ⟨_, rfl, post_sh hw (Below.refl _ _) (.str _ _ rfl)⟩
            · rename_i id tot off n
              split at he
              · rename_i E sz fz c hg
                split at he
                · rename_i L hL
                  replace hL := strsOf_some hL
                  split at he
                  · rename_i hc
                    obtain rfl := Option.some.inj he
                    obtain ⟨c1, c2, c3, c4, c5⟩ := hc
                    obtain ⟨k1, k2, k3, o1, o2, C, ⟨cc, lo, hi, p1, p2, p3⟩, o4, o5, o6, o7, o8⟩ := hw.objs _ _ hg
                    cases r1 with
                    | ow _ _ _ _ a cp q1 q2 q3 =>
                      obtain ⟨rfl, z1, z2, z3, z4⟩ := q3 (by rw [o1, c1])
                      obtain ⟨xs, x1, x2⟩ := strs_out L _ (by
                        have := (o6.drop off).take n
                        rw [hL] at this
                        exact this)
                      have xl : xs.length = n := by
                        have := congrArg List.length hL
                        rw [List.length_take, List.length_drop, List.length_map] at this
                        have := congrArg List.length x1
                        rw [List.length_map] at this
                        omega
                      have hcells : ∀ (j : Nat) x, xs[j]? = some x → w.cell? ⟨g.bl id, off + j, none⟩ = some (.string x) := by
                        intro j x hx
                        have hj : j < n := by
                          have := (List.getElem?_eq_some_iff.1 hx).1
                          omega
                        have e1 : (xs.map Value.string)[j]? = some (.string x) := by rw [List.getElem?_map, hx]; rfl
                        rw [← x2, List.getElem?_take, if_pos hj, List.getElem?_drop, List.getElem?_take, if_pos (by omega), ← p2] at e1
                        unfold World.cell?
                        rw [p1]
                        simpa using e1
                      have hsub : xs.map (fun b => b.data.toList) = L := by rw [← x1]
                      have hJ := Any.strings_Join laysJoin extra (g.bl id) off cp xs t w hcells k3 (by omega) (by omega) (by rw [show xs.map (·.data.toList) = L from hsub, e]; exact c5)
                      rw [xl] at hJ
                      refine next_of Tryz.func198 rfl rfl hJ ?_
                      rintro e w' ⟨rfl, hb⟩
                      refine ⟨_, rfl, post_sh hw hb (.str _ _ ?_)⟩
                      show (Lib.join (xs.map (·.data.toList)) t.data.toList) = _
                      rw [show xs.map (·.data.toList) = L from hsub, e]
                  · simp at he
                · simp at he
              · simp at he
            · simp at he
    · simp at he
  · unfold joinF at he
    split at he
    · split at he
      · simp at he
      · split at he
        · split at he
          · split at he <;> simp at he
          · simp at he
        · simp at he
      · simp at he
    · simp at he
  · unfold joinF at he
    split at he
    · split at he
      · simp at he
      · split at he
        · split at he
          · split at he <;> simp at he
          · simp at he
        · simp at he
      · simp at he
    · simp at he
end Go.Proofs.YtcbngkmmmfaaoaaGreatDoor
namespace Go.Proofs.YtcbngkmmmfaaoaaGreatDoor
open Go.RowKit Go.Lib Go.Ac
set_option linter.unusedSimpArgs false
set_option maxRecDepth 100000
variable {mx : Int}

def runeD (l : List UInt8) (a : Int) : Int × Int :=
  if a < 0 ∨ (l.length : Int) ≤ a then (0, 0)
  else if (decodeL (l.drop a.toNat)).1 = 65533 ∧ (decodeL (l.drop a.toNat)).2 = 1 then (0, 0)
  else ((decodeL (l.drop a.toNat)).1, (decodeL (l.drop a.toNat)).2)
theorem decodeGo_L (l : List UInt8) (h : l ≠ []) : decodeGo ⟨l.toArray⟩ = decodeL l := by
  unfold decodeGo decodeL
  rw [if_neg]
  intro e
  apply h
  simpa [ByteArray.size] using e
theorem decode_c (l : List UInt8) (h : AH) (fr : Nat) : CR Tryz.prog (globM mx) md (.fn 194) [.str l] h fr (.val (.tup [.int .i32 (decodeGo ⟨l.toArray⟩).1, .int .i64 (decodeGo ⟨l.toArray⟩).2])) :=
  CR.lib (F := decodeF) rfl rfl
theorem rune_c (l : List UInt8) (hl : l.length ≤ 9223372036854775807) (a : Int) (h : AH) (fr : Nat) : CR Tryz.prog (globM mx) md (.fn 186) [.str l, .int .i64 a] h fr (.val (.tup [.int .i64 (runeD l a).1, .int .i64 (runeD l a).2])) := by
  refine CR.plain (rs := [.tmp 4, .tmp 5]) Tryz.func186 rfl rfl rfl rfl rfl rfl rfl ?_ h fr
  by_cases c1 : a < 0
  · have e : runeD l a = (0, 0) := by simp [runeD, c1]
    simp -implicitDefEqProofs only [wpC_seq, rowsA, if_true, if_false, opnd, ofVal, ofVal1, layArgs, Nat.reduceAdd, reduceIte, Nat.reduceEqDiff, reduceCtorEq, c1, e]
  by_cases c2 : (l.length : Int) ≤ a
  · have e : runeD l a = (0, 0) := by simp [runeD, c2]
    simp -implicitDefEqProofs only [wpC_seq, rowsA, if_true, if_false, opnd, ofVal, ofVal1, layArgs, Nat.reduceAdd, reduceIte, Nat.reduceEqDiff, reduceCtorEq, c1, c2, len_str u9, e]
  have hne : l.drop a.toNat ≠ [] := by
    intro e
    have := congrArg List.length e
    rw [List.length_drop, List.length_nil] at this
    omega
  have hr := decodeL_rune (l.drop a.toNat)
  have hw := decodeL_width (l.drop a.toNat)
  have hle := decodeL_le _ hne
  rw [List.length_drop] at hle
  have hd := decodeGo_L _ hne
  have h0 : 0 ≤ a := by omega
  have h1 : a ≤ l.length := by omega
  by_cases c3 : (decodeL (l.drop a.toNat)).1 = 65533
  · have c3' : decide (((decodeL (l.drop a.toNat)).1 : Int) = 65533) = true := decide_eq_true (by omega)
    have ew := IntWalk.i64_in ((decodeL (l.drop a.toNat)).1 : Int) (by omega)
    by_cases c4 : (decodeL (l.drop a.toNat)).2 = 1
    · have c4' : ((decodeL (l.drop a.toNat)).2 : Int) < 2 := by omega
      have e : runeD l a = (0, 0) := by simp [runeD, c3, c4]
      simp -implicitDefEqProofs only [wpC_seq, rowsA, if_true, if_false, opnd, ofVal, ofVal1, layArgs, Nat.reduceAdd, reduceIte, Nat.reduceEqDiff, reduceCtorEq, c1, c2, len_str u9, slice_from u9 h0 h1, goO_known (decode_c _), hd, c3', c4', e]
    · have c5 : ¬ (((decodeL (l.drop a.toNat)).2 : Int) < 2) := by omega
      have e : runeD l a = (((decodeL (l.drop a.toNat)).1 : Int), ((decodeL (l.drop a.toNat)).2 : Int)) := by simp [runeD, c1, c2, c3, c4]
      simp -implicitDefEqProofs only [wpC_seq, rowsA, if_true, if_false, opnd, ofVal, ofVal1, layArgs, Nat.reduceAdd, reduceIte, Nat.reduceEqDiff, reduceCtorEq, c1, c2, len_str u9, slice_from u9 h0 h1, goO_known (decode_c _), hd, c3', c5, conv_int u21 u3, e, ew]
  · have c5 : ¬ (((decodeL (l.drop a.toNat)).1 : Int) = 65533) := by omega
    have e : runeD l a = (((decodeL (l.drop a.toNat)).1 : Int), ((decodeL (l.drop a.toNat)).2 : Int)) := by simp [runeD, c1, c2, c3]
    have ew := IntWalk.i64_in ((decodeL (l.drop a.toNat)).1 : Int) (by omega)
    simp -implicitDefEqProofs only [wpC_seq, rowsA, if_true, if_false, opnd, ofVal, ofVal1, layArgs, Nat.reduceAdd, reduceIte, Nat.reduceEqDiff, reduceCtorEq, c1, c2, len_str u9, slice_from u9 h0 h1, goO_known (decode_c _), hd, c5, conv_int u21 u3, e, ew]
theorem runeD_range (l : List UInt8) (a : Int) : ((runeD l a).1 = 0 ∧ (runeD l a).2 = 0) ∨ (0 ≤ a ∧ 1 ≤ (runeD l a).2 ∧ a + (runeD l a).2 ≤ l.length) := by
  unfold runeD
  split
  · exact .inl ⟨rfl, rfl⟩
  · rename_i c1
    split
    · exact .inl ⟨rfl, rfl⟩
    · have hne : l.drop a.toNat ≠ [] := by
        intro e
        have := congrArg List.length e
        rw [List.length_drop, List.length_nil] at this
        omega
      have hle := decodeL_le _ hne
      have hw := decodeL_width (l.drop a.toNat)
      rw [List.length_drop] at hle
      refine .inr ⟨by omega, ?_, ?_⟩
      · show (1 : Int) ≤ ((decodeL (l.drop a.toNat)).2 : Int)
        omega
      · show a + ((decodeL (l.drop a.toNat)).2 : Int) ≤ _
        omega

section
variable {R : Nat} {s : List UInt8} {a f n : Int} {h : AH}
def srcB (c n : Int) : Bool := !(decide (n = 0) || decide (n > 3) || (decide (c < 32) && !decide (c = 9) && !decide (c = 10) && !decide (c = 13)))
theorem source_c (g : h.get R = some (rd s a f n)) (hl : s.length ≤ 16384) :
    ∃ c b h', (∀ fr, CR Tryz.prog (globM mx) md (.fn 175) [.ptr R 4 0] h fr (.sh (.tup [.int .i64 c, .bool b]) h')) ∧ ((b = false ∧ Eqv h' h) ∨ ∃ k : Nat, b = true ∧ 1 ≤ k ∧ 0 ≤ a ∧ a + k ≤ s.length ∧ Eqv h' (h.set R (rd s (a + k) f n))) := by
  rw [rd_eq] at g
  rcases runeD_range s a with ⟨e1, e2⟩ | ⟨r1, r2, r3⟩
  · obtain ⟨v, h', q1, rfl, q3⟩ := CR.sh (P := Tryz.prog) (G := globM mx) (md := md) (k := 175) (args := [.ptr R 4 0]) (h := h) (Q := fun v h' => v = .tup [.int .i64 0, .bool false] ∧ Eqv h' h) (rs := [.tmp 2, .tmp 3]) Tryz.func175 rfl rfl rfl rfl rfl (by
      simp -implicitDefEqProofs only [wpC_seq, rowsA, if_true, if_false, opnd, ofVal, ofVal1, layArgs, Nat.reduceAdd, reduceIte, Nat.reduceEqDiff, reduceCtorEq, rowsB, cellsG, Nat.reduceMul, EndS_normal, EndS_ret, RS_some, up_up, nilO_ptr, g, fda_ptr o152_0, fda_ptr o152_1, loadO_one ag3 sz3, loadO_one ag9 sz9, goD_known (rune_c s (by omega) a), e1, e2]
      exact (Eqv.refl h).up _)
    exact ⟨0, false, h', q1, .inl ⟨rfl, q3⟩⟩
  · have w := IntWalk.i64_in (a + (runeD s a).2) (by omega)
    generalize hc : (runeD s a).1 = c at *
    generalize hk : (runeD s a).2 = k at *
    have bad : (∃ h', (∀ fr, CR Tryz.prog (globM mx) md (.fn 175) [.ptr R 4 0] h fr (.sh (.tup [.int .i64 0, .bool false]) h')) ∧ Eqv h' h) → ∃ c b h', (∀ fr, CR Tryz.prog (globM mx) md (.fn 175) [.ptr R 4 0] h fr (.sh (.tup [.int .i64 c, .bool b]) h')) ∧ ((b = false ∧ Eqv h' h) ∨ ∃ k : Nat, b = true ∧ 1 ≤ k ∧ 0 ≤ a ∧ a + k ≤ s.length ∧ Eqv h' (h.set R (rd s (a + k) f n))) := fun ⟨h', q1, q2⟩ => ⟨0, false, h', q1, .inl ⟨rfl, q2⟩⟩
    have good : (∃ h', (∀ fr, CR Tryz.prog (globM mx) md (.fn 175) [.ptr R 4 0] h fr (.sh (.tup [.int .i64 c, .bool true]) h')) ∧ Eqv h' (h.set R (rd s (a + k) f n))) → ∃ c b h', (∀ fr, CR Tryz.prog (globM mx) md (.fn 175) [.ptr R 4 0] h fr (.sh (.tup [.int .i64 c, .bool b]) h')) ∧ ((b = false ∧ Eqv h' h) ∨ ∃ k : Nat, b = true ∧ 1 ≤ k ∧ 0 ≤ a ∧ a + k ≤ s.length ∧ Eqv h' (h.set R (rd s (a + k) f n))) := fun ⟨h', q1, q2⟩ => ⟨c, true, h', q1, .inr ⟨k.toNat, rfl, by omega, r1, by omega, by rw [show ((k.toNat : Nat) : Int) = k by omega]; exact q2⟩⟩
    have c0 : ¬ (k = 0) := by omega
    have run : ∀ (b : Bool), srcB c k = b → ∃ h', (∀ fr, CR Tryz.prog (globM mx) md (.fn 175) [.ptr R 4 0] h fr (.sh (.tup [.int .i64 (if b then c else 0), .bool b]) h')) ∧ Eqv h' (if b then h.set R (rd s (a + k) f n) else h) := by
      intro b hb
      obtain ⟨v, h', q1, rfl, q3⟩ := CR.sh (P := Tryz.prog) (G := globM mx) (md := md) (k := 175) (args := [.ptr R 4 0]) (h := h) (Q := fun v h' => v = .tup [.int .i64 (if b then c else 0), .bool b] ∧ Eqv h' (if b then h.set R (rd s (a + k) f n) else h)) (rs := [.tmp 2, .tmp 3]) Tryz.func175 rfl rfl rfl rfl rfl (by
        have hrun := rune_c (mx := mx) s (by omega) a
        rw [hc, hk] at hrun
        by_cases c1 : 3 < k
        · have : b = false := by rw [← hb]; simp [srcB, c1]
          subst this
          simp -implicitDefEqProofs only [wpC_seq, rowsA, if_true, if_false, opnd, ofVal, ofVal1, layArgs, Nat.reduceAdd, reduceIte, Nat.reduceEqDiff, reduceCtorEq, rowsB, cellsG, Nat.reduceMul, EndS_normal, EndS_ret, RS_some, up_up, nilO_ptr, g, fda_ptr o152_0, fda_ptr o152_1, loadO_one ag3 sz3, loadO_one ag9 sz9, goD_known hrun, c0, c1]
          exact (Eqv.refl h).up _
        · by_cases c2 : c < 32
          · by_cases c3 : c = 9
            · have : b = true := by rw [← hb]; simp [srcB, c0, c1, c3]
              subst this
              simp -implicitDefEqProofs only [wpC_seq, rowsA, if_true, if_false, opnd, ofVal, ofVal1, layArgs, Nat.reduceAdd, reduceIte, Nat.reduceEqDiff, reduceCtorEq, rowsB, cellsG, Nat.reduceMul, EndS_normal, EndS_ret, RS_some, up_up, up_set, nilO_ptr, g, fda_ptr o152_0, fda_ptr o152_1, loadO_one ag3 sz3, loadO_one ag9 sz9, goD_known hrun, c0, c1, c2, decide_eq_true c3, w, sz3, stR1, lt14]
              exact ((Eqv.refl h).up _).set _ _
            · by_cases c4 : c = 10
              · have : b = true := by rw [← hb]; simp [srcB, c0, c1, c4]
                subst this
                simp -implicitDefEqProofs only [wpC_seq, rowsA, if_true, if_false, opnd, ofVal, ofVal1, layArgs, Nat.reduceAdd, reduceIte, Nat.reduceEqDiff, reduceCtorEq, rowsB, cellsG, Nat.reduceMul, EndS_normal, EndS_ret, RS_some, up_up, up_set, nilO_ptr, g, fda_ptr o152_0, fda_ptr o152_1, loadO_one ag3 sz3, loadO_one ag9 sz9, goD_known hrun, c0, c1, c2, c3, decide_eq_true c4, w, sz3, stR1, lt14]
                exact ((Eqv.refl h).up _).set _ _
              · by_cases c5 : c = 13
                · have : b = true := by rw [← hb]; simp [srcB, c0, c1, c5]
                  subst this
                  simp -implicitDefEqProofs only [wpC_seq, rowsA, if_true, if_false, opnd, ofVal, ofVal1, layArgs, Nat.reduceAdd, reduceIte, Nat.reduceEqDiff, reduceCtorEq, rowsB, cellsG, Nat.reduceMul, EndS_normal, EndS_ret, RS_some, up_up, up_set, nilO_ptr, g, fda_ptr o152_0, fda_ptr o152_1, loadO_one ag3 sz3, loadO_one ag9 sz9, goD_known hrun, c0, c1, c2, c3, c4, decide_eq_true c5, w, sz3, stR1, lt14]
                  exact ((Eqv.refl h).up _).set _ _
                · have : b = false := by rw [← hb]; simp [srcB, c0, c1, c2, c3, c4, c5]
                  subst this
                  simp -implicitDefEqProofs only [wpC_seq, rowsA, if_true, if_false, opnd, ofVal, ofVal1, layArgs, Nat.reduceAdd, reduceIte, Nat.reduceEqDiff, reduceCtorEq, rowsB, cellsG, Nat.reduceMul, EndS_normal, EndS_ret, RS_some, up_up, nilO_ptr, g, fda_ptr o152_0, fda_ptr o152_1, loadO_one ag3 sz3, loadO_one ag9 sz9, goD_known hrun, c0, c1, c2, c3, c4, c5]
                  exact (Eqv.refl h).up _
          · have : b = true := by rw [← hb]; simp [srcB, c0, c1, c2]
            subst this
            simp -implicitDefEqProofs only [wpC_seq, rowsA, if_true, if_false, opnd, ofVal, ofVal1, layArgs, Nat.reduceAdd, reduceIte, Nat.reduceEqDiff, reduceCtorEq, rowsB, cellsG, Nat.reduceMul, EndS_normal, EndS_ret, RS_some, up_up, up_set, nilO_ptr, g, fda_ptr o152_0, fda_ptr o152_1, loadO_one ag3 sz3, loadO_one ag9 sz9, goD_known hrun, c0, c1, c2, w, sz3, stR1, lt14]
            exact ((Eqv.refl h).up _).set _ _)
      exact ⟨h', q1, q3⟩
    cases hb : srcB c k with
    | true => exact good (run true hb)
    | false => exact bad (run false hb)
end
end Go.Proofs.YtcbngkmmmfaaoaaGreatDoor
namespace Go.Proofs.YtcbngkmmmfaaoaaGreatDoor
open Go.RowKit Go.Lib Go.Ac
set_option linter.unusedSimpArgs false
set_option maxRecDepth 100000
variable {mx : Int}
section
variable {R : Nat} {s : List UInt8} {a f n : Int} {h : AH}
theorem peek_v (k : Int) (g : h.get R = some (rd s a f n)) (ha : 0 ≤ a) (hk : 0 ≤ k) (hb : a + k ≤ 9223372036854775807) : ∃ v h', (∀ fr, CR Tryz.prog (globM mx) md (.fn 188) [.ptr R 4 0, .int .i64 k] h fr (.sh v h')) ∧ v = .int .u8 (if a + k < s.length then byteAt s (a + k) else 0) ∧ Eqv h' h := by
  obtain ⟨h', q1, q2⟩ := peek_c (mx := mx) k g ha hk hb
  exact ⟨_, h', q1, rfl, q2⟩
theorem has_v (p : List UInt8) (g : h.get R = some (rd s a f n)) (ha : 0 ≤ a) (hb : a ≤ s.length) : ∃ v h', (∀ fr, CR Tryz.prog (globM mx) md (.fn 174) [.ptr R 4 0, .str p] h fr (.sh v h')) ∧ v = .bool (hasP (s.drop a.toNat) p) ∧ Eqv h' h := by
  obtain ⟨h', q1, q2⟩ := has_c (mx := mx) p g ha hb
  exact ⟨_, h', q1, rfl, q2⟩
theorem skip_v (c : Int) (g : h.get R = some (rd s a f n)) (ha : 0 ≤ a) (hb : a ≤ s.length) (hl : s.length ≤ 16384) :
    ∃ v h', (∀ fr, CR Tryz.prog (globM mx) md (.fn 187) [.ptr R 4 0, .int .u8 c] h fr (.sh v h')) ∧ ∃ b a', v = .bool b ∧ Eqv h' (h.set R (rd s a' f n)) ∧ a ≤ a' ∧ a' ≤ s.length := by
  obtain ⟨b, h', q1, q2, q3⟩ := skip_c (mx := mx) c g ha hb hl
  refine ⟨_, h', q1, b, _, rfl, q2, ?_, ?_⟩
  · split <;> omega
  · split
    · rename_i e; have := q3 e; omega
    · exact hb
theorem run_v (set : List UInt8) (g : h.get R = some (rd s a f n)) (ha : 0 ≤ a) (hb : a ≤ s.length) (hl : s.length ≤ 16384) :
    ∃ v h', (∀ fr, CR Tryz.prog (globM mx) md (.fn 177) [.ptr R 4 0, .str set] h fr (.sh v h')) ∧ ∃ k : Nat, k = runLen set (s.drop a.toNat) ∧ v = .int .i64 k ∧ Eqv h' (h.set R (rd s (a + k) f n)) ∧ a + k ≤ s.length := by
  obtain ⟨i, rfl⟩ : ∃ i : Nat, a = (i : Int) := ⟨a.toNat, by omega⟩
  obtain ⟨h', q1, q2⟩ := run_c (mx := mx) set g (by omega) hl
  refine ⟨_, h', q1, runLen set (s.drop i), by rw [Int.toNat_natCast], rfl, by rw [← Int.natCast_add]; exact q2, ?_⟩
  have := runLen_le set (s.drop i)
  rw [List.length_drop] at this
  omega
theorem source_v (g : h.get R = some (rd s a f n)) (hl : s.length ≤ 16384) :
    ∃ v h', (∀ fr, CR Tryz.prog (globM mx) md (.fn 175) [.ptr R 4 0] h fr (.sh v h')) ∧ ∃ c b, v = .tup [.int .i64 c, .bool b] ∧ ((b = false ∧ Eqv h' h) ∨ ∃ k : Nat, b = true ∧ 1 ≤ k ∧ 0 ≤ a ∧ a + k ≤ s.length ∧ Eqv h' (h.set R (rd s (a + k) f n))) := by
  obtain ⟨c, b, h', q1, q2⟩ := source_c (mx := mx) g hl
  exact ⟨_, h', q1, c, b, rfl, q2⟩

def Part (R : Nat) (s : List UInt8) (a f n : Int) (h : AH) (good : PV → Int → Prop) (b : Bool) (v : PV) (h' : AH) : Prop :=
  ∃ a', Eqv h' (h.set R (rd s a' f n)) ∧ a ≤ a' ∧ a' ≤ s.length ∧ (b = false → good v a') ∧ (b = true → ∃ e, e ≠ 0 ∧ v = wrongV f e)
def NumK (R : Nat) (s : List UInt8) (a f n : Int) (h : AH) (kd : Int) (F : Fr) (h' : AH) : Prop := ∃ a', F.at 0 = .ptr R 4 0 ∧ F.at 3 = .int .i64 kd ∧ Eqv h' (h.set R (rd s a' f n)) ∧ a ≤ a' ∧ a' ≤ s.length
def NumJ (R : Nat) (s : List UInt8) (a f n : Int) (h : AH) (F : Fr) (h' : AH) : Prop := ∃ a' kd, F.at 0 = .ptr R 4 0 ∧ F.at 3 = .int .i64 kd ∧ (kd = 2 ∨ kd = 3) ∧ Eqv h' (h.set R (rd s a' f n)) ∧ a ≤ a' ∧ a' ≤ s.length
def NumB (R : Nat) (s : List UInt8) (a f n : Int) (h : AH) (kd : Int) (F : Fr) (h' : AH) : Prop := ∃ a' b, F.at 33 = .bool b ∧ F.at 0 = .ptr R 4 0 ∧ F.at 3 = .int .i64 kd ∧ Eqv h' (h.set R (rd s a' f n)) ∧ a ≤ a' ∧ a' ≤ s.length
def NumE (R : Nat) (s : List UInt8) (a1 f n : Int) (h : AH) (kd : Int) (F : Fr) (h' : AH) : Prop := F.at 3 = .int .i64 kd ∧ Eqv h' (h.set R (rd s a1 f n))
theorem number_sc (g : h.get R = some (rd s a f n)) (ha : 0 ≤ a) (hb : a ≤ s.length) (hl : s.length ≤ 16384) : SC Tryz.prog (globM mx) md (.fn 178) [.ptr R 4 0] h (Part R s a f n h fun v _ => v = .int .i64 2 ∨ v = .int .i64 3) := by
  refine SC.body (rs := [.tmp 2]) Tryz.func178 rfl rfl rfl rfl rfl ?_
  have gu : ∀ {h' : AH} {a' : Int}, Eqv h' (h.set R (rd s a' f n)) → h'.get R = some (rd s a' f n) := fun e => by rw [e.1, AH.get_set_same]
  have es : ∀ {h' h'' : AH} {a' a'' : Int}, Eqv h' (h.set R (rd s a' f n)) → Eqv h'' (h'.set R (rd s a'' f n)) → Eqv h'' (h.set R (rd s a'' f n)) := fun e q => (q.trans (e.set _ _)).ss
  have pan : ∀ {h' : AH} {a' : Int} {e : Int}, Eqv h' (h.set R (rd s a' f n)) → a ≤ a' → a' ≤ s.length → e ≠ 0 → Part R s a f n h (fun v _ => v = .int .i64 2 ∨ v = .int .i64 3) true (wrongV f e) h' := fun q l m e0 => ⟨_, q, l, m, fun e => (by cases e), fun _ => ⟨_, e0, rfl⟩⟩
  rw [wpC_seq]; simp -implicitDefEqProofs only [rowsA, if_true, if_false, opnd, ofVal, ofVal1, layArgs, Nat.reduceAdd, reduceIte, Nat.reduceEqDiff, reduceCtorEq, rowsB, cellsG, Nat.reduceMul, up_up]
  rw [wpC_seq]; simp -implicitDefEqProofs only [rowsA, if_true, if_false, opnd, ofVal, ofVal1, layArgs, Nat.reduceAdd, reduceIte, Nat.reduceEqDiff, reduceCtorEq, rowsB, cellsG, Nat.reduceMul, up_up]
  -- a sign
  refine wpC_then (NumK R s a f n h 2) ?_ ?_
  · simp -implicitDefEqProofs only [rowsA, if_true, if_false, opnd, ofVal, ofVal1, layArgs, Nat.reduceAdd, reduceIte, Nat.reduceEqDiff, reduceCtorEq, rowsB, cellsG, Nat.reduceMul, up_up]
    refine goO_val (skip_v (a := a) 45 (by rw [AH.get_up]; exact g) ha hb hl) ?_
    rintro v1 h1 ⟨b1, a1, rfl, e1, l1, m1⟩
    simp -implicitDefEqProofs only [rowsA, if_true, if_false, opnd, ofVal, ofVal1, layArgs, Nat.reduceAdd, reduceIte, Nat.reduceEqDiff, reduceCtorEq, rowsB, cellsG, Nat.reduceMul, rowsR]
    exact ⟨a1, by simp only [Fr.at_set, Nat.reduceEqDiff, reduceIte, reduceCtorEq], by simp only [Fr.at_set, Nat.reduceEqDiff, reduceIte, reduceCtorEq]; try rfl, (e1.trans (((Eqv.refl h).up _).set _ _)), l1, m1⟩
  rintro F h1 ⟨a1, f0, f3, e1, l1, m1⟩
  have g1 := gu e1
  rw [rd_eq] at g1
  -- whole digits
  refine wpC_then (NumK R s a f n h 2) ?_ ?_
  · rw [wpC_seq]
    simp -implicitDefEqProofs only [rowsA, if_true, if_false, opnd, ofVal, ofVal1, layArgs, Nat.reduceAdd, reduceIte, Nat.reduceEqDiff, reduceCtorEq, rowsB, cellsG, Nat.reduceMul, f0]
    refine goO_val (peek_v (a := a1) 0 (by rw [AH.get_up]; exact gu e1) (by omega) (by omega) (by omega)) ?_
    rintro v2 h2 ⟨rfl, e2⟩
    have E2 := e2.ofUp.trans e1
    have g2 := gu E2
    rw [rd_eq] at g2
    rw [Int.add_zero]
    by_cases c1 : (if a1 < s.length then byteAt s a1 else 0) = 48
    · have c2 : a1 < s.length := by
        apply Decidable.byContradiction
        intro q
        rw [if_neg q] at c1
        exact absurd c1 (by decide)
      have w := IntWalk.i64_in (a1 + 1) (by omega)
      simp -implicitDefEqProofs only [rowsA, if_true, if_false, opnd, ofVal, ofVal1, layArgs, Nat.reduceAdd, reduceIte, Nat.reduceEqDiff, reduceCtorEq, rowsB, cellsG, Nat.reduceMul, rowsR, c1, f0, g2, w]
      exact ⟨a1 + 1, by simp only [Fr.at_set, Nat.reduceEqDiff, reduceIte, reduceCtorEq, f0], by simp only [Fr.at_set, Nat.reduceEqDiff, reduceIte, reduceCtorEq, f3], ((E2.up _).set _ _).ss, by omega, by omega⟩
    · simp -implicitDefEqProofs only [rowsA, if_true, if_false, opnd, ofVal, ofVal1, layArgs, Nat.reduceAdd, reduceIte, Nat.reduceEqDiff, reduceCtorEq, rowsB, cellsG, Nat.reduceMul, rowsR, c1, f0]
      refine goO_val (run_v (a := a1) _ (by rw [AH.get_up]; exact gu E2) (by omega) (by omega) hl) ?_
      rintro v3 h3 ⟨k3, _, rfl, e3, m3⟩
      have E3 := es (E2.up _) e3
      simp -implicitDefEqProofs only [rowsA, if_true, if_false, opnd, ofVal, ofVal1, layArgs, Nat.reduceAdd, reduceIte, Nat.reduceEqDiff, reduceCtorEq, rowsB, cellsG, Nat.reduceMul, rowsR]
      refine goO_sc (must_sc (a := a1 + k3) _ _ (gu E3)) ?_ ?_
      · rintro v4 h4 ⟨e4, _, _, _⟩
        simp -implicitDefEqProofs only [rowsA, if_true, if_false, opnd, ofVal, ofVal1, layArgs, Nat.reduceAdd, reduceIte, Nat.reduceEqDiff, reduceCtorEq, rowsB, cellsG, Nat.reduceMul, rowsR]
        exact ⟨a1 + k3, by simp only [Fr.at_set, Nat.reduceEqDiff, reduceIte, reduceCtorEq, f0], by simp only [Fr.at_set, Nat.reduceEqDiff, reduceIte, reduceCtorEq, f3], e4.trans E3, by omega, by omega⟩
      · rintro v4 h4 ⟨e4, _, _, q4⟩
        obtain rfl := q4 rfl
        simp -implicitDefEqProofs only [rowsR]
        exact pan (e4.trans E3) (by omega) (by omega) (by decide)
  rintro F h1 ⟨a1, f0, f3, e1, l1, m1⟩
  have g1 := gu e1
  rw [rd_eq] at g1
  -- behind a point
  refine wpC_then (NumJ R s a f n h) ?_ ?_
  · rw [wpC_seq]
    simp -implicitDefEqProofs only [rowsA, if_true, if_false, opnd, ofVal, ofVal1, layArgs, Nat.reduceAdd, reduceIte, Nat.reduceEqDiff, reduceCtorEq, rowsB, cellsG, Nat.reduceMul, f0]
    refine goO_val (skip_v (a := a1) 46 (by rw [AH.get_up]; exact gu e1) (by omega) m1 hl) ?_
    rintro v2 h2 ⟨b2, a2, rfl, e2, l2, m2⟩
    have E2 := es (e1.up _) e2
    cases b2 with
    | false =>
      simp -implicitDefEqProofs only [rowsA, if_true, if_false, opnd, ofVal, ofVal1, layArgs, Nat.reduceAdd, reduceIte, Nat.reduceEqDiff, reduceCtorEq, rowsB, cellsG, Nat.reduceMul, rowsR]
      exact ⟨a2, 2, by simp only [Fr.at_set, Nat.reduceEqDiff, reduceIte, reduceCtorEq, f0], by simp only [Fr.at_set, Nat.reduceEqDiff, reduceIte, reduceCtorEq, f3], .inl rfl, E2, by omega, by omega⟩
    | true =>
      simp -implicitDefEqProofs only [wpC_seq, rowsA, if_true, if_false, opnd, ofVal, ofVal1, layArgs, Nat.reduceAdd, reduceIte, Nat.reduceEqDiff, reduceCtorEq, rowsB, cellsG, Nat.reduceMul, rowsR, f0]
      refine goO_val (run_v (a := a2) _ (by simp only [AH.get_up]; exact gu E2) (by omega) (by omega) hl) ?_
      rintro v3 h3 ⟨k3, _, rfl, e3, m3⟩
      have E3 := es (E2.up _) e3
      simp -implicitDefEqProofs only [rowsA, if_true, if_false, opnd, ofVal, ofVal1, layArgs, Nat.reduceAdd, reduceIte, Nat.reduceEqDiff, reduceCtorEq, rowsB, cellsG, Nat.reduceMul, rowsR]
      refine goO_sc (must_sc (a := a2 + k3) _ _ (gu E3)) ?_ ?_
      · rintro v4 h4 ⟨e4, _, _, _⟩
        simp -implicitDefEqProofs only [rowsA, if_true, if_false, opnd, ofVal, ofVal1, layArgs, Nat.reduceAdd, reduceIte, Nat.reduceEqDiff, reduceCtorEq, rowsB, cellsG, Nat.reduceMul, rowsR]
        exact ⟨a2 + k3, 3, by simp only [Fr.at_set, Nat.reduceEqDiff, reduceIte, reduceCtorEq, f0], by simp only [Fr.at_set, Nat.reduceEqDiff, reduceIte, reduceCtorEq]; try rfl, .inr rfl, e4.trans E3, by omega, by omega⟩
      · rintro v4 h4 ⟨e4, _, _, q4⟩
        obtain rfl := q4 rfl
        simp -implicitDefEqProofs only [rowsR]
        exact pan (e4.trans E3) (by omega) (by omega) (by decide)
  rintro F h1 ⟨a1, kd, f0, f3, hkd, e1, l1, m1⟩
  have g1 := gu e1
  rw [rd_eq] at g1
  -- a power
  refine wpC_then (NumJ R s a f n h) ?_ ?_
  · refine wpC_then (NumB R s a f n h kd) ?_ ?_
    · simp -implicitDefEqProofs only [rowsA, if_true, if_false, opnd, ofVal, ofVal1, layArgs, Nat.reduceAdd, reduceIte, Nat.reduceEqDiff, reduceCtorEq, rowsB, cellsG, Nat.reduceMul, f0]
      refine goO_val (skip_v (a := a1) 101 (by rw [AH.get_up]; exact gu e1) (by omega) m1 hl) ?_
      rintro v2 h2 ⟨b2, a2, rfl, e2, l2, m2⟩
      have E2 := es (e1.up _) e2
      cases b2 with
      | true =>
        simp -implicitDefEqProofs only [rowsA, if_true, if_false, opnd, ofVal, ofVal1, layArgs, Nat.reduceAdd, reduceIte, Nat.reduceEqDiff, reduceCtorEq, rowsB, cellsG, Nat.reduceMul, rowsR, f0]
        exact ⟨a2, true, by simp only [Fr.at_set, Nat.reduceEqDiff, reduceIte, reduceCtorEq]; try rfl, by simp only [Fr.at_set, Nat.reduceEqDiff, reduceIte, reduceCtorEq, f0], by simp only [Fr.at_set, Nat.reduceEqDiff, reduceIte, reduceCtorEq, f3], E2, by omega, by omega⟩
      | false =>
        simp -implicitDefEqProofs only [rowsA, if_true, if_false, opnd, ofVal, ofVal1, layArgs, Nat.reduceAdd, reduceIte, Nat.reduceEqDiff, reduceCtorEq, rowsB, cellsG, Nat.reduceMul, rowsR, f0]
        refine goO_val (skip_v (a := a2) 69 (gu E2) (by omega) m2 hl) ?_
        rintro v3 h3 ⟨b3, a3, rfl, e3, l3, m3⟩
        have E3 := es E2 e3
        simp -implicitDefEqProofs only [rowsA, if_true, if_false, opnd, ofVal, ofVal1, layArgs, Nat.reduceAdd, reduceIte, Nat.reduceEqDiff, reduceCtorEq, rowsB, cellsG, Nat.reduceMul, rowsR, f0]
        exact ⟨a3, b3, by simp only [Fr.at_set, Nat.reduceEqDiff, reduceIte, reduceCtorEq]; try rfl, by simp only [Fr.at_set, Nat.reduceEqDiff, reduceIte, reduceCtorEq, f0], by simp only [Fr.at_set, Nat.reduceEqDiff, reduceIte, reduceCtorEq, f3], E3, by omega, by omega⟩
    rintro F h1 ⟨a1, b, f33, f0, f3, e1, l1, m1⟩
    cases b with
    | false =>
      simp -implicitDefEqProofs only [rowsA, if_true, if_false, opnd, ofVal, ofVal1, layArgs, Nat.reduceAdd, reduceIte, Nat.reduceEqDiff, reduceCtorEq, rowsB, cellsG, Nat.reduceMul, rowsR, f33]
      exact ⟨a1, kd, f0, f3, hkd, e1, l1, m1⟩
    | true =>
      simp -implicitDefEqProofs only [rowsA, if_true, if_false, opnd, ofVal, ofVal1, layArgs, Nat.reduceAdd, reduceIte, Nat.reduceEqDiff, reduceCtorEq, rowsB, cellsG, Nat.reduceMul, rowsR, f33]
      rw [wpC_seq]
      simp -implicitDefEqProofs only [rowsA, if_true, if_false, opnd, ofVal, ofVal1, layArgs, Nat.reduceAdd, reduceIte, Nat.reduceEqDiff, reduceCtorEq, rowsB, cellsG, Nat.reduceMul, rowsR]
      refine wpC_then (NumK R s a f n h 3) ?_ ?_
      · rw [wpC_seq]
        simp -implicitDefEqProofs only [rowsA, if_true, if_false, opnd, ofVal, ofVal1, layArgs, Nat.reduceAdd, reduceIte, Nat.reduceEqDiff, reduceCtorEq, rowsB, cellsG, Nat.reduceMul, rowsR, f0]
        refine goO_val (skip_v (a := a1) 43 (by simp only [AH.get_up]; exact gu e1) (by omega) m1 hl) ?_
        rintro v2 h2 ⟨b2, a2, rfl, e2, l2, m2⟩
        have E2 := es (e1.up _) e2
        cases b2 with
        | true =>
          simp -implicitDefEqProofs only [rowsA, if_true, if_false, opnd, ofVal, ofVal1, layArgs, Nat.reduceAdd, reduceIte, Nat.reduceEqDiff, reduceCtorEq, rowsB, cellsG, Nat.reduceMul, rowsR]
          exact ⟨a2, by simp only [Fr.at_set, Nat.reduceEqDiff, reduceIte, reduceCtorEq, f0], by simp only [Fr.at_set, Nat.reduceEqDiff, reduceIte, reduceCtorEq]; try rfl, E2, by omega, by omega⟩
        | false =>
          simp -implicitDefEqProofs only [rowsA, if_true, if_false, opnd, ofVal, ofVal1, layArgs, Nat.reduceAdd, reduceIte, Nat.reduceEqDiff, reduceCtorEq, rowsB, cellsG, Nat.reduceMul, rowsR, f0]
          refine goO_val (skip_v (a := a2) 45 (by rw [AH.get_up]; exact gu E2) (by omega) m2 hl) ?_
          rintro v3 h3 ⟨b3, a3, rfl, e3, l3, m3⟩
          simp -implicitDefEqProofs only [rowsA, if_true, if_false, opnd, ofVal, ofVal1, layArgs, Nat.reduceAdd, reduceIte, Nat.reduceEqDiff, reduceCtorEq, rowsB, cellsG, Nat.reduceMul, rowsR]
          exact ⟨a3, by simp only [Fr.at_set, Nat.reduceEqDiff, reduceIte, reduceCtorEq, f0], by simp only [Fr.at_set, Nat.reduceEqDiff, reduceIte, reduceCtorEq]; try rfl, es (E2.up _) e3, by omega, by omega⟩
      rintro F h1 ⟨a2, f0, f3, E2, l2, m2⟩
      simp -implicitDefEqProofs only [rowsA, if_true, if_false, opnd, ofVal, ofVal1, layArgs, Nat.reduceAdd, reduceIte, Nat.reduceEqDiff, reduceCtorEq, rowsB, cellsG, Nat.reduceMul, rowsR, f0]
      refine goO_val (run_v (a := a2) _ (by simp only [AH.get_up]; exact gu E2) (by omega) (by omega) hl) ?_
      rintro v3 h3 ⟨k3, _, rfl, e3, m3⟩
      have E3 := es (E2.up _) e3
      simp -implicitDefEqProofs only [rowsA, if_true, if_false, opnd, ofVal, ofVal1, layArgs, Nat.reduceAdd, reduceIte, Nat.reduceEqDiff, reduceCtorEq, rowsB, cellsG, Nat.reduceMul, rowsR]
      refine goO_sc (must_sc (a := a2 + k3) _ _ (gu E3)) ?_ ?_
      · rintro v4 h4 ⟨e4, _, _, _⟩
        simp -implicitDefEqProofs only [rowsA, if_true, if_false, opnd, ofVal, ofVal1, layArgs, Nat.reduceAdd, reduceIte, Nat.reduceEqDiff, reduceCtorEq, rowsB, cellsG, Nat.reduceMul, rowsR]
        exact ⟨a2 + k3, 3, by simp only [Fr.at_set, Nat.reduceEqDiff, reduceIte, reduceCtorEq, f0], by simp only [Fr.at_set, Nat.reduceEqDiff, reduceIte, reduceCtorEq, f3], .inr rfl, e4.trans E3, by omega, by omega⟩
      · rintro v4 h4 ⟨e4, _, _, q4⟩
        obtain rfl := q4 rfl
        simp -implicitDefEqProofs only [rowsR]
        exact pan (e4.trans E3) (by omega) (by omega) (by decide)
  rintro F h1 ⟨a1, kd, f0, f3, hkd, e1, l1, m1⟩
  have g1 := gu e1
  rw [rd_eq] at g1
  -- what may not stand behind
  refine wpC_then (NumE R s a1 f n h kd) ?_ ?_
  · by_cases c1 : a1 = (s.length : Int)
    · simp -implicitDefEqProofs only [rowsA, if_true, if_false, opnd, ofVal, ofVal1, layArgs, Nat.reduceAdd, reduceIte, Nat.reduceEqDiff, reduceCtorEq, rowsB, cellsG, Nat.reduceMul, rowsR, f0, g1, decide_eq_true c1]
      refine goD_sc (must_sc (a := a1) true _ (by simp only [AH.get_up]; exact gu e1)) (by kernel_rfl) (.inl (by kernel_rfl)) ?_ ?_
      · rintro v4 h4 ⟨e4, _, _, _⟩
        simp -implicitDefEqProofs only [rowsA, if_true, if_false, opnd, ofVal, ofVal1, layArgs, Nat.reduceAdd, reduceIte, Nat.reduceEqDiff, reduceCtorEq, rowsB, cellsG, Nat.reduceMul, rowsR]
        exact ⟨by simp only [Fr.at_set, Nat.reduceEqDiff, reduceIte, reduceCtorEq, f3], e4.trans (e1.up _)⟩
      · rintro v4 h4 ⟨_, q, _⟩
        cases q
    · have c2 : a1 < s.length := by omega
      simp -implicitDefEqProofs only [rowsA, if_true, if_false, opnd, ofVal, ofVal1, layArgs, Nat.reduceAdd, reduceIte, Nat.reduceEqDiff, reduceCtorEq, rowsB, cellsG, Nat.reduceMul, rowsR, f0, g1, c1, ixs (show (0 : Int) ≤ a1 by omega) c2, goD_known (idxB_c _ s a1)]
      refine goD_sc (must_sc (a := a1) _ _ (by simp only [AH.get_up]; exact gu e1)) (by kernel_rfl) (.inl (by kernel_rfl)) ?_ ?_
      · rintro v4 h4 ⟨e4, _, _, _⟩
        simp -implicitDefEqProofs only [rowsA, if_true, if_false, opnd, ofVal, ofVal1, layArgs, Nat.reduceAdd, reduceIte, Nat.reduceEqDiff, reduceCtorEq, rowsB, cellsG, Nat.reduceMul, rowsR]
        exact ⟨by simp only [Fr.at_set, Nat.reduceEqDiff, reduceIte, reduceCtorEq, f3], e4.trans (e1.up _)⟩
      · rintro v4 h4 ⟨e4, _, _, q4⟩
        obtain rfl := q4 rfl
        simp -implicitDefEqProofs only [rowsR]
        exact pan (e4.trans (e1.up _)) (by omega) (by omega) (by decide)
  rintro F h2 ⟨f3, e2⟩
  simp -implicitDefEqProofs only [wpC_seq, rowsA, if_true, if_false, opnd, ofVal, ofVal1, layArgs, Nat.reduceAdd, reduceIte, Nat.reduceEqDiff, reduceCtorEq, rowsB, cellsG, Nat.reduceMul, rowsR, f3]
  exact ⟨a1, e2.up _, l1, m1, fun _ => by rcases hkd with rfl | rfl; exact .inl rfl; exact .inr rfl, fun e => by cases e⟩
end
end Go.Proofs.YtcbngkmmmfaaoaaGreatDoor
namespace Go.Proofs.YtcbngkmmmfaaoaaGreatDoor
open Go.RowKit Go.Lib Go.Ac
set_option linter.unusedSimpArgs false
set_option maxRecDepth 100000
variable {mx : Int}

def lettersL : List UInt8 := [95, 97, 98, 99, 100, 101, 102, 103, 104, 105, 106, 107, 108, 109, 110, 111, 112, 113, 114, 115, 116, 117, 118, 119, 120, 121, 122, 65, 66, 67, 68, 69, 70, 71, 72, 73, 74, 75, 76, 77, 78, 79, 80, 81, 82, 83, 84, 85, 86, 87, 88, 89, 90]
def digitsL : List UInt8 := [48, 49, 50, 51, 52, 53, 54, 55, 56, 57]
def inB (c : Int) (L : List UInt8) : Bool := decide (0 ≤ idxL c L 0)
theorem inB_eq (c : Int) (L : List UInt8) : decide (0 ≤ idxL c L 0) = inB c L := rfl
def isLet (c : Int) : Prop := inB c lettersL = true
theorem let_not : ∀ c : Fin 256, inB (c.val : Int) lettersL = true → inB (c.val : Int) [32, 9, 10, 13, 44] = false ∧ c.val ≠ 239 ∧ c.val ≠ 35 := by decide +kernel
theorem isLet_not {s : List UInt8} {a : Int} (h : isLet (byteAt s a)) : inB (byteAt s a) [32, 9, 10, 13, 44] = false ∧ byteAt s a ≠ 239 ∧ byteAt s a ≠ 35 := by
  have hr := byteAt_range s a
  have := let_not ⟨(byteAt s a).toNat, by omega⟩
  simp only [show ((byteAt s a).toNat : Int) = byteAt s a by omega] at this
  obtain ⟨h1, h2, h3⟩ := this h
  exact ⟨h1, fun e => h2 (by omega), fun e => h3 (by omega)⟩
theorem hasP_first {s p : List UInt8} {a : Int} {b : UInt8} (h0 : 0 ≤ a) (h : hasP (s.drop a.toNat) (b :: p) = true) : byteAt s a = b.toNat ∧ a + (p.length + 1) ≤ s.length := by
  unfold hasP at h
  simp only [Bool.and_eq_true, decide_eq_true_eq, List.length_cons, List.length_drop] at h
  obtain ⟨h1, h2⟩ := h
  have hlt : a.toNat < s.length := by omega
  rw [List.drop_eq_getElem_cons hlt, List.take_succ_cons] at h2
  refine ⟨?_, by omega⟩
  unfold byteAt
  rw [List.getD_eq_getElem?_getD, List.getElem?_eq_getElem hlt]
  simp only [Option.getD_some]
  rw [(List.cons.inj h2).1]
theorem let_not2 : ∀ c : Fin 256, inB (c.val : Int) lettersL = true → inB (c.val : Int) [33, 36, 38, 40, 41, 58, 61, 64, 91, 93, 123, 124, 125] = false ∧ c.val ≠ 46 := by decide +kernel
theorem isLet_not2 {s : List UInt8} {a : Int} (h : isLet (byteAt s a)) : inB (byteAt s a) [33, 36, 38, 40, 41, 58, 61, 64, 91, 93, 123, 124, 125] = false ∧ byteAt s a ≠ 46 := by
  obtain ⟨q1, q2⟩ := byteAt_range s a
  obtain ⟨m, hm⟩ : ∃ m : Nat, byteAt s a = (m : Int) := ⟨(byteAt s a).toNat, by omega⟩
  have := let_not2 ⟨m, by omega⟩
  rw [isLet, hm] at h
  rw [hm]
  obtain ⟨x1, x2⟩ := this h
  have x3 : m ≠ 46 := x2
  exact ⟨x1, fun e => x3 (by omega)⟩
def nameLen (s : List UInt8) (a : Int) : Nat := runLen (lettersL ++ digitsL) (s.drop a.toNat)
def TokP (s : List UInt8) (k a a' : Int) : Prop := (isLet (byteAt s a) → k = 1 ∧ a' = a + nameLen s a) ∧ (k = 1 → isLet (byteAt s a))
def full (s : List UInt8) : Prop := 0 < s.length ∧ isLet (byteAt s 0) ∧ nameLen s 0 = s.length
section
variable {R : Nat} {s : List UInt8} {a f n : Int} {h : AH}
def IgnQ (R : Nat) (s : List UInt8) (a f n : Int) (h : AH) (b : Bool) (v : PV) (h' : AH) : Prop :=
  ∃ a' f', Eqv h' (h.set R (rd s a' f' n)) ∧ a ≤ a' ∧ a' ≤ s.length ∧ (b = false → v = .tup []) ∧ (b = true → a < s.length ∧ ∃ x e, e ≠ 0 ∧ v = wrongV x e) ∧ (a < s.length → isLet (byteAt s a) → b = false ∧ a' = a ∧ f' = f)
def invIgn (R : Nat) (s : List UInt8) (a f n : Int) (h : AH) (k : Nat) (F : Fr) (h' : AH) : Prop :=
  ∃ a' f' : Int, (k : Int) + a' = s.length ∧ a ≤ a' ∧ a' ≤ s.length ∧ F.at 0 = .ptr R 4 0 ∧ Eqv h' (h.set R (rd s a' f' n)) ∧ (a < s.length → isLet (byteAt s a) → a' = a ∧ f' = f)
def invCom (R : Nat) (s : List UInt8) (a1 n : Int) (h : AH) (k : Nat) (F : Fr) (h' : AH) : Prop :=
  ∃ a' f' : Int, (k : Int) + a' = s.length ∧ a1 ≤ a' ∧ a' ≤ s.length ∧ F.at 0 = .ptr R 4 0 ∧ Eqv h' (h.set R (rd s a' f' n))
set_option maxHeartbeats 2000000 in
theorem ignored_sc (g : h.get R = some (rd s a f n)) (ha : 0 ≤ a) (hb : a ≤ s.length) (hl : s.length ≤ 16384) : SC Tryz.prog (globM mx) md (.fn 166) [.ptr R 4 0] h (IgnQ R s a f n h) := by
  refine SC.body (rs := []) Tryz.func166 rfl rfl rfl rfl rfl ?_
  have gu : ∀ {h' : AH} {a' f' : Int}, Eqv h' (h.set R (rd s a' f' n)) → h'.get R = some (rd s a' f' n) := fun e => by rw [e.1, AH.get_set_same]
  have es : ∀ {h' h'' : AH} {a' a'' f' f'' : Int}, Eqv h' (h.set R (rd s a' f' n)) → Eqv h'' (h'.set R (rd s a'' f'' n)) → Eqv h'' (h.set R (rd s a'' f'' n)) := fun e q => (q.trans (e.set _ _)).ss
  rw [wpC_block]
  refine wpC_loop (invIgn R s a f n h) (k := (s.length - a).toNat) ⟨a, f, by omega, by omega, hb, ?_, Eqv.same g, fun _ _ => ⟨rfl, rfl⟩⟩ ?_
  · simp only [layArgs, Fr.at_set, reduceIte]
  rintro k F h1 ⟨a1, f1, ik, l1, m1, f0, e1, hlet⟩
  have g1 := gu e1
  rw [rd_eq] at g1
  cases k with
  | zero =>
    have c1 : ¬ (a1 < (s.length : Int)) := by omega
    simp -implicitDefEqProofs only [wpC_seq, rowsA, if_true, if_false, opnd, ofVal, ofVal1, layArgs, Nat.reduceAdd, reduceIte, Nat.reduceEqDiff, reduceCtorEq, rowsB, cellsG, Nat.reduceMul, rowsR, f0, g1, c1]
    refine ⟨a1, f1, e1.up _, l1, m1, fun _ => rfl, fun q => (by cases q), fun q1 q2 => ⟨rfl, hlet q1 q2⟩⟩
  | succ k =>
    have c1 : a1 < (s.length : Int) := by omega
    simp -implicitDefEqProofs only [wpC_seq, rowsA, if_true, if_false, opnd, ofVal, ofVal1, layArgs, Nat.reduceAdd, reduceIte, Nat.reduceEqDiff, reduceCtorEq, rowsB, cellsG, Nat.reduceMul, rowsR, f0, g1, c1, ixs (show (0 : Int) ≤ a1 by omega) c1, goO_known (idxB_c _ s a1)]
    cases c2 : inB (byteAt s a1) [32, 9, 10, 13, 44] with
    | true =>
      have w := IntWalk.i64_in (a1 + 1) (by omega)
      simp -implicitDefEqProofs only [wpC_seq, rowsA, if_true, if_false, opnd, ofVal, ofVal1, layArgs, Nat.reduceAdd, reduceIte, Nat.reduceEqDiff, reduceCtorEq, rowsB, cellsG, Nat.reduceMul, rowsR, f0, g1, inB_eq, c2, w]
      refine ⟨k, by omega, a1 + 1, f1, by omega, by omega, by omega, ?_, ?_, ?_⟩
      · simp only [Fr.at_set, Nat.reduceEqDiff, reduceIte, reduceCtorEq, f0]
      · exact ((e1.up _).set _ _).ss
      · intro q1 q2
        obtain ⟨rfl, rfl⟩ := hlet q1 q2
        rw [(isLet_not q2).1] at c2
        cases c2
    | false =>
      simp -implicitDefEqProofs only [wpC_seq, rowsA, if_true, if_false, opnd, ofVal, ofVal1, layArgs, Nat.reduceAdd, reduceIte, Nat.reduceEqDiff, reduceCtorEq, rowsB, cellsG, Nat.reduceMul, rowsR, f0, g1, inB_eq, c2]
      refine goO_val (has_v (a := a1) _ (by simp only [AH.get_up]; exact gu e1) (by omega) m1) ?_
      intro v2 h2 hq2
      generalize hG : wpO _ _ _ _ _ _ _ _ _ _ _ = G
      obtain ⟨rfl, e2⟩ := hq2
      have E2 := e2.trans (e1.up _)
      have g2 := gu E2
      rw [rd_eq] at g2
      cases c3 : hasP (s.drop a1.toNat) [239, 187, 191] with
      | true =>
        obtain ⟨q1, q2⟩ := hasP_first (by omega) c3
        simp only [List.length_cons, List.length_nil] at q2
        obtain ⟨k', hk'⟩ : ∃ k' : Nat, (k' : Int) + (a1 + 3) = s.length := ⟨(s.length - (a1 + 3)).toNat, by omega⟩
        subst hG
        have w := IntWalk.i64_in (a1 + 3) (by omega)
        simp -implicitDefEqProofs only [wpC_seq, rowsA, if_true, if_false, opnd, ofVal, ofVal1, layArgs, Nat.reduceAdd, reduceIte, Nat.reduceEqDiff, reduceCtorEq, rowsB, cellsG, Nat.reduceMul, rowsR, f0, g2, c3, w]
        refine ⟨k', by omega, a1 + 3, f1, hk', by omega, by omega, ?_, ?_, ?_⟩
        · simp only [Fr.at_set, Nat.reduceEqDiff, reduceIte, reduceCtorEq, f0]
        · exact ((E2.up _).set _ _).ss
        · intro q3 q4
          obtain ⟨rfl, rfl⟩ := hlet q3 q4
          exact absurd q1 (isLet_not q4).2.1
      | false =>
        by_cases c4 : byteAt s a1 = 35
        · subst hG
          simp -implicitDefEqProofs only [wpC_seq, rowsA, if_true, if_false, opnd, ofVal, ofVal1, layArgs, Nat.reduceAdd, reduceIte, Nat.reduceEqDiff, reduceCtorEq, rowsB, cellsG, Nat.reduceMul, rowsR, f0, g2, c3, c4]
          refine wpC_loop (invCom R s a1 n h) (k := (s.length - a1).toNat) ⟨a1, f1, by omega, by omega, m1, ?_, E2.up _⟩ ?_
          · simp only [Fr.at_set, Nat.reduceEqDiff, reduceIte, reduceCtorEq, f0]
          have noLet : ∀ {X : Prop}, a < s.length → isLet (byteAt s a) → X := fun q1 q2 => by
            obtain ⟨rfl, rfl⟩ := hlet q1 q2
            exact absurd c4 (isLet_not q2).2.2
          rintro k2 F h3 ⟨a3, f3, ik2, l3, m3, f0, e3⟩
          have g3 := gu e3
          rw [rd_eq] at g3
          -- it ends here
          have out : a3 ≠ a1 → ∃ j, j < k + 1 ∧ (j : Int) + a3 = s.length := fun q => ⟨(s.length - a3).toNat, by omega, by omega⟩
          by_cases d1 : a3 < (s.length : Int)
          · by_cases d2 : byteAt s a3 = 10
            · obtain ⟨j, j1, j2⟩ := out (by rintro rfl; rw [c4] at d2; exact absurd d2 (by decide))
              simp -implicitDefEqProofs only [wpC_seq, rowsA, if_true, if_false, opnd, ofVal, ofVal1, layArgs, Nat.reduceAdd, reduceIte, Nat.reduceEqDiff, reduceCtorEq, rowsB, cellsG, Nat.reduceMul, rowsR, f0, g3, d1, ixs (show (0 : Int) ≤ a3 by omega) d1, decide_eq_true d2]
              exact ⟨j, j1, a3, f3, j2, by omega, m3, by simp only [Fr.at_set, Nat.reduceEqDiff, reduceIte, reduceCtorEq, f0], e3.up _, fun q1 q2 => noLet q1 q2⟩
            · by_cases d3 : byteAt s a3 = 13
              · obtain ⟨j, j1, j2⟩ := out (by rintro rfl; rw [c4] at d3; exact absurd d3 (by decide))
                simp -implicitDefEqProofs only [wpC_seq, rowsA, if_true, if_false, opnd, ofVal, ofVal1, layArgs, Nat.reduceAdd, reduceIte, Nat.reduceEqDiff, reduceCtorEq, rowsB, cellsG, Nat.reduceMul, rowsR, f0, g3, d1, ixs (show (0 : Int) ≤ a3 by omega) d1, d2, decide_eq_true d3]
                exact ⟨j, j1, a3, f3, j2, by omega, m3, by simp only [Fr.at_set, Nat.reduceEqDiff, reduceIte, reduceCtorEq, f0], e3.up _, fun q1 q2 => noLet q1 q2⟩
              · simp -implicitDefEqProofs only [wpC_seq, rowsA, if_true, if_false, opnd, ofVal, ofVal1, layArgs, Nat.reduceAdd, reduceIte, Nat.reduceEqDiff, reduceCtorEq, rowsB, cellsG, Nat.reduceMul, rowsR, f0, g3, d1, ixs (show (0 : Int) ≤ a3 by omega) d1, d2, d3]
                have e4 : ∀ m, Eqv ((h3.up m).set R (.cells 152 0 false [.str s, .int .i64 a3, .int .i64 a3, .int .i64 n])) (h.set R (rd s a3 a3 n)) := fun m => ((e3.up m).set _ _).ss
                refine goO_val (source_v (a := a3) (f := a3) (n := n) (s := s) (by simp only [AH.get_up, AH.get_set_same]; rfl) hl) ?_
                intro v5 h5 hq5
                generalize hG : wpO _ _ _ _ _ _ _ _ _ _ _ = G
                obtain ⟨c, b, rfl, q5⟩ := hq5
                have q6 : ∃ a6, Eqv h5 (h.set R (rd s a6 a3 n)) ∧ a3 ≤ a6 ∧ a6 ≤ s.length ∧ (b = true → a3 < a6) := by
                  rcases q5 with ⟨rfl, q5⟩ | ⟨k5, rfl, k1, _, k2, q5⟩
                  · exact ⟨a3, q5.trans (e4 _), by omega, m3, fun q => (by cases q)⟩
                  · exact ⟨a3 + k5, es (e4 _) q5, by omega, k2, fun _ => by omega⟩
                obtain ⟨a6, e6, l6, m6, p6⟩ := q6
                subst hG
                simp -implicitDefEqProofs only [wpC_seq, rowsA, if_true, if_false, opnd, ofVal, ofVal1, layArgs, Nat.reduceAdd, reduceIte, Nat.reduceEqDiff, reduceCtorEq, rowsB, cellsG, Nat.reduceMul, rowsR, f0]
                refine goO_sc (must_sc (a := a6) (f := a3) (n := n) (s := s) b _ (by simp only [AH.get_up]; exact gu e6)) ?_ ?_
                · intro v7 h7 hq7
                  generalize hG : wpO _ _ _ _ _ _ _ _ _ _ _ = G
                  obtain ⟨e7, hb7, _, _⟩ := hq7
                  have hb8 : b = true := by cases b with
                    | true => rfl
                    | false => cases hb7
                  have := p6 hb8
                  obtain ⟨j, j1⟩ : ∃ j : Nat, (j : Int) + a6 = s.length := ⟨(s.length - a6).toNat, by omega⟩
                  have E7 := (e7.trans (e6.up _))
                  subst hG
                  simp -implicitDefEqProofs only [wpC_seq, rowsA, if_true, if_false, opnd, ofVal, ofVal1, layArgs, Nat.reduceAdd, reduceIte, Nat.reduceEqDiff, reduceCtorEq, rowsB, cellsG, Nat.reduceMul, rowsR]
                  exact ⟨j, by omega, a6, a3, j1, by omega, m6, by simp only [Fr.at_set, Nat.reduceEqDiff, reduceIte, reduceCtorEq, f0], E7⟩
                · intro v7 h7 hq7
                  generalize hG : outX _ _ = G
                  obtain ⟨e7, _, _, q7⟩ := hq7
                  have q8 := q7 rfl
                  have E7 := (e7.trans (e6.up _))
                  subst hG
                  subst q8
                  simp -implicitDefEqProofs only [rowsR]
                  exact ⟨a6, a3, E7, by omega, m6, fun q => (by cases q), fun _ => ⟨by omega, _, _, by decide, rfl⟩, fun q1 q2 => noLet q1 q2⟩
          · obtain ⟨j, j1, j2⟩ := out (by omega)
            simp -implicitDefEqProofs only [wpC_seq, rowsA, if_true, if_false, opnd, ofVal, ofVal1, layArgs, Nat.reduceAdd, reduceIte, Nat.reduceEqDiff, reduceCtorEq, rowsB, cellsG, Nat.reduceMul, rowsR, f0, g3, d1]
            exact ⟨j, j1, a3, f3, j2, by omega, m3, by simp only [Fr.at_set, Nat.reduceEqDiff, reduceIte, reduceCtorEq, f0], e3.up _, fun q1 q2 => noLet q1 q2⟩
        · subst hG
          simp -implicitDefEqProofs only [wpC_seq, rowsA, if_true, if_false, opnd, ofVal, ofVal1, layArgs, Nat.reduceAdd, reduceIte, Nat.reduceEqDiff, reduceCtorEq, rowsB, cellsG, Nat.reduceMul, rowsR, f0, g2, c3, c4]
          exact ⟨a1, f1, E2.up _, l1, m1, fun _ => rfl, fun q => (by cases q), fun q1 q2 => ⟨rfl, hlet q1 q2⟩⟩
end
end Go.Proofs.YtcbngkmmmfaaoaaGreatDoor
namespace Go.Proofs.YtcbngkmmmfaaoaaGreatDoor
open Go.RowKit Go.Lib Go.Ac
set_option linter.unusedSimpArgs false
set_option maxRecDepth 100000
variable {mx : Int}

theorem u183 : Tryz.prog.underlying 183 = some (.pointer 185) := by kernel_rfl
theorem u198 : Tryz.prog.underlying 198 = some .unsafePointer := by kernel_rfl
theorem u171 : Tryz.prog.underlying 171 = some (.slice 5) := by kernel_rfl
theorem sz171 : tySz Tryz.prog 171 = some 1 := by kernel_rfl
theorem sz183 : tySz Tryz.prog 183 = some 1 := by kernel_rfl
theorem sz185 : tySz Tryz.prog 185 = some 2 := by kernel_rfl
theorem ag171 : tyAgg Tryz.prog 171 = some false := by kernel_rfl
theorem ag183 : tyAgg Tryz.prog 183 = some false := by kernel_rfl
theorem o185_0 : offOf Tryz.prog 185 0 = some 0 := by kernel_rfl
theorem o185_1 : offOf Tryz.prog 185 1 = some 1 := by kernel_rfl
theorem z185 : tyZero Tryz.prog 185 = some [.npt, .nls] := by kernel_rfl
theorem big185 : bigB Tryz.prog 185 = true := by kernel_rfl
theorem i5 : (Tryz.prog.info? 5).map (fun i => (i.size, i.bytes, i.zero)) = some (1, 1, some (.int .u8 0)) := by kernel_rfl

def byteV (b : UInt8) : PV := .int .u8 b.toNat
def nb : AO → Bool
  | .cells E _ _ _ => E != 5
  | _ => true
def Kp (h h' : AH) (B : Nat) : Prop := h.next ≤ h'.next ∧ ∀ j o, j < h.next → h.get j = some o → j ≠ B → nb o = true → h'.get j = some o
theorem Kp.refl (h : AH) (B : Nat) : Kp h h B := ⟨Nat.le_refl _, fun _ _ _ q _ _ => q⟩
theorem Kp.trans {a b c : AH} {B : Nat} (x : Kp a b B) (y : Kp b c B) : Kp a c B := ⟨Nat.le_trans x.1 y.1, fun j o hj q n m => y.2 j o (Nat.lt_of_lt_of_le hj x.1) (x.2 j o hj q n m) n m⟩
theorem Kp.ofEqv {a b : AH} (B : Nat) (e : Eqv b a) : Kp a b B := ⟨e.2, fun j o _ q _ _ => by rw [e.1]; exact q⟩
theorem Kp.ofSet {a b : AH} {B : Nat} {o : AO} (e : Eqv b (a.set B o)) : Kp a b B := ⟨e.2, fun j x _ q n _ => by rw [e.1, AH.get_set_ne _ _ _ _ n]; exact q⟩
def Bld (h : AH) (B : Nat) (l : List UInt8) : Prop := ∃ addr buf, h.get B = some (.cells 185 0 false [addr, buf]) ∧ (addr = .npt ∨ addr = .ptr B 2 0) ∧ B < h.next ∧
  ((buf = .nls ∧ l = []) ∨ ∃ L, buf = .ow L l.length 0 l.length ∧ h.get L = some (.cells 5 1 false (l.map byteV)) ∧ L < h.next ∧ l ≠ [])
theorem Bld.eqv {h h' : AH} {B : Nat} {l : List UInt8} (b : Bld h B l) (e : Eqv h' h) : Bld h' B l := by
  obtain ⟨ad, bu, q1, q2, q3, q4⟩ := b
  refine ⟨ad, bu, by rw [e.1]; exact q1, q2, Nat.lt_of_lt_of_le q3 e.2, ?_⟩
  rcases q4 with q4 | ⟨L, r1, r2, r3, r4⟩
  · exact .inl q4
  · exact .inr ⟨L, r1, by rw [e.1]; exact r2, Nat.lt_of_lt_of_le r3 e.2, r4⟩
theorem Bld.set {h : AH} {B : Nat} {l : List UInt8} (b : Bld h B l) {R : Nat} {o : AO} (hR : ∃ x, h.get R = some x ∧ nb x = true) (hB : R ≠ B) : Bld (h.set R o) B l := by
  obtain ⟨ad, bu, q1, q2, q3, q4⟩ := b
  refine ⟨ad, bu, by rw [AH.get_set_ne _ _ _ _ (Ne.symm hB)]; exact q1, q2, q3, ?_⟩
  rcases q4 with q4 | ⟨L, r1, r2, r3, r4⟩
  · exact .inl q4
  · refine .inr ⟨L, r1, ?_, r3, r4⟩
    rw [AH.get_set_ne _ _ _ _ (by rintro rfl; obtain ⟨x, e1, e2⟩ := hR; rw [r2] at e1; cases e1; simp [nb] at e2)]
    exact r2

theorem nil183 (h : AH) : binO Tryz.prog h .eql 183 .npt .npt = some (.q (.bool true)) := by simp [binO, liveB, binV, sameV, u183]
theorem nil183p (h : AH) (B : Nat) (ad bu : PV) (g : h.get B = some (.cells 185 0 false [ad, bu])) : binO Tryz.prog h .eql 183 (.ptr B 2 0) .npt = some (.q (.bool false)) := by simp [binO, liveB, g, binV, sameV, u183]
theorem same183 (h : AH) (B : Nat) (ad bu : PV) (g : h.get B = some (.cells 185 0 false [ad, bu])) : binO Tryz.prog h .neq 183 (.ptr B 2 0) (.ptr B 2 0) = some (.q (.bool false)) := by simp [binO, liveB, g, binV, sameV, u183, big185]
theorem cvU (h : AH) (fr B : Nat) (ad bu : PV) (g : h.get B = some (.cells 185 0 false [ad, bu])) : convV Tryz.prog h fr 183 198 (.ptr B 2 0) = some (.q (.ptr B 2 0)) := by simp [convV, u183, u198, g, big185]
theorem cvP (h : AH) (fr B : Nat) (ad bu : PV) (g : h.get B = some (.cells 185 0 false [ad, bu])) : convV Tryz.prog h fr 198 183 (.ptr B 2 0) = some (.q (.ptr B 2 0)) := by simp [convV, u183, u198, g, sz185]
theorem noesc_c (x : PV) (h : AH) (fr : Nat) : CR Tryz.prog (globM mx) md (.fn 203) [x] h fr (.val x) := CR.lib (F := sameF) rfl rfl
theorem stB0 (id : Nat) (a b : PV) (i j k : Nat) : stoG id 2 0 (.ptr i j k) 1 (some (.cells 185 0 false [a, b])) = some (.w .undef id (.cells 185 0 false [.ptr i j k, b])) := rfl
theorem stB1n (id : Nat) (a b : PV) : stoG id 2 1 .nls 1 (some (.cells 185 0 false [a, b])) = some (.w .undef id (.cells 185 0 false [a, .nls])) := rfl
theorem stB1 (id : Nat) (a b : PV) (i j k m : Nat) : stoG id 2 1 (.ow i j k m) 1 (some (.cells 185 0 false [a, b])) = some (.w .undef id (.cells 185 0 false [a, .ow i j k m])) := rfl
theorem copyCheck_v {h : AH} {B : Nat} {ad bu : PV} (g : h.get B = some (.cells 185 0 false [ad, bu])) (ha : ad = .npt ∨ ad = .ptr B 2 0) :
    ∃ v h', (∀ fr, CR Tryz.prog (globM mx) md (.fn 195) [.ptr B 2 0] h fr (.sh v h')) ∧ v = .tup [] ∧ Eqv h' (h.set B (.cells 185 0 false [.ptr B 2 0, bu])) := by
  refine CR.sh (rs := []) (Q := fun v h' => v = .tup [] ∧ Eqv h' (h.set B (.cells 185 0 false [.ptr B 2 0, bu]))) Tryz.func195 rfl rfl rfl rfl rfl ?_
  rcases ha with rfl | rfl
  · simp -implicitDefEqProofs only [wpC_seq, rowsA, if_true, if_false, opnd, ofVal, ofVal1, layArgs, Nat.reduceAdd, reduceIte, Nat.reduceEqDiff, reduceCtorEq, rowsB, cellsG, Nat.reduceMul, rowsR, EndS_normal, EndS_ret, RS_some, g, fda_ptr o185_0, loadO_one ag183 sz183, nil183, sz183, stB0, oneOf_none, goO_known (noesc_c _)]
    rw [cvU _ _ B .npt bu (by simp only [AH.get_up]; exact g)]
    simp -implicitDefEqProofs only [wpC_seq, rowsA, if_true, if_false, opnd, ofVal, ofVal1, layArgs, Nat.reduceAdd, reduceIte, Nat.reduceEqDiff, reduceCtorEq, rowsB, cellsG, Nat.reduceMul, rowsR, EndS_normal, EndS_ret, RS_some, g, fda_ptr o185_0, loadO_one ag183 sz183, nil183, sz183, stB0, oneOf_none, goO_known (noesc_c _)]
    rw [cvP _ _ B .npt bu (by simp only [AH.get_up]; exact g)]
    simp -implicitDefEqProofs only [wpC_seq, rowsA, if_true, if_false, opnd, ofVal, ofVal1, layArgs, Nat.reduceAdd, reduceIte, Nat.reduceEqDiff, reduceCtorEq, rowsB, cellsG, Nat.reduceMul, rowsR, EndS_normal, EndS_ret, RS_some, g, fda_ptr o185_0, loadO_one ag183 sz183, nil183, sz183, stB0, oneOf_none, goO_known (noesc_c _)]
    exact ((Eqv.refl h).up _).set _ _
  · simp -implicitDefEqProofs only [wpC_seq, rowsA, if_true, if_false, opnd, ofVal, ofVal1, layArgs, Nat.reduceAdd, reduceIte, Nat.reduceEqDiff, reduceCtorEq, rowsB, cellsG, Nat.reduceMul, rowsR, EndS_normal, EndS_ret, RS_some, g, fda_ptr o185_0, loadO_one ag183 sz183, nil183p _ B (.ptr B 2 0) bu, same183 _ B (.ptr B 2 0) bu, sz183, stB0, oneOf_none]
    exact ((Eqv.refl h).up _).trans (Eqv.same g)
theorem bytes_len (l : List UInt8) : (l.map byteV).length = l.length := by simp
theorem cells_str (h : AH) (s : List UInt8) : cellsOf h 1 (.str s) = some (s.map byteV, s.length) := by
  simp [Ac.cellsOf]
  intro a _
  rfl
theorem ap_nls (h : AH) (fr : Nat) (s : List UInt8) (h0 : s ≠ []) (hl : s.length ≤ 1048576) : appO Tryz.prog h fr [.nls, .str s] [171, 9] = some (.w (.ow fr s.length 0 s.length) fr (.cells 5 1 false (s.map byteV))) := by
  have hp : 0 < s.length := List.length_pos_iff.2 h0
  cases hi : Tryz.prog.info? 5 with
  | none => have := i5; rw [hi] at this; simp at this
  | some i =>
    have e := i5
    rw [hi] at e
    simp only [Option.map_some, Option.some.injEq, Prod.mk.injEq] at e
    obtain ⟨e1, e2, e3⟩ := e
    simp only [appO, u9, appendV, u171, hi, e3, e1, cells_str, e2, Value.cells, Nat.mul_one]
    rw [if_neg (by simp), if_neg (by omega), if_pos (by omega)]
theorem ap_nls0 (h : AH) (fr : Nat) : appO Tryz.prog h fr [.nls, .str []] [171, 9] = some (.q .nls) := by
  cases hi : Tryz.prog.info? 5 with
  | none => have := i5; rw [hi] at this; simp at this
  | some i =>
    have e := i5
    rw [hi] at e
    simp only [Option.map_some, Option.some.injEq, Prod.mk.injEq] at e
    obtain ⟨e1, e2, e3⟩ := e
    simp only [appO, u9, appendV, u171, hi, e3, e1, cells_str, e2, Value.cells]
    rw [if_neg (by simp), if_pos List.length_nil]
theorem write_v {h : AH} {B : Nat} {l : List UInt8} (s : List UInt8) (hb : Bld h B l) (hl : l.length + s.length ≤ 1048576) :
    ∃ v h', (∀ fr, CR Tryz.prog (globM mx) md (.fn 189) [.ptr B 2 0, .str s] h fr (.sh v h')) ∧ Bld h' B (l ++ s) ∧ Kp h h' B := by
  refine CR.sh (rs := [.tmp 4, .tmp 5]) (Q := fun v h' => Bld h' B (l ++ s) ∧ Kp h h' B) Tryz.func189 rfl rfl rfl rfl rfl ?_
  obtain ⟨ad, bu, q1, q2, q3, q4⟩ := hb
  simp -implicitDefEqProofs only [wpC_seq, rowsA, if_true, if_false, opnd, ofVal, ofVal1, layArgs, Nat.reduceAdd, reduceIte, Nat.reduceEqDiff, reduceCtorEq, rowsB, cellsG, Nat.reduceMul, rowsR]
  refine goO_val (copyCheck_v (bu := bu) (by simp only [AH.get_up]; exact q1) q2) ?_
  intro v1 h1 hq
  generalize hG : wpO _ _ _ _ _ _ _ _ _ _ _ = G
  obtain ⟨rfl, e1⟩ := hq
  have g1 : h1.get B = some (.cells 185 0 false [.ptr B 2 0, bu]) := by rw [e1.1, AH.get_set_same]
  have n1 : h.next ≤ h1.next := by have := e1.2; simp only [AH.next_set, AH.next_up] at this; omega
  have k1 : Kp h h1 B := ⟨n1, fun j o hj q n _ => by rw [e1.1, AH.get_set_ne _ _ _ _ n, AH.get_up]; exact q⟩
  rcases q4 with ⟨rfl, rfl⟩ | ⟨L, rfl, r2, r3, r4⟩
  · by_cases hs : s = []
    · subst hs
      subst hG
      simp -implicitDefEqProofs only [wpC_seq, rowsA, if_true, if_false, opnd, ofVal, ofVal1, layArgs, Nat.reduceAdd, reduceIte, Nat.reduceEqDiff, reduceCtorEq, rowsB, cellsG, Nat.reduceMul, rowsR, EndS_normal, EndS_ret, RS_some, g1, fda_ptr o185_0, fda_ptr o185_1, loadO_one ag171 sz171, ap_nls0, sz171, stB1n]
      refine ⟨⟨.ptr B 2 0, .nls, by simp only [AH.get_up, AH.get_set_same], .inr rfl, by simp only [AH.next_up, AH.next_set]; omega, .inl ⟨rfl, rfl⟩⟩, ?_⟩
      exact k1.trans ⟨by simp only [AH.next_up, AH.next_set]; omega, fun j o hj q n _ => by simp only [AH.get_up, AH.get_set_ne _ _ _ _ n]; exact q⟩
    · subst hG
      have hne : ∀ i, (B = h1.next + i) = False := fun i => by simp only [eq_iff_iff, iff_false]; omega
      have hne' : ∀ i, (h1.next + i = B) = False := fun i => by simp only [eq_iff_iff, iff_false]; omega
      simp -implicitDefEqProofs only [wpC_seq, rowsA, if_true, if_false, opnd, ofVal, ofVal1, layArgs, Nat.reduceAdd, reduceIte, Nat.reduceEqDiff, reduceCtorEq, rowsB, cellsG, Nat.reduceMul, rowsR, EndS_normal, EndS_ret, RS_some, g1, fda_ptr o185_0, fda_ptr o185_1, loadO_one ag171 sz171, ap_nls _ _ s hs (by omega), sz171, stB1, hne]
      refine ⟨⟨.ptr B 2 0, _, by simp only [AH.get_up, AH.get_set_same] <;> rfl, .inr rfl, by simp only [AH.next_up, AH.next_set]; omega, .inr ⟨_, rfl, by simp only [AH.get_up, AH.get_set, hne', if_false, if_true], by simp only [AH.next_up, AH.next_set]; omega, hs⟩⟩, ?_⟩
      refine k1.trans ⟨by simp only [AH.next_up, AH.next_set]; omega, fun j o hj q n _ => ?_⟩
      simp only [AH.get_up, AH.get_set, n, if_false, show ∀ i, ¬ (j = h1.next + i) from fun i => by omega]
      exact q
  · have g2 : h1.get L = some (.cells 5 1 false (l.map byteV)) := by
      rw [e1.1, AH.get_set_ne _ _ _ _ (by rintro rfl; rw [q1] at r2; cases r2), AH.get_up]
      exact r2
    have hLB : (L = B) = False := by
      simp only [eq_iff_iff, iff_false]
      rintro rfl
      rw [q1] at r2
      cases r2
    have hBL : (B = L) = False := by
      simp only [eq_iff_iff, iff_false]
      rintro rfl
      rw [q1] at r2
      cases r2
    by_cases hs : s = []
    · subst hs
      subst hG
      simp -implicitDefEqProofs only [wpC_seq, rowsA, if_true, if_false, opnd, ofVal, ofVal1, layArgs, Nat.reduceAdd, reduceIte, Nat.reduceEqDiff, reduceCtorEq, rowsB, cellsG, Nat.reduceMul, rowsR, EndS_normal, EndS_ret, RS_some, g1, fda_ptr o185_0, fda_ptr o185_1, loadO_one ag171 sz171, sz171, stB1]
      rw [app_ow0 u171 u9 (.inl rfl) i5 rfl (by simp only [AH.get_up]; exact g2) (bytes_len l) (cells_str _ [])]
      simp -implicitDefEqProofs only [wpC_seq, rowsA, if_true, if_false, opnd, ofVal, ofVal1, layArgs, Nat.reduceAdd, reduceIte, Nat.reduceEqDiff, reduceCtorEq, rowsB, cellsG, Nat.reduceMul, rowsR, EndS_normal, EndS_ret, RS_some, g1, fda_ptr o185_0, fda_ptr o185_1, loadO_one ag171 sz171, sz171, stB1]
      refine ⟨⟨.ptr B 2 0, _, by simp only [AH.get_up, AH.get_set_same] <;> rfl, .inr rfl, by simp only [AH.next_up, AH.next_set]; omega, .inr ⟨L, rfl, ?_, by simp only [AH.next_up, AH.next_set]; omega, r4⟩⟩, ?_⟩
      · simp only [AH.get_up, AH.get_set, hLB, if_false]
        exact g2
      · exact k1.trans ⟨by simp only [AH.next_up, AH.next_set]; omega, fun j o hj q n _ => by simp only [AH.get_up, AH.get_set_ne _ _ _ _ n]; exact q⟩
    · have hp : 0 < s.length := List.length_pos_iff.2 hs
      subst hG
      simp -implicitDefEqProofs only [wpC_seq, rowsA, if_true, if_false, opnd, ofVal, ofVal1, layArgs, Nat.reduceAdd, reduceIte, Nat.reduceEqDiff, reduceCtorEq, rowsB, cellsG, Nat.reduceMul, rowsR, EndS_normal, EndS_ret, RS_some, g1, fda_ptr o185_0, fda_ptr o185_1, loadO_one ag171 sz171, sz171, stB1]
      rw [app_ow u171 u9 (.inl rfl) i5 rfl (by simp only [AH.get_up]; exact g2) (bytes_len l) (cells_str _ s) hp (by omega) (by omega)]
      simp -implicitDefEqProofs only [wpC_seq, rowsA, if_true, if_false, opnd, ofVal, ofVal1, layArgs, Nat.reduceAdd, reduceIte, Nat.reduceEqDiff, reduceCtorEq, rowsB, cellsG, Nat.reduceMul, rowsR, EndS_normal, EndS_ret, RS_some, g1, hBL, fda_ptr o185_0, fda_ptr o185_1, loadO_one ag171 sz171, sz171, stB1]
      refine ⟨⟨.ptr B 2 0, _, by simp only [AH.get_up, AH.get_set_same] <;> rfl, .inr rfl, by simp only [AH.next_up, AH.next_set]; omega, .inr ⟨L, by rw [List.length_append], ?_, by simp only [AH.next_up, AH.next_set]; omega, by simp [r4]⟩⟩, ?_⟩
      · simp only [AH.get_up, AH.get_set, hLB, if_false, if_true, List.map_append]
      · refine k1.trans ⟨by simp only [AH.next_up, AH.next_set]; omega, fun j o hj q n m => ?_⟩
        have hjL : j ≠ L := by
          rintro rfl
          rw [g2] at q
          cases q
          simp [nb] at m
        simp only [AH.get_up, AH.get_set_ne _ _ _ _ n, AH.get_set_ne _ _ _ _ hjL]
        exact q
theorem byteR_all (l : List UInt8) : (l.map byteV).all byteR = true := by
  rw [List.all_eq_true]
  intro x hx
  obtain ⟨b, _, rfl⟩ := List.mem_map.1 hx
  have := b.toNat_lt
  simp only [byteV, byteR, decide_eq_true_eq]
  omega
theorem toB_all (l : List UInt8) : (l.map byteV).map toB = l := by
  rw [List.map_map]
  conv => rhs; rw [← List.map_id l]
  apply List.map_congr_left
  intro b _
  simp [byteV, toB]
theorem u193 : Tryz.prog.underlying 193 = some (.pointer 5) := by kernel_rfl
theorem usdO_nls (h : AH) : usdO h [.nls] = some (.q .npt) := rfl
theorem ustr_nil (h : AH) : ustrO Tryz.prog h [.npt, .int .i64 0] [193, 3] = some (.q (.str [])) := rfl
theorem usd_ow {h : AH} {L : Nat} {l : List UInt8} (g : h.get L = some (.cells 5 1 false (l.map byteV))) (h0 : l ≠ []) : usdO h [.ow L l.length 0 l.length] = some (.q (.ptr L l.length 0)) := by
  have := List.length_pos_iff.2 h0
  simp only [usdO, g, bytes_len]
  rw [if_pos ⟨trivial, this⟩]
theorem ustr_ow {h : AH} {L : Nat} {l : List UInt8} (g : h.get L = some (.cells 5 1 false (l.map byteV))) (h0 : l ≠ []) (hl : l.length ≤ 1048576) : ustrO Tryz.prog h [.ptr L l.length 0, .int .i64 l.length] [193, 3] = some (.w (.str l) L (.cells 5 1 true (l.map byteV))) := by
  have h1 := List.length_pos_iff.2 h0
  have ht : List.take ((l.length : Int)).toNat (l.map byteV) = l.map byteV := List.take_of_length_le (by simp)
  simp only [ustrO, unsafeStrV, u193, g, sz5, bytes_len, ht, byteR_all, toB_all]
  rw [if_neg (by omega), if_pos (by refine ⟨by omega, by omega, ?_⟩; simp)]
theorem string_v {h : AH} {B : Nat} {l : List UInt8} (hb : Bld h B l) (hl : l.length ≤ 1048576) :
    ∃ v h', (∀ fr, CR Tryz.prog (globM mx) md (.fn 191) [.ptr B 2 0] h fr (.sh v h')) ∧ v = .str l ∧ Kp h h' B := by
  refine CR.sh (rs := [.tmp 2]) (Q := fun v h' => v = .str l ∧ Kp h h' B) Tryz.func191 rfl rfl rfl rfl rfl ?_
  obtain ⟨ad, bu, q1, q2, q3, q4⟩ := hb
  rcases q4 with ⟨rfl, rfl⟩ | ⟨L, rfl, r2, r3, r4⟩
  · simp -implicitDefEqProofs only [wpC_seq, rowsA, if_true, if_false, opnd, ofVal, ofVal1, layArgs, Nat.reduceAdd, reduceIte, Nat.reduceEqDiff, reduceCtorEq, rowsB, cellsG, Nat.reduceMul, rowsR, EndS_normal, EndS_ret, RS_some, q1, fda_ptr o185_1, loadO_one ag171 sz171, len_nls u171, aop_usd, aop_ustr, usdO_nls, ustr_nil]
    exact (Kp.ofEqv B ((Eqv.refl h).up _))
  · simp -implicitDefEqProofs only [wpC_seq, rowsA, if_true, if_false, opnd, ofVal, ofVal1, layArgs, Nat.reduceAdd, reduceIte, Nat.reduceEqDiff, reduceCtorEq, rowsB, cellsG, Nat.reduceMul, rowsR, EndS_normal, EndS_ret, RS_some, q1, fda_ptr o185_1, loadO_one ag171 sz171, len_ow u171, aop_usd, aop_ustr]
    rw [usd_ow (by simp only [AH.get_up]; exact r2) r4]
    simp -implicitDefEqProofs only [wpC_seq, rowsA, if_true, if_false, opnd, ofVal, ofVal1, layArgs, Nat.reduceAdd, reduceIte, Nat.reduceEqDiff, reduceCtorEq, rowsB, cellsG, Nat.reduceMul, rowsR, EndS_normal, EndS_ret, RS_some, q1, fda_ptr o185_1, loadO_one ag171 sz171, len_ow u171, aop_usd, aop_ustr]
    rw [ustr_ow (by simp only [AH.get_up]; exact r2) r4 (by omega), goD_st (by omega) (by kernel_rfl)]
    simp -implicitDefEqProofs only [wpC_seq, rowsA, if_true, if_false, opnd, ofVal, ofVal1, layArgs, Nat.reduceAdd, reduceIte, Nat.reduceEqDiff, reduceCtorEq, rowsB, cellsG, Nat.reduceMul, rowsR, EndS_normal, EndS_ret, RS_some]
    refine ⟨by simp only [AH.next_up, AH.next_set]; omega, fun j o hj q n m => ?_⟩
    have hjL : j ≠ L := by
      rintro rfl
      rw [r2] at q
      cases q
      simp [nb] at m
    simp only [AH.get_up, AH.get_set_ne _ _ _ _ hjL]
    exact q
end Go.Proofs.YtcbngkmmmfaaoaaGreatDoor
namespace Go.Proofs.YtcbngkmmmfaaoaaGreatDoor
open Go.RowKit Go.Lib Go.Ac
set_option linter.unusedSimpArgs false
set_option maxRecDepth 100000
variable {mx : Int}

theorem u137 : Tryz.prog.underlying 137 = some (.int .u64) := by kernel_rfl
theorem u120 : Tryz.prog.underlying 120 = some (.int .u64) := by kernel_rfl
theorem u187' : Tryz.prog.underlying 187 = some (.interface #[("Error", 177)]) := by kernel_rfl
def hexL : List UInt8 := [48, 49, 50, 51, 52, 53, 54, 55, 56, 57, 97, 98, 99, 100, 101, 102, 65, 66, 67, 68, 69, 70]
def lowI (c : Int) : Int := IntKind.u8.wrap (BitVec.ofInt 8 c ||| BitVec.ofInt 8 32).toNat
theorem bin_or8 {h : AH} {a b : Int} : binO Tryz.prog h .or 5 (.int .u8 a) (.int .u8 b) = some (.q (.int .u8 (IntKind.u8.wrap (BitVec.ofInt 8 a ||| BitVec.ofInt 8 b).toNat))) := by simp [binO, liveB, binV, intOp]; rfl
theorem shl32 (h : AH) : binO Tryz.prog h .shl 137 (.int .u64 1) (.int .u64 32) = some (.q (.int .u64 4294967296)) := rfl
theorem lower_c (c : Int) (h : AH) (fr : Nat) : CR Tryz.prog (globM mx) md (.fn 218) [.int .u8 c] h fr (.val (.int .u8 (lowI c))) := by
  refine CR.plain (rs := [.tmp 2]) Tryz.func218 rfl rfl rfl rfl rfl rfl rfl ?_ h fr
  simp -implicitDefEqProofs only [wpC_seq, rowsA, if_true, if_false, opnd, ofVal, ofVal1, layArgs, Nat.reduceAdd, reduceIte, Nat.reduceEqDiff, reduceCtorEq, rowsB, cellsG, Nat.reduceMul, bin_or8]
  rfl
theorem hex_ok : ∀ c : Fin 256, inB (c.val : Int) hexL = true → c.val ≠ 95 ∧ ((48 ≤ c.val ∧ c.val ≤ 57) ∨ (57 < c.val ∧ 97 ≤ lowI c.val ∧ lowI c.val ≤ 102)) := by decide +kernel
theorem hexAt {s : List UInt8} {a : Int} (h : inB (byteAt s a) hexL = true) : byteAt s a ≠ 95 ∧ ((48 ≤ byteAt s a ∧ byteAt s a ≤ 57) ∨ (57 < byteAt s a ∧ 97 ≤ lowI (byteAt s a) ∧ lowI (byteAt s a) ≤ 102)) := by
  have hr := byteAt_range s a
  have := hex_ok ⟨(byteAt s a).toNat, by omega⟩
  simp only [show ((byteAt s a).toNat : Int) = byteAt s a by omega] at this
  obtain ⟨h1, h2⟩ := this h
  exact ⟨fun e => h1 (by omega), by omega⟩
theorem cv_bs (h : AH) (fr : Nat) (l : List UInt8) : convV Tryz.prog h fr 9 171 (.str l) = some (.w (.ow fr l.length 0 l.length) fr (.cells 5 1 false (l.map byteV))) := by
  simp only [convV, u9, u171, u5]
  rfl
theorem byte_get {l : List UInt8} {i : Nat} (hi : i < l.length) : (l.map byteV)[i]? = some (.int .u8 (byteAt l i)) := by
  rw [List.getElem?_map, List.getElem?_eq_getElem hi]
  simp [byteV, byteAt, hi]
def hexD (c : Int) : Int := if c ≤ 57 then c - 48 else lowI c - 97 + 10
def puV (s : List UInt8) : Nat → Int
  | 0 => 0
  | i + 1 => puV s i * 16 + hexD (byteAt s i)
theorem hexD_range {s : List UInt8} {a : Int} (h : inB (byteAt s a) hexL = true) : 0 ≤ hexD (byteAt s a) ∧ hexD (byteAt s a) < 16 := by
  obtain ⟨_, h2⟩ := hexAt h
  unfold hexD
  split <;> omega
theorem puV_range {s : List UInt8} (hs : ∀ i : Nat, i < 4 → inB (byteAt s i) hexL = true) : 0 ≤ puV s 4 ∧ puV s 4 < 65536 ∧ ∀ i : Nat, i < 4 → 0 ≤ puV s i ∧ puV s i < 4096 := by
  have h0 := hexD_range (hs 0 (by omega))
  have h1 := hexD_range (hs 1 (by omega))
  have h2 := hexD_range (hs 2 (by omega))
  have h3 := hexD_range (hs 3 (by omega))
  have e1 : puV s 1 = puV s 0 * 16 + hexD (byteAt s (0 : Nat)) := rfl
  have e2 : puV s 2 = puV s 1 * 16 + hexD (byteAt s (1 : Nat)) := rfl
  have e3 : puV s 3 = puV s 2 * 16 + hexD (byteAt s (2 : Nat)) := rfl
  have e4 : puV s 4 = puV s 3 * 16 + hexD (byteAt s (3 : Nat)) := rfl
  have e0 : puV s 0 = 0 := rfl
  refine ⟨by omega, by omega, fun i hi => ?_⟩
  match i, hi with
  | 0, _ => omega
  | 1, _ => omega
  | 2, _ => omega
  | 3, _ => omega
def invPU (s : List UInt8) (k : Nat) (F : Fr) (h : AH) : Prop := ∃ i L : Nat, k + i = s.length ∧ F.at 1 = .int .i64 16 ∧ F.at 8 = .bool false ∧ F.at 10 = .int .u64 1152921504606846976 ∧ F.at 11 = .int .u64 4294967295 ∧ F.at 12 = .bool false ∧ F.at 13 = .int .u64 (puV s i) ∧
  F.at 99 = .ow L s.length 0 s.length ∧ F.at 100 = .int .i64 s.length ∧ F.at 101 = .int .i64 i ∧ h.get L = some (.cells 5 1 false (s.map byteV))
set_option maxHeartbeats 2000000 in
theorem pu1_c (s : List UInt8) (hl : s.length = 4) (hs : ∀ i : Nat, i < 4 → inB (byteAt s i) hexL = true) (h : AH) (fr : Nat) : CR Tryz.prog (globM mx) md (.fn 208) [.str s, .int .i64 16, .int .i64 32] h fr (.val (.tup [.int .u64 (puV s 4), .nif])) := by
  refine CR.plain (rs := [.tmp 6, .tmp 7]) Tryz.func208 rfl rfl rfl rfl rfl rfl rfl ?_ h fr
  have hne : decide (s = []) = false := decide_eq_false (by rintro rfl; simp at hl)
  obtain ⟨r4, r5, rI⟩ := puV_range hs
  simp -implicitDefEqProofs only [wpC_seq, rowsA, if_true, if_false, opnd, ofVal, ofVal1, layArgs, Nat.reduceAdd, reduceIte, Nat.reduceEqDiff, reduceCtorEq, rowsB, cellsG, Nat.reduceMul, rowsR, Array.toList_empty, Int.reduceLE, Int.reduceLT, Int.reduceEq, hne, conv_int u3 u120, conv_int u3 u137, shl32, cv_bs, len_ow u171,
    show IntKind.u64.wrap (32 : Int) = 32 from rfl, show IntKind.u64.wrap ((4294967296 : Int) - 1) = 4294967295 from rfl]
  refine wpC_loop (invPU s) (k := s.length) ⟨0, 39, by omega, ?_, ?_, ?_, ?_, ?_, ?_, ?_, ?_, ?_, ?_⟩ ?_
  all_goals first
    | (simp only [Fr.at_set, Nat.reduceEqDiff, reduceIte, reduceCtorEq] <;> first | rfl | done)
    | (simp only [AH.get_set, AH.get_up, if_true]; done)
    | skip
  rintro k F h1 ⟨i, L, ik, f1, f8, f10, f11, f12, f13, f99, f100, f101, gL⟩
  have i16 : IntKind.u64.wrap (16 : Int) = 16 := rfl
  have i16b : IntKind.u8.wrap (16 : Int) = 16 := rfl
  cases k with
  | zero =>
    have c1 : ¬ ((i : Int) < (s.length : Int)) := by omega
    obtain rfl : i = 4 := by omega
    simp -implicitDefEqProofs only [wpC_seq, rowsA, if_true, if_false, opnd, ofVal, ofVal1, layArgs, Nat.reduceAdd, reduceIte, Nat.reduceEqDiff, reduceCtorEq, rowsB, cellsG, Nat.reduceMul, rowsR, f1, f8, f10, f11, f12, f13, f99, f100, f101, c1]
  | succ k =>
    have c1 : (i : Int) < (s.length : Int) := by omega
    have hi : i < s.length := by omega
    obtain ⟨x1, x2⟩ := hexAt (hs i (by omega))
    obtain ⟨d1, d2⟩ := hexD_range (hs i (by omega))
    obtain ⟨p1, p2⟩ := rI i (by omega)
    have hr := byteAt_range s i
    have w := IntWalk.i64_in ((i : Int) + 1) (by omega)
    have w1 := IntWalk.u64_in (puV s i * 16) (by omega)
    have c5 : ¬ (1152921504606846976 ≤ puV s i) := by omega
    by_cases c2 : byteAt s i ≤ 57
    · have c3 : 48 ≤ byteAt s i := by omega
      have e : hexD (byteAt s i) = byteAt s i - 48 := by simp [hexD, c2]
      rw [e] at d1 d2
      have w2 := IntWalk.u8_in (byteAt s i - 48) (by omega)
      have w3 := IntWalk.u64_in (byteAt s i - 48) (by omega)
      have w4 := IntWalk.u64_in (puV s i * 16 + (byteAt s i - 48)) (by omega)
      have c4 : ¬ (16 ≤ byteAt s i - 48) := by omega
      have c6 : ¬ (puV s i * 16 + (byteAt s i - 48) < puV s i * 16) := by omega
      have c7 : ¬ (4294967295 < puV s i * 16 + (byteAt s i - 48)) := by omega
      simp -implicitDefEqProofs only [wpC_seq, rowsA, if_true, if_false, opnd, ofVal, ofVal1, layArgs, Nat.reduceAdd, reduceIte, Nat.reduceEqDiff, reduceCtorEq, rowsB, cellsG, Nat.reduceMul, rowsR, f1, f8, f10, f11, f12, f13, f99, f100, f101, c1, gL, bytes_len, ida_ow (n := s.length) (i := (i : Int)) u171 sz5 (by omega) c1, Int.toNat_natCast, load_drop ag5 sz5 (byte_get hi), x1, c2, c3, w2, conv_int u3 u5, conv_int u3 u137, conv_int u5 u137, i16, i16b, c4, c5, w1, w3, w4, c6, c7, w]
      refine ⟨k, by omega, i + 1, L, by omega, ?_, ?_, ?_, ?_, ?_, ?_, ?_, ?_, ?_, ?_⟩
      all_goals first
        | (simp only [Fr.at_set, Nat.reduceEqDiff, reduceIte, reduceCtorEq, f1, f8, f10, f11, f12, f99, f100] <;> first | rfl | done)
        | (simp only [AH.get_up, gL]; done)
        | skip
      simp only [Fr.at_set, Nat.reduceEqDiff, reduceIte, reduceCtorEq, puV, e]
    · have c3 : 48 ≤ byteAt s i := by omega
      obtain ⟨x3, x4⟩ : 97 ≤ lowI (byteAt s i) ∧ lowI (byteAt s i) ≤ 102 := by omega
      have e : hexD (byteAt s i) = lowI (byteAt s i) - 97 + 10 := by simp [hexD, c2]
      rw [e] at d1 d2
      have w0 := IntWalk.u8_in (lowI (byteAt s i) - 97) (by omega)
      have w2 := IntWalk.u8_in (lowI (byteAt s i) - 97 + 10) (by omega)
      have w3 := IntWalk.u64_in (lowI (byteAt s i) - 97 + 10) (by omega)
      have w4 := IntWalk.u64_in (puV s i * 16 + (lowI (byteAt s i) - 97 + 10)) (by omega)
      have c4 : ¬ (16 ≤ lowI (byteAt s i) - 97 + 10) := by omega
      have c6 : ¬ (puV s i * 16 + (lowI (byteAt s i) - 97 + 10) < puV s i * 16) := by omega
      have c7 : ¬ (4294967295 < puV s i * 16 + (lowI (byteAt s i) - 97 + 10)) := by omega
      have x5 : lowI (byteAt s i) ≤ 122 := by omega
      simp -implicitDefEqProofs only [wpC_seq, rowsA, if_true, if_false, opnd, ofVal, ofVal1, layArgs, Nat.reduceAdd, reduceIte, Nat.reduceEqDiff, reduceCtorEq, rowsB, cellsG, Nat.reduceMul, rowsR, f1, f8, f10, f11, f12, f13, f99, f100, f101, c1, gL, bytes_len, ida_ow (n := s.length) (i := (i : Int)) u171 sz5 (by omega) c1, Int.toNat_natCast, load_drop ag5 sz5 (byte_get hi), x1, c2, c3, goO_known (lower_c _), x3, x5, w0, w2, conv_int u3 u5, conv_int u3 u137, conv_int u5 u137, i16, i16b, c4, c5, w1, w3, w4, c6, c7, w]
      refine ⟨k, by omega, i + 1, L, by omega, ?_, ?_, ?_, ?_, ?_, ?_, ?_, ?_, ?_, ?_⟩
      all_goals first
        | (simp only [Fr.at_set, Nat.reduceEqDiff, reduceIte, reduceCtorEq, f1, f8, f10, f11, f12, f99, f100] <;> first | rfl | done)
        | (simp only [AH.get_up, gL]; done)
        | skip
      simp only [Fr.at_set, Nat.reduceEqDiff, reduceIte, reduceCtorEq, puV, e]
theorem pu_c (s : List UInt8) (hl : s.length = 4) (hs : ∀ i : Nat, i < 4 → inB (byteAt s i) hexL = true) (h : AH) (fr : Nat) : CR Tryz.prog (globM mx) md (.fn 199) [.str s, .int .i64 16, .int .i64 32] h fr (.val (.tup [.int .u64 (puV s 4), .nif])) := by
  refine CR.plain (rs := [.tmp 6, .tmp 7]) Tryz.func199 rfl rfl rfl rfl rfl rfl rfl ?_ h fr
  simp -implicitDefEqProofs only [wpC_seq, rowsA, if_true, if_false, opnd, ofVal, ofVal1, layArgs, Nat.reduceAdd, reduceIte, Nat.reduceEqDiff, reduceCtorEq, rowsB, cellsG, Nat.reduceMul, rowsR, goO_known (pu1_c s hl hs), nilN_neq_nif u187']

theorem CR.some {P : Program} {G : Glob} {md : FuncId → Md} {k : FuncId} {fn : Func} {c : Code} {rs : List ResultVar} {args : List PV} {Q : PV → Prop} (hf : P.funcs[k]? = some fn) (hb : fn.body = some c) (hn : (fn.name == "runtime.NumGoroutine") = false) (hr : fn.results.toList = rs) (hm : md k = .pure) (hd : noDf c = true) (hcl : PV.cleans args = true)
    (he : wpC P G md (some fn.ntmps) c (layArgs 0 args Fr.none) .empty (EndS P rs fun u _ => Q u ∧ u.clean = true)) : ∃ v, Q v ∧ v.clean = true ∧ ∀ (h : AH) (fr : Nat), CR P G md (.fn k) args h fr (.val v) := by
  obtain ⟨n, x, f', h', he1, q⟩ := wpC_ev _ _ _ _ he
  obtain ⟨hx, l, h1, h2, h3⟩ := EndS_some q
  refine ⟨oneOf l, h2, h3, fun h fr => CR.pure hf hb hn hm hcl ⟨n, x, f', h', he1, .ret, n, .val (oneOf l) h', hx, ?_, oneOf l, h', h', rfl, frz_clean _ h3⟩ h fr⟩
  have hds : f'.ds = [] := by rw [evC_ds _ _ _ _ _ _ _ hd he1, layArgs_ds]; rfl
  rw [hds]
  exact runD_nil (by rw [hr]; exact h1)

def vrB (c : Int) : Bool := (decide (0 ≤ c) && decide (c < 55296)) || (decide (57343 < c) && decide (c ≤ 1114111))
theorem vr_c (c : Int) (h : AH) (fr : Nat) : CR Tryz.prog (globM mx) md (.fn 210) [.int .i32 c] h fr (.val (.bool (vrB c))) := by
  refine CR.plain (rs := [.tmp 2]) Tryz.func210 rfl rfl rfl rfl rfl rfl rfl ?_ h fr
  by_cases c1 : 0 ≤ c
  · by_cases c2 : c < 55296
    · simp -implicitDefEqProofs only [wpC_seq, rowsA, if_true, if_false, opnd, ofVal, ofVal1, layArgs, Nat.reduceAdd, reduceIte, Nat.reduceEqDiff, reduceCtorEq, rowsB, cellsG, Nat.reduceMul, c1, c2]
      simp [vrB, c1, c2]
    · by_cases c3 : 57343 < c <;> by_cases c4 : c ≤ 1114111
      all_goals
        simp -implicitDefEqProofs only [wpC_seq, rowsA, if_true, if_false, opnd, ofVal, ofVal1, layArgs, Nat.reduceAdd, reduceIte, Nat.reduceEqDiff, reduceCtorEq, rowsB, cellsG, Nat.reduceMul, c1, c2, c3, c4]
        simp [vrB, c1, c2, c3, c4]
  · have c3 : ¬ (57343 < c) := by omega
    simp -implicitDefEqProofs only [wpC_seq, rowsA, if_true, if_false, opnd, ofVal, ofVal1, layArgs, Nat.reduceAdd, reduceIte, Nat.reduceEqDiff, reduceCtorEq, rowsB, cellsG, Nat.reduceMul, c1, c3]
    simp [vrB, c1, c3]
theorem encode_len (c : Int) : (Utf8.encode c).data.toList.length ≤ 4 := by
  unfold Utf8.encode
  simp only
  generalize (if Utf8.valid c = true then c.toNat else Utf8.runeError) = z
  split
  · simp
  · split
    · simp
    · split <;> simp
theorem put_c (c : Int) (h0 : 0 ≤ c) (h1 : c < 65536) : ∃ x e, x.length ≤ 4 ∧ ∀ (h : AH) (fr : Nat), CR Tryz.prog (globM mx) md (.fn 200) [.int .i64 c] h fr (.val (.tup [.str x, .int .i64 e])) := by
  have w := IntWalk.i32_in c (by omega)
  have c1 : ¬ (c < 0) := by omega
  have c2 : ¬ (1114111 < c) := by omega
  cases c3 : vrB c with
  | true =>
    refine ⟨_, 0, encode_len c, fun h fr => CR.plain (rs := [.tmp 2, .tmp 3]) Tryz.func200 rfl rfl rfl rfl rfl rfl rfl ?_ h fr⟩
    simp -implicitDefEqProofs only [wpC_seq, rowsA, if_true, if_false, opnd, ofVal, ofVal1, layArgs, Nat.reduceAdd, reduceIte, Nat.reduceEqDiff, reduceCtorEq, rowsB, cellsG, Nat.reduceMul, c1, c2, conv_int u3 u21, w, goO_known (vr_c c), c3, conv_char u21 u9]
  | false =>
    refine ⟨[], 10, Nat.zero_le _, fun h fr => CR.plain (rs := [.tmp 2, .tmp 3]) Tryz.func200 rfl rfl rfl rfl rfl rfl rfl ?_ h fr⟩
    simp -implicitDefEqProofs only [wpC_seq, rowsA, if_true, if_false, opnd, ofVal, ofVal1, layArgs, Nat.reduceAdd, reduceIte, Nat.reduceEqDiff, reduceCtorEq, rowsB, cellsG, Nat.reduceMul, c1, c2, conv_int u3 u21, w, goO_known (vr_c c), c3, Array.toList_empty]
theorem shr12 (h : AH) (a : Int) : binO Tryz.prog h .shr 3 (.int .i64 a) (.int .u64 12) = some (.q (.int .i64 (a.fdiv (2 ^ (min (12 : Int).toNat 64))))) := rfl
theorem shr6 (h : AH) (a : Int) : binO Tryz.prog h .shr 3 (.int .i64 a) (.int .u64 6) = some (.q (.int .i64 (a.fdiv (2 ^ (min (6 : Int).toNat 64))))) := rfl
theorem and63 (h : AH) (a : Int) : binO Tryz.prog h .and 3 (.int .i64 a) (.int .i64 63) = some (.q (.int .i64 (IntKind.i64.wrap (BitVec.ofInt 64 a &&& BitVec.ofInt 64 63).toNat))) := by simp [binO, liveB, binV, intOp]; rfl
theorem bs3 (a b c : Int) (fr : Nat) : buildO Tryz.prog fr 171 3 [(0, .int .u8 a), (1, .int .u8 b), (2, .int .u8 c)] = some (.w (.ow fr 3 0 3) fr (.cells 5 1 false [.int .u8 a, .int .u8 b, .int .u8 c])) := by
  have hz : tyZero Tryz.prog 5 = some [.int .u8 0] := by kernel_rfl
  refine build_all (n := 1) (zc := [.int .u8 0]) u171 sz5 hz rfl (by omega) (by omega) (by omega) ?_
  rfl
theorem three_c (n : Int) : ∃ x : List UInt8, x.length ≤ 4 ∧ ∀ (h : AH) (fr : Nat), CR Tryz.prog (globM mx) md (.fn 201) [.int .i64 n] h fr (.val (.str x)) := by
  obtain ⟨v, ⟨x, rfl, h1⟩, _, h2⟩ := CR.some (P := Tryz.prog) (G := globM mx) (md := md) (k := 201) (args := [.int .i64 n]) (Q := fun v => ∃ x : List UInt8, v = .str x ∧ x.length ≤ 4) (rs := [.tmp 2]) Tryz.func201 rfl rfl rfl rfl rfl rfl (by
    simp -implicitDefEqProofs only [wpC_seq, rowsA, if_true, if_false, opnd, ofVal, ofVal1, layArgs, Nat.reduceAdd, reduceIte, Nat.reduceEqDiff, reduceCtorEq, rowsB, cellsG, Nat.reduceMul, shr12, shr6, and63, conv_int u3 u5, bs3, conv_bytes u171 u5 u9, convG_some, cellsG_all (n := 3) (fz := false) (E := 5) (c := [_, _, _]) rfl, EndS_normal, EndS_ret, RS_some]
    exact ⟨⟨_, rfl, by simp⟩, rfl⟩)
  exact ⟨x, h1, h2⟩
end Go.Proofs.YtcbngkmmmfaaoaaGreatDoor
