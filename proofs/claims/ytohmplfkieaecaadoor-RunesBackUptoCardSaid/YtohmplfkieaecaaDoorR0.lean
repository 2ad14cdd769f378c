/-
  RUNES, 0: what the program's text is: the types that are met, the tables, the two functions of Go's library that are met by the shelf's contracts.
-/
import Derived.Test.YtohmplfkieaecaaDoorA18
import Derived.Test.YtohmplfkieaecaaDoorTie
import Derived.Shelf.Unicode.ValidAny
import Derived.Shelf.Unicode.DecodeAny
import Derived.Lib.LaidU8T
import Derived.Lib.LaidTab
import Derived.KernelRfl
namespace Go.Proofs.YtohmplfkieaecaaDoor
open Go.RowKit Go.Shelf Go.Lib Go.Ab
set_option linter.unusedSimpArgs false
set_option maxRecDepth 100000

def valid_ren : Ren where
  f := fun | 196 => 29 | 259 => 35 | n => n
  t := fun | 9 => 9 | 4 => 4 | 3 => 3 | 5 => 5 | 12 => 12 | 119 => 46 | 0 => 0 | 46 => 50 | 139 => 49 | 138 => 48 | 53 => 51 | n => n
  g := fun | 3 => 0 | 4 => 1 | n => n
def decode_ren : Ren where
  f := fun | 197 => 26 | 260 => 34 | n => n
  t := fun | 9 => 9 | 21 => 21 | 3 => 3 | 4 => 4 | 5 => 5 | 105 => 40 | 119 => 46 | 0 => 0 | 46 => 50 | 139 => 49 | 138 => 48 | n => n
  g := fun | 3 => 0 | 4 => 1 | n => n
theorem laysValid : Lays.n196 Tryd.prog valid_ren := {
  mixed := by kernel_rfl
  f196 := Tryd.func29.trans (congrArg some (by kernel_rfl))
  f259 := Tryd.func35.trans (congrArg some (by kernel_rfl))
  t0 := Tryd.underlying0
  a0 := Tryd.isAgg0
  z0 := Tryd.sizeOf0
  v0 := Tryd.zeroValue0
  t3 := Tryd.underlying3
  a3 := Tryd.isAgg3
  z3 := Tryd.sizeOf3
  v3 := Tryd.zeroValue3
  t4 := Tryd.underlying4
  a4 := Tryd.isAgg4
  z4 := Tryd.sizeOf4
  v4 := Tryd.zeroValue4
  t5 := Tryd.underlying5
  a5 := Tryd.isAgg5
  z5 := Tryd.sizeOf5
  v5 := Tryd.zeroValue5
  t9 := Tryd.underlying9
  a9 := Tryd.isAgg9
  z9 := Tryd.sizeOf9
  v9 := Tryd.zeroValue9
  t12 := Tryd.underlying12
  a12 := Tryd.isAgg12
  z12 := Tryd.sizeOf12
  v12 := Tryd.zeroValue12
  t46 := Tryd.underlying50
  a46 := Tryd.isAgg50
  z46 := Tryd.sizeOf50
  v46 := Tryd.zeroValue50
  t53 := Tryd.underlying51
  a53 := Tryd.isAgg51
  z53 := Tryd.sizeOf51
  v53 := Tryd.zeroValue51
  t119 := Tryd.underlying46
  a119 := Tryd.isAgg46
  z119 := Tryd.sizeOf46
  t138 := Tryd.underlying48
  a138 := Tryd.isAgg48
  z138 := Tryd.sizeOf48
  v138 := Tryd.zeroValue48
  t139 := Tryd.underlying49
  a139 := Tryd.isAgg49
  z139 := Tryd.sizeOf49
  v139 := Tryd.zeroValue49
  g3 := by kernel_rfl
  g4 := by kernel_rfl }
theorem laysDecode : Lays.n197 Tryd.prog decode_ren := {
  mixed := by kernel_rfl
  f197 := Tryd.func26.trans (congrArg some (by kernel_rfl))
  f260 := Tryd.func34.trans (congrArg some (by kernel_rfl))
  t0 := Tryd.underlying0
  a0 := Tryd.isAgg0
  z0 := Tryd.sizeOf0
  v0 := Tryd.zeroValue0
  t3 := Tryd.underlying3
  a3 := Tryd.isAgg3
  z3 := Tryd.sizeOf3
  v3 := Tryd.zeroValue3
  t4 := Tryd.underlying4
  a4 := Tryd.isAgg4
  z4 := Tryd.sizeOf4
  v4 := Tryd.zeroValue4
  t5 := Tryd.underlying5
  a5 := Tryd.isAgg5
  z5 := Tryd.sizeOf5
  v5 := Tryd.zeroValue5
  t9 := Tryd.underlying9
  a9 := Tryd.isAgg9
  z9 := Tryd.sizeOf9
  v9 := Tryd.zeroValue9
  t21 := Tryd.underlying21
  a21 := Tryd.isAgg21
  z21 := Tryd.sizeOf21
  v21 := Tryd.zeroValue21
  t46 := Tryd.underlying50
  a46 := Tryd.isAgg50
  z46 := Tryd.sizeOf50
  v46 := Tryd.zeroValue50
  t105 := Tryd.underlying40
  a105 := Tryd.isAgg40
  z105 := Tryd.sizeOf40
  v105 := Tryd.zeroValue40
  t119 := Tryd.underlying46
  a119 := Tryd.isAgg46
  z119 := Tryd.sizeOf46
  t138 := Tryd.underlying48
  a138 := Tryd.isAgg48
  z138 := Tryd.sizeOf48
  v138 := Tryd.zeroValue48
  t139 := Tryd.underlying49
  a139 := Tryd.isAgg49
  z139 := Tryd.sizeOf49
  v139 := Tryd.zeroValue49
  g3 := by kernel_rfl
  g4 := by kernel_rfl }

/-! ### The two tables -/
def accTab : List Int := [128, 191, 160, 191, 128, 159, 144, 191, 128, 143, 0, 0, 0, 0, 0, 0, 0, 0, 0, 0, 0, 0, 0, 0, 0, 0, 0, 0, 0, 0, 0, 0]
def glob : Glob
  | 0 => some (firstTab.map (PV.int .u8))
  | 1 => some (accTab.map (PV.int .u8))
  | _ => none
theorem accTab_eq : accTab = (List.range 32).map fun j => if j % 2 = 0 then (accLo (j / 2) : Int) else (accHi (j / 2) : Int) := by decide +kernel
theorem firstTab_at (c : Nat) (h : c < 256) : firstTab[c]? = some (firstT c : Int) := by
  simp [firstTab, h]
theorem tabs_of_glob {g : Gh} {w : World} (hG : GlobOk g glob) (ros : ∀ b C, g.ro b = some C → ∃ c E z, w.heap[b]? = some (.cells c E z) ∧ ∀ (i : Nat) (v : Value), C[i]? = some v → c[i]? = some v) : Utf8Tabs 0 1 w := by
  refine ⟨fun c hc => cell_of_table (hG 0 _ rfl) ros c _ (firstTab_at c hc), fun i hi => ⟨?_, ?_⟩⟩
  · refine cell_of_table (hG 1 _ rfl) ros (2 * i) _ ?_
    rw [accTab_eq, List.getElem?_map, List.getElem?_range (by omega)]
    simp
  · refine cell_of_table (hG 1 _ rfl) ros (2 * i + 1) _ ?_
    rw [accTab_eq, List.getElem?_map, List.getElem?_range (by omega)]
    rw [Option.map_some, if_neg (by omega), show (2 * i + 1) / 2 = i by omega]
theorem glob_of_tabs {W : World} (h : Utf8Tabs 0 1 W) : GlobOk (Gh.start W) glob := by
  intro k c e
  match k, e with
  | 0, e =>
    obtain rfl := Option.some.inj e
    refine rep_table (by decide) fun i z hz => ?_
    have hi : i < 256 := by
      have := (List.getElem?_eq_some_iff.1 hz).1
      simpa [firstTab] using this
    rw [firstTab_at i hi] at hz
    obtain rfl := Option.some.inj hz
    exact h.1 i hi
  | 1, e =>
    obtain rfl := Option.some.inj e
    refine rep_table (by decide) fun i z hz => ?_
    have hi : i < 32 := (List.getElem?_eq_some_iff.1 hz).1
    rw [accTab_eq, List.getElem?_map, List.getElem?_range hi] at hz
    simp only [Option.map_some, Option.some.injEq] at hz
    subst hz
    by_cases e : i % 2 = 0
    · rw [if_pos e]
      have := (h.2 (i / 2) (by omega)).1
      rwa [show 2 * (i / 2) = i by omega] at this
    · rw [if_neg e]
      have := (h.2 (i / 2) (by omega)).2
      rwa [show 2 * (i / 2) + 1 = i by omega] at this
  | k + 2, e => simp [glob] at e

/-! ### How each function is called -/
def validF : List PV → Option PV
  | [.str l] => if l.length ≤ 9223372036854775807 then some (.bool (validD l)) else none
  | _ => none
def decodeF : List PV → Option PV
  | [.str l] => some (.tup [.int .i32 (decodeGo ⟨l.toArray⟩).1, .int .i64 (decodeGo ⟨l.toArray⟩).2])
  | _ => none
def md : FuncId → Md
  | 18 => .shared
  | 19 => .shared
  | 26 => .lib decodeF
  | 29 => .lib validF
  | _ => .pure
theorem md_own (k : FuncId) : md k ≠ .own := by
  unfold md
  split <;> simp
theorem str_eq (s : ByteArray) : (⟨s.data.toList.toArray⟩ : ByteArray) = s := by cases s; simp
theorem one_arg {g : Gh} {l : List UInt8} {vs : Array Value} (h : Reps g [.str l] vs.toList) : ∃ s : ByteArray, vs = #[.string s] ∧ s.data.toList = l := by
  cases vs with
  | mk vs =>
    cases h with
    | cons _ _ v vs' h1 h2 =>
      cases h2
      cases h1 with
      | str _ s e => exact ⟨s, rfl, e⟩
theorem valid_ok : LibOk Tryd.prog glob 29 validF := by
  intro g w args vs v hG ros hr hcl he
  unfold validF at he
  split at he
  · split at he
    · rename_i l hl
      obtain rfl := Option.some.inj he
      obtain ⟨s, rfl, rfl⟩ := one_arg hr
      refine (Any.utf8_ValidString laysValid s w (by rw [size_eq]; exact hl) (tabs_of_glob hG ros)).mono ?_
      rintro e w' ⟨rfl, hb⟩
      exact ⟨_, rfl, hb, .bool _⟩
    · simp at he
  · simp at he
theorem decode_ok : LibOk Tryd.prog glob 26 decodeF := by
  intro g w args vs v hG ros hr hcl he
  unfold decodeF at he
  split at he
  · rename_i l
    obtain rfl := Option.some.inj he
    obtain ⟨s, rfl, rfl⟩ := one_arg hr
    refine (Any.utf8_DecodeRuneInString laysDecode s w (tabs_of_glob hG ros)).mono ?_
    rintro e w' ⟨rfl, hb⟩
    refine ⟨_, rfl, hb, ?_⟩
    rw [str_eq]
    exact .tup _ _ (.cons _ _ _ _ (.int _ _) (.cons _ _ _ _ (.int _ _) .nil))
  · simp at he
theorem lib_all (k : FuncId) (F : List PV → Option PV) (h : md k = .lib F) : LibOk Tryd.prog glob k F := by
  unfold md at h
  split at h
  · simp at h
  · simp at h
  · cases h; exact decode_ok
  · cases h; exact valid_ok
  · simp at h
theorem ok_prog : okP Tryd.prog = true := by kernel_rfl
end Go.Proofs.YtohmplfkieaecaaDoor
