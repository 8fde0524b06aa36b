/- Part 10 of 11 of what the statement leans on. Proved: gatepostlaw02.ValueBags returns true for every input, and the input reads behind the call as it read before; condition: none but the row's own cells. -/
import Derived.Test.YtalkelaaimkhnaaFi
import Derived.Lib.Bytealg
import Derived.Shelf.SlSortCmp.WholeK
import Derived.Shelf.SlicesE.Clone
import Derived.WalkKit
set_option linter.all false
section
/- What the functions of layer 2 answer, I. -/
set_option maxRecDepth 100000
namespace Go.Fw.EqV
open Go.Fw Go.Fw.Ir Go.Fw.Gp
attribute [local congr] cg_selB cg_bind cg_map cg_andThen cg_denL cg_condL cg_runOps cg_stepOp cg_gate
variable {Ω : Type} {T : Nat → Option (Ent Ω)}
set_option maxHeartbeats 4000000
set_option linter.all false

def cmpI (a b : Int) : Int := if iLt a b then -1 else if iLt b a then 1 else 0
theorem nan_int_eq (h : T f_cmp_isNaN_int = some (.fn ir_cmp_isNaN_int)) (a : Int) (S : List (Fr Ω)) : G T f_cmp_isNaN_int [.int a] S = some (.sc (.bool false), none, S) := by
  have e : iEq a a = true := by rw [iEq_def]; simp
  rw [G_fn T h]
  simp -implicitDefEqProofs only [go_sem, initFS, number, Nat.reduceAdd, ir_cmp_isNaN_int, *]
theorem nan_int64_eq (h : T f_cmp_isNaN_int64 = some (.fn ir_cmp_isNaN_int64)) (a : Int) (S : List (Fr Ω)) : G T f_cmp_isNaN_int64 [.int a] S = some (.sc (.bool false), none, S) := by
  have e : iEq a a = true := by rw [iEq_def]; simp
  rw [G_fn T h]
  simp -implicitDefEqProofs only [go_sem, initFS, number, Nat.reduceAdd, ir_cmp_isNaN_int64, *]
theorem cmpI_eq (h : T f_cmp_Compare_int = some (.fn ir_cmp_Compare_int)) (h2 : T f_cmp_isNaN_int = some (.fn ir_cmp_isNaN_int)) (a b : Int) (S : List (Fr Ω)) :
    G T f_cmp_Compare_int [.int a, .int b] S = some (.int (cmpI a b), none, S) := by
  have e := nan_int_eq h2
  rw [G_fn T h]
  repeat' (first
    | (rw [nLe_yes]; rotate_left; focus ((try simp only [List.length_append, List.length_take, List.length_drop, List.length_cons, List.length_nil, encVs_length, encVs]); omega))
    | (rw [gate_mt]; split)
    | (rw [gate_mf]; split)
    | (rw [condL_m]; split)
    | (simp -implicitDefEqProofs only [go_sem, initFS, number, Nat.reduceAdd, ir_cmp_Compare_int, *]))
  all_goals simp [cmpI, *]
theorem cmpI64_eq (h : T f_cmp_Compare_int64 = some (.fn ir_cmp_Compare_int64)) (h2 : T f_cmp_isNaN_int64 = some (.fn ir_cmp_isNaN_int64)) (a b : Int) (S : List (Fr Ω)) :
    G T f_cmp_Compare_int64 [.int a, .int b] S = some (.int (cmpI a b), none, S) := by
  have e := nan_int64_eq h2
  rw [G_fn T h]
  repeat' (first
    | (rw [nLe_yes]; rotate_left; focus ((try simp only [List.length_append, List.length_take, List.length_drop, List.length_cons, List.length_nil, encVs_length, encVs]); omega))
    | (rw [gate_mt]; split)
    | (rw [gate_mf]; split)
    | (rw [condL_m]; split)
    | (simp -implicitDefEqProofs only [go_sem, initFS, number, Nat.reduceAdd, ir_cmp_Compare_int64, *]))
  all_goals simp [cmpI, *]

def orL : List Int → Int
  | [] => 0
  | a :: l => if iEq a 0 then orL l else a
theorem or_loop (l : List Int) (hl : l.length < 4611686018427387904) (S : List (Fr Ω)) : ∀ k i, i + k = l.length →
    denL T lp_cmp_Or_int_0 ⟨[(3, .int 0), (6, .sl .no 1 (encI l)), (7, .nat l.length), (8, .nat i)], [], S, false⟩ =
      if iEq (orL (l.drop i)) 0 then some (.exit 0, ⟨[(3, .int 0)], [], S, false⟩) else some (.ret, ⟨[(2, .int (orL (l.drop i)))], [], S, false⟩) := by
  intro k
  induction k with
  | zero =>
    intro i hi
    obtain rfl : i = l.length := by omega
    have e2 : l.drop l.length = [] := by simp
    have e3 : iEq 0 0 = true := by rw [iEq_def]; simp
    rw [lu_cmp_Or_int_0]
    repeat' (first
      | (rw [nLe_yes]; rotate_left; focus ((try simp only [List.length_append, List.length_take, List.length_drop, List.length_cons, List.length_nil, encVs_length, encVs]); omega))
      | (rw [gate_mt]; split)
      | (rw [gate_mf]; split)
      | (rw [condL_m]; split)
      | (simp -implicitDefEqProofs only [go_sem, initFS, number, Nat.reduceAdd, lb_cmp_Or_int_0, orL, *]))
  | succ k ih =>
    intro i hi
    have hlt : i < l.length := by omega
    have e2 : l[i]? = some l[i] := List.getElem?_eq_getElem hlt
    have e5 := ih (i + 1) (by omega)
    have e6 := wrap_succ (n := i) (by omega)
    have e3 : l.drop i = l[i] :: l.drop (i + 1) := List.drop_eq_getElem_cons hlt
    rw [lu_cmp_Or_int_0]
    repeat' (first
      | (rw [nLe_yes]; rotate_left; focus ((try simp only [List.length_append, List.length_take, List.length_drop, List.length_cons, List.length_nil, encVs_length, encVs]); omega))
      | (rw [gate_mt]; split)
      | (rw [gate_mf]; split)
      | (rw [condL_m]; split)
      | (simp -implicitDefEqProofs only [go_sem, initFS, number, Nat.reduceAdd, lb_cmp_Or_int_0, orL, *]))
theorem or_eq (h : T f_cmp_Or_int = some (.fn ir_cmp_Or_int)) (l : List Int) (hl : l.length < 4611686018427387904) (S : List (Fr Ω)) :
    G T f_cmp_Or_int [.sl .no 1 (encI l)] S = some (.int (orL l), none, S) := by
  have e := or_loop (T := T) l hl S l.length 0 (by omega)
  rw [nat0, List.drop_zero] at e
  rw [G_fn T h]
  cases h0 : iEq (orL l) 0
  · repeat' (first
    | (rw [nLe_yes]; rotate_left; focus ((try simp only [List.length_append, List.length_take, List.length_drop, List.length_cons, List.length_nil, encVs_length, encVs]); omega))
    | (rw [gate_mt]; split)
    | (rw [gate_mf]; split)
    | (rw [condL_m]; split)
    | (simp -implicitDefEqProofs only [go_sem, initFS, number, Nat.reduceAdd, ir_cmp_Or_int, *]))
  · have : orL l = 0 := by rw [iEq_def] at h0; simpa using h0
    repeat' (first
      | (rw [nLe_yes]; rotate_left; focus ((try simp only [List.length_append, List.length_take, List.length_drop, List.length_cons, List.length_nil, encVs_length, encVs]); omega))
      | (rw [gate_mt]; split)
      | (rw [gate_mf]; split)
      | (rw [condL_m]; split)
      | (simp -implicitDefEqProofs only [go_sem, initFS, number, Nat.reduceAdd, ir_cmp_Or_int, *]))

/-- How two texts compare. -/
def cmpS (a b : ByteArray) : Int := Go.Lib.compareBytes a.data.toList b.data.toList
abbrev f_cmpstring : Nat := 52
def pCmp : List PV → List (Fr Ω) → Option (Ret Ω)
  | [.sc (.string a), .sc (.string b)], S => some (.int (cmpS a b), none, S)
  | _, _ => none
theorem cmpS_eq (h1 : T f_strings_Compare = some (.fn ir_strings_Compare)) (h2 : T f_bytealg_CompareString = some (.fn ir_bytealg_CompareString)) (h3 : T f_cmpstring = some (.prim pCmp)) (a b : ByteArray) (S : List (Fr Ω)) :
    G T f_strings_Compare [.str a, .str b] S = some (.int (cmpS a b), none, S) := by
  have e3 : ∀ S : List (Fr Ω), G T f_cmpstring [.str a, .str b] S = some (.int (cmpS a b), none, S) := fun S => by rw [G_prim T h3]; rfl
  have e2 : ∀ S : List (Fr Ω), G T f_bytealg_CompareString [.str a, .str b] S = some (.int (cmpS a b), none, S) := fun S => by
    rw [G_fn T h2]
    simp -implicitDefEqProofs only [go_sem, initFS, number, Nat.reduceAdd, ir_bytealg_CompareString, *]
  rw [G_fn T h1]
  simp -implicitDefEqProofs only [go_sem, initFS, number, Nat.reduceAdd, ir_strings_Compare, *]

mutual
def ordV : Val → Val → Int
  | .mk k i s l, .mk k' i' s' l' => if iEq (orL [cmpI k k', cmpI i i', cmpS s s']) 0 then ordL l l' else orL [cmpI k k', cmpI i i', cmpS s s']
def ordL : List Val → List Val → Int
  | [], [] => 0
  | [], _ :: _ => -1
  | _ :: _, [] => 1
  | a :: x, b :: y => if iEq (ordV a b) 0 then ordL x y else ordV a b
end
def loopC : List Val → List Val → Option Int
  | [], _ => none
  | _ :: _, [] => some 1
  | a :: x, b :: y => if iEq (ordV a b) 0 then loopC x y else some (ordV a b)
theorem ordL_loopC : ∀ x y, ordL x y = match loopC x y with | some c => c | none => if x.length < y.length then -1 else 0
  | [], [] => by simp [ordL, loopC]
  | [], _ :: _ => by simp [ordL, loopC]
  | _ :: _, [] => by simp [ordL, loopC]
  | a :: x, b :: y => by
    have := ordL_loopC x y
    cases h : iEq (ordV a b) 0
    · simp [ordL, loopC, h]
    · simp [ordL, loopC, h, this]
theorem compare_loop (x y : List Val) (hl : x.length < 4611686018427387904) (hx : ∀ a ∈ x, ∀ b (S : List (Fr Ω)), G T f_value_Order [.agg (encV a), .agg (encV b)] S = some (.int (ordV a b), none, S)) (S : List (Fr Ω)) : ∀ k i (L : Fr Ω), i + k = x.length →
    denL T lp_slices_CompareFunc_api_Value_0 ⟨[(0, .sl .no 4 (encVs x)), (1, .sl .no 4 (encVs y)), (2, .clo 15 [] []), (11, .sl .no 4 (encVs x)), (12, .nat x.length), (13, .nat i)], L, S, false⟩ =
      match loopC (x.drop i) (y.drop i) with
      | none => some (.exit 0, ⟨[(0, .sl .no 4 (encVs x)), (1, .sl .no 4 (encVs y))], [], S, false⟩)
      | some c => some (.ret, ⟨[(6, .int c)], [], S, false⟩) := by
  intro k
  induction k with
  | zero =>
    intro i L hi
    obtain rfl : i = x.length := by omega
    have e2 : x.drop x.length = [] := by simp
    rw [lu_slices_CompareFunc_api_Value_0]
    repeat' (first
      | (rw [nLe_yes]; rotate_left; focus ((try simp only [List.length_append, List.length_take, List.length_drop, List.length_cons, List.length_nil, encVs_length, encVs]); omega))
      | (rw [gate_mt]; split)
      | (rw [gate_mf]; split)
      | (rw [condL_m]; split)
      | (simp -implicitDefEqProofs only [go_sem, initFS, number, Nat.reduceAdd, lb_slices_CompareFunc_api_Value_0, loopC, *]))
    all_goals trace_state
  | succ k ih =>
    intro i L hi
    have hlt : i < x.length := by omega
    have e2 : x[i]? = some x[i] := List.getElem?_eq_getElem hlt
    have e5 := fun L => ih (i + 1) L (by omega)
    have e6 := wrap_succ (n := i) (by omega)
    have e3 : x.drop i = x[i] :: x.drop (i + 1) := List.drop_eq_getElem_cons hlt
    have hx' := hx x[i] (List.getElem_mem hlt)
    simp only [encV_eq] at hx'
    clear hx
    rcases Nat.lt_or_ge i y.length with hy | hy
    · have e8 : ¬ y.length ≤ i := by omega
      have e7 : y[i]? = some y[i] := List.getElem?_eq_getElem hy
      have e9 : y.drop i = y[i] :: y.drop (i + 1) := List.drop_eq_getElem_cons hy
      rw [lu_slices_CompareFunc_api_Value_0]
      repeat' (first
        | (rw [nLe_yes]; rotate_left; focus ((try simp only [List.length_append, List.length_take, List.length_drop, List.length_cons, List.length_nil, encVs_length, encVs]); omega))
        | (rw [gate_mt]; split)
        | (rw [gate_mf]; split)
        | (rw [condL_m]; split)
        | (simp -implicitDefEqProofs only [go_sem, initFS, number, Nat.reduceAdd, lb_slices_CompareFunc_api_Value_0, loopC, *]))
    · have e9 : y.drop i = [] := by rw [List.drop_eq_nil_iff]; exact hy
      rw [lu_slices_CompareFunc_api_Value_0]
      repeat' (first
        | (rw [nLe_yes]; rotate_left; focus ((try simp only [List.length_append, List.length_take, List.length_drop, List.length_cons, List.length_nil, encVs_length, encVs]); omega))
        | (rw [gate_mt]; split)
        | (rw [gate_mf]; split)
        | (rw [condL_m]; split)
        | (simp -implicitDefEqProofs only [go_sem, initFS, number, Nat.reduceAdd, lb_slices_CompareFunc_api_Value_0, loopC, *]))
theorem compareL_eq (h : T f_slices_CompareFunc_api_Value = some (.fn ir_slices_CompareFunc_api_Value)) (x y : List Val) (hl : x.length < 4611686018427387904)
    (hx : ∀ a ∈ x, ∀ b (S : List (Fr Ω)), G T f_value_Order [.agg (encV a), .agg (encV b)] S = some (.int (ordV a b), none, S)) (S : List (Fr Ω)) :
    G T f_slices_CompareFunc_api_Value [.sl .no 4 (encVs x), .sl .no 4 (encVs y), .clo 15 [] []] S = some (.int (ordL x y), none, S) := by
  have e := fun L => compare_loop (T := T) x y hl hx S x.length 0 L (by omega)
  simp only [nat0, List.drop_zero] at e
  rw [G_fn T h]
  have e2 := ordL_loopC x y
  cases h0 : loopC x y with
  | some c =>
    simp only [h0] at e e2
    repeat' (first
      | (rw [nLe_yes]; rotate_left; focus ((try simp only [List.length_append, List.length_take, List.length_drop, List.length_cons, List.length_nil, encVs_length, encVs]); omega))
      | (rw [gate_mt]; split)
      | (rw [gate_mf]; split)
      | (rw [condL_m]; split)
      | (simp -implicitDefEqProofs only [go_sem, initFS, number, Nat.reduceAdd, ir_slices_CompareFunc_api_Value, *]))
  | none =>
    simp only [h0] at e e2
    repeat' (first
      | (rw [nLe_yes]; rotate_left; focus ((try simp only [List.length_append, List.length_take, List.length_drop, List.length_cons, List.length_nil, encVs_length, encVs]); omega))
      | (rw [gate_mt]; split)
      | (rw [gate_mf]; split)
      | (rw [condL_m]; split)
      | (simp -implicitDefEqProofs only [go_sem, initFS, number, Nat.reduceAdd, ir_slices_CompareFunc_api_Value, *]))
    all_goals simp_all
structure OrdFns (T : Nat → Option (Ent Ω)) : Prop where
  order : T f_value_Order = some (.fn ir_value_Order)
  comp : T f_slices_CompareFunc_api_Value = some (.fn ir_slices_CompareFunc_api_Value)
  or' : T f_cmp_Or_int = some (.fn ir_cmp_Or_int)
  ci : T f_cmp_Compare_int = some (.fn ir_cmp_Compare_int)
  ci64 : T f_cmp_Compare_int64 = some (.fn ir_cmp_Compare_int64)
  n1 : T f_cmp_isNaN_int = some (.fn ir_cmp_isNaN_int)
  n2 : T f_cmp_isNaN_int64 = some (.fn ir_cmp_isNaN_int64)
  sc : T f_strings_Compare = some (.fn ir_strings_Compare)
  bc : T f_bytealg_CompareString = some (.fn ir_bytealg_CompareString)
  cm : T f_cmpstring = some (.prim pCmp)
/-- No list in it is too long for any machine. -/
inductive Small : Val → Prop
  | mk (k i : Int) (s : ByteArray) (l : List Val) : l.length < 4611686018427387904 → (∀ v ∈ l, Small v) → Small (.mk k i s l)
theorem order_eq (h : OrdFns T) : ∀ (n : Nat) (a : Val), SizeOf.sizeOf a ≤ n → Small a → ∀ (b : Val) (S : List (Fr Ω)), G T f_value_Order [.agg (encV a), .agg (encV b)] S = some (.int (ordV a b), none, S)
  | 0, .mk .., hn, _, _, _ => by simp at hn
  | n + 1, .mk k i s l, hn, .mk _ _ _ _ hl hs, .mk k' i' s' l', S => by
    have ih := fun S => compareL_eq h.comp l l' hl (fun a ha b S => order_eq h n a (by have := List.sizeOf_lt_of_mem ha; simp at hn; omega) (hs a ha) b S) S
    have e1 := cmpI_eq h.ci h.n1 k k'
    have e2 := cmpI64_eq h.ci64 h.n2 i i'
    have e3 := cmpS_eq h.sc h.bc h.cm s s'
    have e4 := fun S => or_eq h.or' [cmpI k k', cmpI i i', cmpS s s'] (by simp) S
    simp only [encI, List.map_cons, List.map_nil] at e4
    rw [G_fn T h.order]
    simp only [encV_eq, Val.k, Val.i, Val.s, Val.l, ordV]
    repeat' (first
      | (rw [nLe_yes]; rotate_left; focus ((try simp only [List.length_append, List.length_take, List.length_drop, List.length_cons, List.length_nil, encVs_length, encVs]); omega))
      | (rw [gate_mt]; split)
      | (rw [gate_mf]; split)
      | (rw [condL_m]; split)
      | (simp -implicitDefEqProofs only [go_sem, initFS, number, Nat.reduceAdd, ir_value_Order, *]))
end Go.Fw.EqV
end
section
/- What the functions of layer 2 answer, II. -/
set_option maxRecDepth 100000
namespace Go.Fw.EqV
open Go.Fw Go.Fw.Ir Go.Fw.Gp
attribute [local congr] cg_selB cg_bind cg_map cg_andThen cg_denL cg_condL cg_runOps cg_stepOp cg_gate
variable {Ω : Type} {T : Nat → Option (Ent Ω)}
set_option maxHeartbeats 4000000
set_option linter.all false

-- plain values
def plainB (v : Val) : Bool :=
  if decide (0 < v.l.length) || (!iEq v.k 3 && !sEq v.s ⟨#[]⟩) then false
  else if iEq v.k 0 then iEq v.i 0
  else if iEq v.k 1 then iEq v.i 0 || iEq v.i 1
  else if iEq v.k 2 then true
  else if iEq v.k 3 then iEq v.i 0 && iLe v.s.size 64
  else if iEq v.k 4 then iLe 0 v.i && iLe v.i 1099511627776
  else false
theorem plain_eq (h : T f_value_plain = some (.fn ir_value_plain)) (v : Val) (S : List (Fr Ω)) :
    G T f_value_plain [.agg (encV v)] S = some (.sc (.bool (plainB v)), none, S) := by
  rw [G_fn T h]
  repeat' (first
    | (rw [nLe_yes]; rotate_left; focus ((try simp only [List.length_append, List.length_take, List.length_drop, List.length_cons, List.length_nil, encVs_length, encVs]); omega))
    | (rw [gate_mt]; split)
    | (rw [gate_mf]; split)
    | (rw [condL_m]; split)
    | (simp -implicitDefEqProofs only [go_sem, initFS, number, Nat.reduceAdd, ir_value_plain, *]))
  all_goals simp [plainB, *]

def oneB (v : Val) : Bool :=
  if decide (0 < v.l.length) || iLt v.k 0 || iLt 4 v.k then false
  else if iEq v.k 3 then iEq v.i 0 && iLe v.s.size 64
  else if !sEq v.s ⟨#[]⟩ || (iEq v.k 0 && !iEq v.i 0) || (iEq v.k 1 && (!iEq v.i 0 && !iEq v.i 1)) then false
  else !iEq v.k 4 || (iLe 0 v.i && iLe v.i 1099511627776)
theorem one_eq (h : T f_gatepostref02_one = some (.fn ir_gatepostref02_one)) (v : Val) (S : List (Fr Ω)) :
    G T f_gatepostref02_one [.agg (encV v)] S = some (.sc (.bool (oneB v)), none, S) := by
  rw [G_fn T h]
  repeat' (first
    | (rw [nLe_yes]; rotate_left; focus ((try simp only [List.length_append, List.length_take, List.length_drop, List.length_cons, List.length_nil, encVs_length, encVs]); omega))
    | (rw [gate_mt]; split)
    | (rw [gate_mf]; split)
    | (rw [condL_m]; split)
    | (simp -implicitDefEqProofs only [go_sem, initFS, number, Nat.reduceAdd, ir_gatepostref02_one, *]))
  all_goals simp [oneB, *]

theorem numbers_eq (h : T f_gatepostref02_numbers = some (.fn ir_gatepostref02_numbers)) (a b : Int) (S : List (Fr Ω)) :
    G T f_gatepostref02_numbers [.int a, .int b] S = some (.int (cmpI a b), none, S) := by
  rw [G_fn T h]
  repeat' (first
    | (rw [nLe_yes]; rotate_left; focus ((try simp only [List.length_append, List.length_take, List.length_drop, List.length_cons, List.length_nil, encVs_length, encVs]); omega))
    | (rw [gate_mt]; split)
    | (rw [gate_mf]; split)
    | (rw [condL_m]; split)
    | (simp -implicitDefEqProofs only [go_sem, initFS, number, Nat.reduceAdd, ir_gatepostref02_numbers, *]))
  all_goals simp [cmpI, *]

-- texts
def textL : List UInt8 → List UInt8 → Option Int
  | a :: x, b :: y => if decide (a.toNat < b.toNat) then some (-1) else if decide (b.toNat < a.toNat) then some 1 else textL x y
  | _, _ => none
def textS (a b : ByteArray) : Int :=
  match textL a.data.toList b.data.toList with
  | some c => c
  | none => if decide (a.size < b.size) then -1 else if decide (b.size < a.size) then 1 else 0
theorem text_loop (a b : ByteArray) (ha : a.size < 4611686018427387904) (S : List (Fr Ω)) : ∀ k i (L : Fr Ω), i + k = a.size →
    denL T lp_gatepostref02_Texts_0 ⟨[(0, .str a), (1, .str b), (5, .nat i)], L, S, false⟩ =
      match textL (a.data.toList.drop i) (b.data.toList.drop i) with
      | some c => some (.ret, ⟨[(4, .int c)], [], S, false⟩)
      | none => some (.exit 0, ⟨[(0, .str a), (1, .str b)], [], S, false⟩) := by
  have sa : a.data.toList.length = a.size := by rw [Array.length_toList]; rfl
  have sb : b.data.toList.length = b.size := by rw [Array.length_toList]; rfl
  intro k
  induction k with
  | zero =>
    intro i L hi
    obtain rfl : i = a.size := by omega
    have e2 : a.data.toList.drop a.size = [] := by rw [← sa]; simp
    rw [lu_gatepostref02_Texts_0]
    repeat' (first
      | (rw [nLe_yes]; rotate_left; focus ((try simp only [List.length_append, List.length_take, List.length_drop, List.length_cons, List.length_nil, encVs_length, encVs]); omega))
      | (rw [gate_mt]; split)
      | (rw [gate_mf]; split)
      | (rw [condL_m]; split)
      | (simp -implicitDefEqProofs only [go_sem, initFS, number, Nat.reduceAdd, lb_gatepostref02_Texts_0, textL, *]))
  | succ k ih =>
    intro i L hi
    have hlt : i < a.size := by omega
    have hlt' : i < a.data.toList.length := by omega
    have e2 : a.data.toList.getD i 0 = a.data.toList[i] := by rw [List.getD_eq_getElem?_getD, List.getElem?_eq_getElem hlt']; rfl
    have e5 := fun L => ih (i + 1) L (by omega)
    have e6 := wrap_succ (n := i) (by omega)
    have e3 : a.data.toList.drop i = a.data.toList[i] :: a.data.toList.drop (i + 1) := List.drop_eq_getElem_cons hlt'
    rcases Nat.lt_or_ge i b.size with hy | hy
    · have hy' : i < b.data.toList.length := by omega
      have e7 : b.data.toList.getD i 0 = b.data.toList[i] := by rw [List.getD_eq_getElem?_getD, List.getElem?_eq_getElem hy']; rfl
      have e9 : b.data.toList.drop i = b.data.toList[i] :: b.data.toList.drop (i + 1) := List.drop_eq_getElem_cons hy'
      clear ih
      generalize a.data.toList[i] = c at *
      generalize b.data.toList[i] = d at *
      rw [lu_gatepostref02_Texts_0]
      repeat' (first
        | (rw [nLe_yes]; rotate_left; focus ((try simp only [List.length_append, List.length_take, List.length_drop, List.length_cons, List.length_nil, encVs_length, encVs]); omega))
        | (rw [gate_mt]; split)
        | (rw [gate_mf]; split)
        | (rw [condL_m]; split)
        | (simp -implicitDefEqProofs only [go_sem, initFS, number, Nat.reduceAdd, lb_gatepostref02_Texts_0, textL, *]))
    · have e9 : b.data.toList.drop i = [] := by rw [List.drop_eq_nil_iff]; omega
      have e8 : ¬ i < b.size := by omega
      clear ih
      generalize a.data.toList[i] = c at *
      rw [lu_gatepostref02_Texts_0]
      repeat' (first
        | (rw [nLe_yes]; rotate_left; focus ((try simp only [List.length_append, List.length_take, List.length_drop, List.length_cons, List.length_nil, encVs_length, encVs]); omega))
        | (rw [gate_mt]; split)
        | (rw [gate_mf]; split)
        | (rw [condL_m]; split)
        | (simp -implicitDefEqProofs only [go_sem, initFS, number, Nat.reduceAdd, lb_gatepostref02_Texts_0, textL, *]))
theorem text_eq (h : T f_gatepostref02_Texts = some (.fn ir_gatepostref02_Texts)) (a b : ByteArray) (ha : a.size < 4611686018427387904) (S : List (Fr Ω)) :
    G T f_gatepostref02_Texts [.str a, .str b] S = some (.int (textS a b), none, S) := by
  have e := fun L => text_loop (T := T) a b ha S a.size 0 L (by omega)
  simp only [nat0, List.drop_zero] at e
  rw [G_fn T h]
  unfold textS
  cases h0 : textL a.data.toList b.data.toList with
  | some c =>
    simp only [h0] at e
    repeat' (first
      | (rw [nLe_yes]; rotate_left; focus ((try simp only [List.length_append, List.length_take, List.length_drop, List.length_cons, List.length_nil, encVs_length, encVs]); omega))
      | (rw [gate_mt]; split)
      | (rw [gate_mf]; split)
      | (rw [condL_m]; split)
      | (simp -implicitDefEqProofs only [go_sem, initFS, number, Nat.reduceAdd, ir_gatepostref02_Texts, *]))
  | none =>
    simp only [h0] at e
    repeat' (first
      | (rw [nLe_yes]; rotate_left; focus ((try simp only [List.length_append, List.length_take, List.length_drop, List.length_cons, List.length_nil, encVs_length, encVs]); omega))
      | (rw [gate_mt]; split)
      | (rw [gate_mf]; split)
      | (rw [condL_m]; split)
      | (simp -implicitDefEqProofs only [go_sem, initFS, number, Nat.reduceAdd, ir_gatepostref02_Texts, *]))
    all_goals simp_all

-- single values
def singleI (a b : Val) : Int :=
  if !iEq a.k b.k then cmpI a.k b.k else if iEq a.k 3 then textS a.s b.s else cmpI a.i b.i
theorem single_eq (h : T f_gatepostref02_single = some (.fn ir_gatepostref02_single)) (h1 : T f_gatepostref02_numbers = some (.fn ir_gatepostref02_numbers)) (h2 : T f_gatepostref02_Texts = some (.fn ir_gatepostref02_Texts))
    (a b : Val) (ha : a.s.size < 4611686018427387904) (S : List (Fr Ω)) :
    G T f_gatepostref02_single [.agg (encV a), .agg (encV b)] S = some (.int (singleI a b), none, S) := by
  have e1 := numbers_eq h1
  have e2 := text_eq h2 a.s b.s ha
  rw [G_fn T h]
  repeat' (first
    | (rw [nLe_yes]; rotate_left; focus ((try simp only [List.length_append, List.length_take, List.length_drop, List.length_cons, List.length_nil, encVs_length, encVs]); omega))
    | (rw [gate_mt]; split)
    | (rw [gate_mf]; split)
    | (rw [condL_m]; split)
    | (simp -implicitDefEqProofs only [go_sem, initFS, number, Nat.reduceAdd, ir_gatepostref02_single, *]))
  all_goals simp [singleI, *]

-- alike
def flatB (x y : Val) : Bool := iEq x.k y.k && iEq x.i y.i && sEq x.s y.s && !decide (0 < x.l.length) && !decide (0 < y.l.length)
def sameL : List Val → List Val → Bool
  | x :: xs, y :: ys => flatB x y && sameL xs ys
  | _, _ => true
def sameV (a b : Val) : Bool :=
  if !iEq a.k b.k || !iEq a.i b.i || !sEq a.s b.s || !decide (a.l.length = b.l.length) then false else sameL a.l b.l
theorem same_loop (a b : Val) (hl : a.l.length < 4611686018427387904) (hab : a.l.length = b.l.length) (S : List (Fr Ω)) : ∀ k i (L : Fr Ω), i + k = a.l.length → look L 2 = some (.box (encV a)) → look L 3 = some (.box (encV b)) →
    denL T lp_gatepostref02_Same_0 ⟨[(2, .own 2 0), (3, .own 3 0), (5, .nat i)], L, S, false⟩ =
      if sameL (a.l.drop i) (b.l.drop i) then some (.exit 0, ⟨[], [], S, false⟩) else some (.ret, ⟨[(4, .sc (.bool false))], [], S, false⟩) := by
  intro k
  induction k with
  | zero =>
    intro i L hi h2 h3
    obtain rfl : i = a.l.length := by omega
    have e2 : a.l.drop b.l.length = [] := by rw [← hab]; simp
    have e3 : b.l.drop b.l.length = [] := by simp
    rw [lu_gatepostref02_Same_0]
    repeat' (first
      | (rw [nLe_yes]; rotate_left; focus ((try simp only [List.length_append, List.length_take, List.length_drop, List.length_cons, List.length_nil, encVs_length, encVs]); omega))
      | (rw [gate_mt]; split)
      | (rw [gate_mf]; split)
      | (rw [condL_m]; split)
      | (simp -implicitDefEqProofs only [go_sem, initFS, number, Nat.reduceAdd, lb_gatepostref02_Same_0, sameL, *]))
  | succ k ih =>
    intro i L hi h2 h3
    have hlt : i < a.l.length := by omega
    have hlt2 : i < b.l.length := by omega
    have e2 : a.l[i]? = some a.l[i] := List.getElem?_eq_getElem hlt
    have e4 : b.l[i]? = some b.l[i] := List.getElem?_eq_getElem hlt2
    have e5 := fun L => ih (i + 1) L (by omega)
    simp only [encV_eq] at e5
    have e6 := wrap_succ (n := i) (by omega)
    have e3 : a.l.drop i = a.l[i] :: a.l.drop (i + 1) := List.drop_eq_getElem_cons hlt
    have e7 : b.l.drop i = b.l[i] :: b.l.drop (i + 1) := List.drop_eq_getElem_cons hlt2
    clear ih
    generalize a.l[i] = x at *
    generalize b.l[i] = y at *
    rw [lu_gatepostref02_Same_0]
    repeat' (first
      | (rw [nLe_yes]; rotate_left; focus ((try simp only [List.length_append, List.length_take, List.length_drop, List.length_cons, List.length_nil, encVs_length, encVs]); omega))
      | (rw [gate_mt]; split)
      | (rw [gate_mf]; split)
      | (rw [condL_m]; split)
      | (simp -implicitDefEqProofs only [go_sem, initFS, number, Nat.reduceAdd, lb_gatepostref02_Same_0, sameL, flatB, *]))
theorem same_eq (h : T f_gatepostref02_Same = some (.fn ir_gatepostref02_Same)) (a b : Val) (hl : a.l.length < 4611686018427387904) (S : List (Fr Ω)) :
    G T f_gatepostref02_Same [.agg (encV a), .agg (encV b)] S = some (.sc (.bool (sameV a b)), none, S) := by
  rw [G_fn T h]
  by_cases hab : a.l.length = b.l.length
  · have e := fun L => same_loop (T := T) a b hl hab S a.l.length 0 L (by omega)
    simp only [nat0, List.drop_zero, encV_eq] at e
    cases h0 : sameL a.l b.l
    all_goals
      repeat' (first
        | (rw [nLe_yes]; rotate_left; focus ((try simp only [List.length_append, List.length_take, List.length_drop, List.length_cons, List.length_nil, encVs_length, encVs]); omega))
        | (rw [gate_mt]; split)
        | (rw [gate_mf]; split)
        | (rw [condL_m]; split)
        | (simp -implicitDefEqProofs only [go_sem, initFS, number, Nat.reduceAdd, ir_gatepostref02_Same, *]))
    all_goals simp [sameV, *]
  · repeat' (first
    | (rw [nLe_yes]; rotate_left; focus ((try simp only [List.length_append, List.length_take, List.length_drop, List.length_cons, List.length_nil, encVs_length, encVs]); omega))
    | (rw [gate_mt]; split)
    | (rw [gate_mf]; split)
    | (rw [condL_m]; split)
    | (simp -implicitDefEqProofs only [go_sem, initFS, number, Nat.reduceAdd, ir_gatepostref02_Same, *]))
    all_goals simp [sameV, *]
end Go.Fw.EqV
end
section
/- What the functions of layer 2 answer, III. -/
set_option maxRecDepth 100000
namespace Go.Fw.EqV
open Go.Fw Go.Fw.Ir Go.Fw.Gp
attribute [local congr] cg_selB cg_bind cg_map cg_andThen cg_denL cg_condL cg_runOps cg_stepOp cg_gate
variable {Ω : Type} {T : Nat → Option (Ent Ω)}
set_option maxHeartbeats 4000000
set_option linter.all false

/-- A bag's values, one by one: 'p' is the one ahead. -/
def fmt (f : Val → Bool) (o : Val → Val → Int) (k0 : Int) : Option Val → List Val → Bool
  | _, [] => true
  | p, x :: xs => f x && !iEq x.k 0 && iEq x.k k0 && (match p with | none => true | some y => !iLe 0 (o y x)) && fmt f o k0 (some x) xs
def headK : List Val → Int
  | [] => 0
  | x :: _ => x.k
def ahead (l : List Val) : Nat → Option Val
  | 0 => none
  | i + 1 => l[i]?
def formedV (v : Val) : Bool :=
  if !iEq v.k 5 then plainB v
  else if fmt plainB ordV (headK v.l) none v.l then iEq v.i 0 && (sEq v.s ⟨#[]⟩ && iLe v.l.length 16) else false
def formedR (v : Val) : Bool :=
  if !iEq v.k 5 then oneB v
  else if !iEq v.i 0 || !sEq v.s ⟨#[]⟩ || iLt 16 v.l.length then false
  else fmt oneB singleI (headK v.l) none v.l

structure FormedFns (T : Nat → Option (Ent Ω)) : Prop extends OrdFns T where
  formed : T f_value_Formed = some (.fn ir_value_Formed)
  plain : T f_value_plain = some (.fn ir_value_plain)
theorem formed_loop (h : FormedFns T) (v : Val) (hl : v.l.length < 4611686018427387904) (hs : ∀ x ∈ v.l, Small x) (S : List (Fr Ω)) : ∀ k i (L : Fr Ω), i + k = v.l.length → look L 1 = some (.box (encV v)) →
    denL T lp_value_Formed_0 ⟨[(1, .own 1 0), (11, .sl .no 4 (encVs v.l)), (12, .nat v.l.length), (13, .nat i)], L, S, false⟩ =
      if fmt plainB ordV (headK v.l) (ahead v.l i) (v.l.drop i) then some (.exit 0, ⟨[(1, .own 1 0)], [(1, .box (encV v))], S, false⟩) else some (.ret, ⟨[(2, .sc (.bool false))], [], S, false⟩) := by
  intro k
  induction k with
  | zero =>
    intro i L hi h1
    obtain rfl : i = v.l.length := by omega
    have e2 : v.l.drop v.l.length = [] := by simp
    rw [lu_value_Formed_0]
    repeat' (first
      | (rw [nLe_yes]; rotate_left; focus ((try simp only [List.length_append, List.length_take, List.length_drop, List.length_cons, List.length_nil, encVs_length, encVs]); omega))
      | (rw [gate_mt]; split)
      | (rw [gate_mf]; split)
      | (rw [condL_m]; split)
      | (simp -implicitDefEqProofs only [go_sem, initFS, number, Nat.reduceAdd, lb_value_Formed_0, fmt, *]))
  | succ k ih =>
    intro i L hi h1
    have hlt : i < v.l.length := by omega
    have e2 : v.l[i]? = some v.l[i] := List.getElem?_eq_getElem hlt
    have e5 := fun L => ih (i + 1) L (by omega)
    simp only [encV_eq, ahead, e2] at e5
    have e6 := wrap_succ (n := i) (by omega)
    have e3 : v.l.drop i = v.l[i] :: v.l.drop (i + 1) := List.drop_eq_getElem_cons hlt
    have e8 : ∃ x0, v.l[0]? = some x0 ∧ (headK v.l) = x0.k := by
      cases hq : v.l with
      | nil => rw [hq] at hlt; simp at hlt
      | cons x xs => exact ⟨x, rfl, rfl⟩
    obtain ⟨x0, e8, e9⟩ := e8
    have e10 : 0 < v.l.length := by omega
    rw [e9] at e5 ⊢
    have p1 := plain_eq h.plain v.l[i]
    simp only [encV_eq] at p1
    cases i with
    | zero =>
      obtain rfl : x0 = v.l[0] := by rw [e2] at e8; cases e8; rfl
      clear ih e9 e8 e6
      simp only [Nat.zero_add, nat1] at e5 e3
      generalize v.l[0] = x at *
      rw [lu_value_Formed_0]
      repeat' (first
        | (rw [nLe_yes]; rotate_left; focus ((try simp only [List.length_append, List.length_take, List.length_drop, List.length_cons, List.length_nil, encVs_length, encVs]); omega))
        | (rw [gate_mt]; split)
        | (rw [gate_mf]; split)
        | (rw [condL_m]; split)
        | (simp -implicitDefEqProofs only [go_sem, initFS, number, Nat.reduceAdd, lb_value_Formed_0, fmt, ahead, nat0, *]))
    | succ j =>
      have e11 : v.l[j]? = some v.l[j] := List.getElem?_eq_getElem (by omega)
      have o1 := order_eq h.toOrdFns _ v.l[j] (Nat.le_refl _) (hs _ (List.getElem_mem (by omega))) v.l[j + 1]
      simp only [encV_eq] at o1
      have e12 : 0 < j + 1 := by omega
      have e13 : j < v.l.length := by omega
      have e14 := wrap_pred j (by omega)
      clear ih e9
      generalize v.l[j] = y at *
      generalize v.l[j + 1] = x at *
      rw [lu_value_Formed_0]
      repeat' (first
        | (rw [nLe_yes]; rotate_left; focus ((try simp only [List.length_append, List.length_take, List.length_drop, List.length_cons, List.length_nil, encVs_length, encVs]); omega))
        | (rw [gate_mt]; split)
        | (rw [gate_mf]; split)
        | (rw [condL_m]; split)
        | (simp -implicitDefEqProofs only [go_sem, initFS, number, Nat.reduceAdd, lb_value_Formed_0, fmt, ahead, *]))
end Go.Fw.EqV
end
section
/- What the functions of layer 2 answer, IV. -/
set_option maxRecDepth 100000
namespace Go.Fw.EqV
open Go.Fw Go.Fw.Ir Go.Fw.Gp
attribute [local congr] cg_selB cg_bind cg_map cg_andThen cg_denL cg_condL cg_runOps cg_stepOp cg_gate
variable {Ω : Type} {T : Nat → Option (Ent Ω)}
set_option maxHeartbeats 4000000
set_option linter.all false

theorem formed_eq (h : FormedFns T) (v : Val) (hl : v.l.length < 4611686018427387904) (hs : ∀ x ∈ v.l, Small x) (S : List (Fr Ω)) :
    G T f_value_Formed [.agg (encV v)] S = some (.sc (.bool (formedV v)), none, S) := by
  have p1 := plain_eq h.plain v
  have e := fun L => formed_loop h v hl hs S v.l.length 0 L (by omega)
  simp only [nat0, List.drop_zero, encV_eq, ahead] at e p1
  rw [G_fn T h.formed]
  cases h0 : fmt plainB ordV (headK v.l) none v.l
  all_goals
    rw [h0] at e
    repeat' (first
      | (rw [nLe_yes]; rotate_left; focus ((try simp only [List.length_append, List.length_take, List.length_drop, List.length_cons, List.length_nil, encVs_length, encVs]); omega))
      | (rw [gate_mt]; split)
      | (rw [gate_mf]; split)
      | (rw [condL_m]; split)
      | (simp -implicitDefEqProofs only [go_sem, initFS, number, Nat.reduceAdd, ir_value_Formed, *]))
  all_goals simp [formedV, *]

structure RefFns (T : Nat → Option (Ent Ω)) : Prop where
  formed : T f_gatepostref02_Formed = some (.fn ir_gatepostref02_Formed)
  one : T f_gatepostref02_one = some (.fn ir_gatepostref02_one)
  single : T f_gatepostref02_single = some (.fn ir_gatepostref02_single)
  numbers : T f_gatepostref02_numbers = some (.fn ir_gatepostref02_numbers)
  texts : T f_gatepostref02_Texts = some (.fn ir_gatepostref02_Texts)
theorem refFormed_loop (h : RefFns T) (v : Val) (hl : v.l.length < 4611686018427387904) (hs : ∀ x ∈ v.l, x.s.size < 4611686018427387904) (S : List (Fr Ω)) : ∀ k i (L : Fr Ω), i + k = v.l.length → look L 1 = some (.box (encV v)) →
    denL T lp_gatepostref02_Formed_0 ⟨[(1, .own 1 0), (3, .nat i)], L, S, false⟩ =
      if fmt oneB singleI (headK v.l) (ahead v.l i) (v.l.drop i) then some (.exit 0, ⟨[], [], S, false⟩) else some (.ret, ⟨[(2, .sc (.bool false))], [], S, false⟩) := by
  intro k
  induction k with
  | zero =>
    intro i L hi h1
    obtain rfl : i = v.l.length := by omega
    have e2 : v.l.drop v.l.length = [] := by simp
    rw [lu_gatepostref02_Formed_0]
    repeat' (first
      | (rw [nLe_yes]; rotate_left; focus ((try simp only [List.length_append, List.length_take, List.length_drop, List.length_cons, List.length_nil, encVs_length, encVs]); omega))
      | (rw [gate_mt]; split)
      | (rw [gate_mf]; split)
      | (rw [condL_m]; split)
      | (simp -implicitDefEqProofs only [go_sem, initFS, number, Nat.reduceAdd, lb_gatepostref02_Formed_0, fmt, *]))
  | succ k ih =>
    intro i L hi h1
    have hlt : i < v.l.length := by omega
    have e2 : v.l[i]? = some v.l[i] := List.getElem?_eq_getElem hlt
    have e5 := fun L => ih (i + 1) L (by omega)
    simp only [encV_eq, ahead, e2] at e5
    have e6 := wrap_succ (n := i) (by omega)
    have e3 : v.l.drop i = v.l[i] :: v.l.drop (i + 1) := List.drop_eq_getElem_cons hlt
    have e8 : ∃ x0, v.l[0]? = some x0 ∧ (headK v.l) = x0.k := by
      cases hq : v.l with
      | nil => rw [hq] at hlt; simp at hlt
      | cons x xs => exact ⟨x, rfl, rfl⟩
    obtain ⟨x0, e8, e9⟩ := e8
    have e10 : 0 < v.l.length := by omega
    rw [e9] at e5 ⊢
    have p1 := one_eq h.one v.l[i]
    simp only [encV_eq] at p1
    cases i with
    | zero =>
      obtain rfl : x0 = v.l[0] := by rw [e2] at e8; cases e8; rfl
      clear ih e9 e8 e6
      simp only [Nat.zero_add, nat1] at e5 e3
      generalize v.l[0] = x at *
      rw [lu_gatepostref02_Formed_0]
      repeat' (first
        | (rw [nLe_yes]; rotate_left; focus ((try simp only [List.length_append, List.length_take, List.length_drop, List.length_cons, List.length_nil, encVs_length, encVs]); omega))
        | (rw [gate_mt]; split)
        | (rw [gate_mf]; split)
        | (rw [condL_m]; split)
        | (simp -implicitDefEqProofs only [go_sem, initFS, number, Nat.reduceAdd, lb_gatepostref02_Formed_0, fmt, ahead, nat0, *]))
    | succ j =>
      have e11 : v.l[j]? = some v.l[j] := List.getElem?_eq_getElem (by omega)
      have o1 := single_eq h.single h.numbers h.texts v.l[j] v.l[j + 1] (hs _ (List.getElem_mem (by omega)))
      simp only [encV_eq] at o1
      have e12 : 0 < j + 1 := by omega
      have e13 : j < v.l.length := by omega
      have e14 := wrap_pred j (by omega)
      clear ih e9
      generalize v.l[j] = y at *
      generalize v.l[j + 1] = x at *
      rw [lu_gatepostref02_Formed_0]
      repeat' (first
        | (rw [nLe_yes]; rotate_left; focus ((try simp only [List.length_append, List.length_take, List.length_drop, List.length_cons, List.length_nil, encVs_length, encVs]); omega))
        | (rw [gate_mt]; split)
        | (rw [gate_mf]; split)
        | (rw [condL_m]; split)
        | (simp -implicitDefEqProofs only [go_sem, initFS, number, Nat.reduceAdd, lb_gatepostref02_Formed_0, fmt, ahead, *]))
theorem refFormed_eq (h : RefFns T) (v : Val) (hl : v.l.length < 4611686018427387904) (hs : ∀ x ∈ v.l, x.s.size < 4611686018427387904) (S : List (Fr Ω)) :
    G T f_gatepostref02_Formed [.agg (encV v)] S = some (.sc (.bool (formedR v)), none, S) := by
  have p1 := one_eq h.one v
  have e := fun L => refFormed_loop h v hl hs S v.l.length 0 L (by omega)
  simp only [nat0, List.drop_zero, encV_eq, ahead] at e p1
  rw [G_fn T h.formed]
  cases h0 : fmt oneB singleI (headK v.l) none v.l
  all_goals
    rw [h0] at e
    repeat' (first
      | (rw [nLe_yes]; rotate_left; focus ((try simp only [List.length_append, List.length_take, List.length_drop, List.length_cons, List.length_nil, encVs_length, encVs]); omega))
      | (rw [gate_mt]; split)
      | (rw [gate_mf]; split)
      | (rw [condL_m]; split)
      | (simp -implicitDefEqProofs only [go_sem, initFS, number, Nat.reduceAdd, ir_gatepostref02_Formed, *]))
  all_goals simp [formedR, *]

-- sizes
def few2 : List Val → Bool
  | [] => true
  | v :: r => if iLt 200 v.s.size || decide (0 < v.l.length) then false else few2 r
def fewL : Nat → List Val → Bool
  | _, [] => true
  | i, v :: r => if iLt (i : Int) 100 then (if iLt 200 v.s.size || iLt 30 v.l.length then false else if few2 v.l then fewL (i + 1) r else false) else true
def fewB (l : List Val) (n : Int) : Bool := if fewL 0 l then iLe l.length n else false
theorem few_loop2 (l : List Val) (n : Int) (i : Nat) (v : Val) (hv : l[i]? = some v) (hi : i < l.length) (hl : v.l.length < 4611686018427387904) (S : List (Fr Ω)) : ∀ k j (L : Fr Ω), j + k = v.l.length →
    denL T lp_gatepostref02_Few_0 ⟨[(0, .sl .no 4 (encVs l)), (1, .int n), (5, .nat i), (6, .nat j)], L, S, false⟩ =
      if few2 (v.l.drop j) then some (.exit 2, ⟨[(0, .sl .no 4 (encVs l)), (1, .int n), (5, .nat i)], [], S, false⟩) else some (.ret, ⟨[(4, .sc (.bool false))], [], S, false⟩) := by
  intro k
  induction k with
  | zero =>
    intro j L hj
    obtain rfl : j = v.l.length := by omega
    have e2 : v.l.drop v.l.length = [] := by simp
    rw [lu_gatepostref02_Few_0]
    repeat' (first
      | (rw [nLe_yes]; rotate_left; focus ((try simp only [List.length_append, List.length_take, List.length_drop, List.length_cons, List.length_nil, encVs_length, encVs]); omega))
      | (rw [gate_mt]; split)
      | (rw [gate_mf]; split)
      | (rw [condL_m]; split)
      | (simp -implicitDefEqProofs only [go_sem, initFS, number, Nat.reduceAdd, lb_gatepostref02_Few_0, few2, *]))
  | succ k ih =>
    intro j L hj
    have hlt : j < v.l.length := by omega
    have e2 : v.l[j]? = some v.l[j] := List.getElem?_eq_getElem hlt
    have e5 := fun L => ih (j + 1) L (by omega)
    have e6 := wrap_succ (n := j) (by omega)
    have e3 : v.l.drop j = v.l[j] :: v.l.drop (j + 1) := List.drop_eq_getElem_cons hlt
    clear ih
    generalize v.l[j] = x at *
    rw [lu_gatepostref02_Few_0]
    repeat' (first
      | (rw [nLe_yes]; rotate_left; focus ((try simp only [List.length_append, List.length_take, List.length_drop, List.length_cons, List.length_nil, encVs_length, encVs]); omega))
      | (rw [gate_mt]; split)
      | (rw [gate_mf]; split)
      | (rw [condL_m]; split)
      | (simp -implicitDefEqProofs only [go_sem, initFS, number, Nat.reduceAdd, lb_gatepostref02_Few_0, few2, *]))
theorem few_loop (l : List Val) (n : Int) (S : List (Fr Ω)) : ∀ k i (L : Fr Ω), i + k = l.length →
    denL T lp_gatepostref02_Few_1 ⟨[(0, .sl .no 4 (encVs l)), (1, .int n), (5, .nat i)], L, S, false⟩ =
      if fewL i (l.drop i) then some (.exit 0, ⟨[(0, .sl .no 4 (encVs l)), (1, .int n)], [], S, false⟩) else some (.ret, ⟨[(4, .sc (.bool false))], [], S, false⟩) := by
  intro k
  induction k with
  | zero =>
    intro i L hi
    obtain rfl : i = l.length := by omega
    have e2 : l.drop l.length = [] := by simp
    rw [lu_gatepostref02_Few_1]
    repeat' (first
      | (rw [nLe_yes]; rotate_left; focus ((try simp only [List.length_append, List.length_take, List.length_drop, List.length_cons, List.length_nil, encVs_length, encVs]); omega))
      | (rw [gate_mt]; split)
      | (rw [gate_mf]; split)
      | (rw [condL_m]; split)
      | (simp -implicitDefEqProofs only [go_sem, initFS, number, Nat.reduceAdd, lb_gatepostref02_Few_1, fewL, *]))
  | succ k ih =>
    intro i L hi
    have hlt : i < l.length := by omega
    have e2 : l[i]? = some l[i] := List.getElem?_eq_getElem hlt
    have e5 := fun L => ih (i + 1) L (by omega)
    have e3 : l.drop i = l[i] :: l.drop (i + 1) := List.drop_eq_getElem_cons hlt
    clear ih
    generalize l[i] = x at *
    cases c1 : iLt (i : Int) 100
    · rw [lu_gatepostref02_Few_1]
      repeat' (first
        | (rw [nLe_yes]; rotate_left; focus ((try simp only [List.length_append, List.length_take, List.length_drop, List.length_cons, List.length_nil, encVs_length, encVs]); omega))
        | (rw [gate_mt]; split)
        | (rw [gate_mf]; split)
        | (rw [condL_m]; split)
        | (simp -implicitDefEqProofs only [go_sem, initFS, number, Nat.reduceAdd, lb_gatepostref02_Few_1, fewL, *]))
    · have h1 : i < 100 := by rw [iLt_def] at c1; simp at c1; omega
      have e6 := wrap_succ (n := i) (by omega)
      cases c2 : iLt 30 (x.l.length : Int)
      · have h2 : x.l.length ≤ 30 := by rw [iLt_def] at c2; simp at c2; omega
        have e7 := fun L => few_loop2 (T := T) l n i x e2 hlt (by omega) S x.l.length 0 L (by omega)
        simp only [nat0, List.drop_zero] at e7
        cases c3 : few2 x.l
        all_goals
          rw [c3] at e7
          rw [lu_gatepostref02_Few_1]
          repeat' (first
            | (rw [nLe_yes]; rotate_left; focus ((try simp only [List.length_append, List.length_take, List.length_drop, List.length_cons, List.length_nil, encVs_length, encVs]); omega))
            | (rw [gate_mt]; split)
            | (rw [gate_mf]; split)
            | (rw [condL_m]; split)
            | (simp -implicitDefEqProofs only [go_sem, initFS, number, Nat.reduceAdd, lb_gatepostref02_Few_1, fewL, *]))
      · rw [lu_gatepostref02_Few_1]
        repeat' (first
          | (rw [nLe_yes]; rotate_left; focus ((try simp only [List.length_append, List.length_take, List.length_drop, List.length_cons, List.length_nil, encVs_length, encVs]); omega))
          | (rw [gate_mt]; split)
          | (rw [gate_mf]; split)
          | (rw [condL_m]; split)
          | (simp -implicitDefEqProofs only [go_sem, initFS, number, Nat.reduceAdd, lb_gatepostref02_Few_1, fewL, *]))
theorem few_eq (h : T f_gatepostref02_Few = some (.fn ir_gatepostref02_Few)) (l : List Val) (n : Int) (S : List (Fr Ω)) :
    G T f_gatepostref02_Few [.sl .no 4 (encVs l), .int n] S = some (.sc (.bool (fewB l n)), none, S) := by
  have e := fun L => few_loop (T := T) l n S l.length 0 L (by omega)
  simp only [nat0, List.drop_zero] at e
  rw [G_fn T h]
  unfold fewB
  cases c : fewL 0 l
  all_goals
    rw [c] at e
    repeat' (first
      | (rw [nLe_yes]; rotate_left; focus ((try simp only [List.length_append, List.length_take, List.length_drop, List.length_cons, List.length_nil, encVs_length, encVs]); omega))
      | (rw [gate_mt]; split)
      | (rw [gate_mf]; split)
      | (rw [condL_m]; split)
      | (simp -implicitDefEqProofs only [go_sem, initFS, number, Nat.reduceAdd, ir_gatepostref02_Few, *]))
end Go.Fw.EqV
end
section
/- What the functions of layer 2 answer, V: the reference's bag. -/
set_option maxRecDepth 100000
namespace Go.Fw.EqV
open Go.Fw Go.Fw.Ir Go.Fw.Gp
attribute [local congr] cg_selB cg_bind cg_map cg_andThen cg_denL cg_condL cg_runOps cg_stepOp cg_gate
variable {Ω : Type} {T : Nat → Option (Ent Ω)}
set_option maxHeartbeats 4000000
set_option linter.all false

def badL (k0 : Int) : List Val → Bool
  | [] => false
  | x :: r => iEq x.k 0 || iEq x.k 5 || !iEq x.k k0 || badL k0 r
def atB (x : Val) : List Val → Nat
  | [] => 0
  | y :: r => if iLt (singleI y x) 0 then atB x r + 1 else 0
def insB (out : List Val) (x : Val) : List Val :=
  match out[atB x out]? with
  | some y => if iEq (singleI y x) 0 then out else out.take (atB x out) ++ [x] ++ out.drop (atB x out)
  | none => out.take (atB x out) ++ [x] ++ out.drop (atB x out)
def zeroV : Val := .mk 0 0 ⟨#[]⟩ []
abbrev zc : List PV := [.int 0, .int 0, .str ⟨#[]⟩, .sl .nil 4 []]
theorem bag_loop0 (l : List Val) (hl : l.length < 4611686018427387904) (S : List (Fr Ω)) : ∀ k i (L : Fr Ω), i + k = l.length → look L 2 = some (.box zc) →
    denL T lp_gatepostref02_Bag_0 ⟨[(0, .sl .no 4 (encVs l)), (2, .own 2 0), (4, .nat i)], L, S, false⟩ =
      if badL (headK l) (l.drop i) then some (.ret, ⟨[(2, .own 2 0), (3, .int 6)], [(2, .box zc)], S, false⟩) else some (.exit 0, ⟨[(0, .sl .no 4 (encVs l)), (2, .own 2 0)], [(2, .box zc)], S, false⟩) := by
  intro k
  induction k with
  | zero =>
    intro i L hi h1
    obtain rfl : i = l.length := by omega
    have e2 : l.drop l.length = [] := by simp
    rw [lu_gatepostref02_Bag_0]
    repeat' (first
      | (rw [nLe_yes]; rotate_left; focus ((try simp only [List.length_append, List.length_take, List.length_drop, List.length_cons, List.length_nil, encVs_length, encVs]); omega))
      | (rw [gate_mt]; split)
      | (rw [gate_mf]; split)
      | (rw [condL_m]; split)
      | (simp -implicitDefEqProofs only [go_sem, initFS, number, Nat.reduceAdd, lb_gatepostref02_Bag_0, badL, *]))
  | succ k ih =>
    intro i L hi h1
    have hlt : i < l.length := by omega
    have e2 : l[i]? = some l[i] := List.getElem?_eq_getElem hlt
    have e5 := fun L => ih (i + 1) L (by omega)
    have e6 := wrap_succ (n := i) (by omega)
    have e3 : l.drop i = l[i] :: l.drop (i + 1) := List.drop_eq_getElem_cons hlt
    have e8 : ∃ x0, l[0]? = some x0 ∧ headK l = x0.k := by
      cases hq : l with
      | nil => rw [hq] at hlt; simp at hlt
      | cons x xs => exact ⟨x, rfl, rfl⟩
    obtain ⟨x0, e8, e9⟩ := e8
    have e10 : 0 < l.length := by omega
    rw [e9] at e5 ⊢
    clear ih e9
    by_cases h0 : i = 0
    · subst h0
      obtain rfl : x0 = l[0] := by rw [e2] at e8; cases e8; rfl
      clear e8 e6
      simp only [Nat.zero_add, nat1] at e5 e3
      generalize l[0] = x at *
      rw [lu_gatepostref02_Bag_0]
      repeat' (first
        | (rw [nLe_yes]; rotate_left; focus ((try simp only [List.length_append, List.length_take, List.length_drop, List.length_cons, List.length_nil, encVs_length, encVs]); omega))
        | (rw [gate_mt]; split)
        | (rw [gate_mf]; split)
        | (rw [condL_m]; split)
        | (simp -implicitDefEqProofs only [go_sem, initFS, number, Nat.reduceAdd, lb_gatepostref02_Bag_0, badL, nat0, *]))
    · generalize l[i] = x at *
      rw [lu_gatepostref02_Bag_0]
      repeat' (first
        | (rw [nLe_yes]; rotate_left; focus ((try simp only [List.length_append, List.length_take, List.length_drop, List.length_cons, List.length_nil, encVs_length, encVs]); omega))
        | (rw [gate_mt]; split)
        | (rw [gate_mf]; split)
        | (rw [condL_m]; split)
        | (simp -implicitDefEqProofs only [go_sem, initFS, number, Nat.reduceAdd, lb_gatepostref02_Bag_0, badL, *]))
abbrev oc (out : List Val) : List PV := [.int 5, .int 0, .str ⟨#[]⟩, .sl .no 4 (encVs out)]
theorem bag_loop1 (h : RefFns T) (l out : List Val) (x : Val) (n : Nat) (hx : l[n]? = some x) (hn : n < l.length) (hl : out.length < 4611686018427387904) (hs : ∀ y ∈ out, y.s.size < 4611686018427387904) (S : List (Fr Ω)) :
    ∀ k i (L : Fr Ω), i + k = out.length → look L 2 = some (.box zc) → look L 5 = some (.box (oc out)) →
    denL T lp_gatepostref02_Bag_1 ⟨[(0, .sl .no 4 (encVs l)), (2, .own 2 0), (5, .own 5 0), (6, .nat n), (7, .nat i)], L, S, false⟩ =
      some (.exit 4, ⟨[(0, .sl .no 4 (encVs l)), (2, .own 2 0), (5, .own 5 0), (6, .nat n), (7, .nat (i + atB x (out.drop i)))], [(2, .box zc), (5, .box (oc out))], S, false⟩) := by
  intro k
  induction k with
  | zero =>
    intro i L hi h1 h2
    obtain rfl : i = out.length := by omega
    have e2 : out.drop out.length = [] := by simp
    rw [lu_gatepostref02_Bag_1]
    repeat' (first
      | (rw [nLe_yes]; rotate_left; focus ((try simp only [List.length_append, List.length_take, List.length_drop, List.length_cons, List.length_nil, encVs_length, encVs]); omega))
      | (rw [gate_mt]; split)
      | (rw [gate_mf]; split)
      | (rw [condL_m]; split)
      | (simp -implicitDefEqProofs only [go_sem, initFS, number, Nat.reduceAdd, lb_gatepostref02_Bag_1, atB, *]))
  | succ k ih =>
    intro i L hi h1 h2
    have hlt : i < out.length := by omega
    have e2 : out[i]? = some out[i] := List.getElem?_eq_getElem hlt
    have e5 := fun L => ih (i + 1) L (by omega)
    have e6 := wrap_succ (n := i) (by omega)
    have e3 : out.drop i = out[i] :: out.drop (i + 1) := List.drop_eq_getElem_cons hlt
    have o1 := single_eq h.single h.numbers h.texts out[i] x (hs _ (List.getElem_mem hlt))
    simp only [encV_eq] at o1
    clear ih
    generalize out[i] = y at *
    have e7 : i + 1 + atB x (List.drop (i + 1) out) = i + (atB x (List.drop (i + 1) out) + 1) := by omega
    rw [e7] at e5
    rw [lu_gatepostref02_Bag_1]
    repeat' (first
      | (rw [nLe_yes]; rotate_left; focus ((try simp only [List.length_append, List.length_take, List.length_drop, List.length_cons, List.length_nil, encVs_length, encVs]); omega))
      | (rw [gate_mt]; split)
      | (rw [gate_mf]; split)
      | (rw [condL_m]; split)
      | (simp -implicitDefEqProofs only [go_sem, initFS, number, Nat.reduceAdd, lb_gatepostref02_Bag_1, atB, *]))

/-- One more value, behind the test. -/
theorem insB_some {out : List Val} {x y : Val} (h : out[atB x out]? = some y) : insB out x = if iEq (singleI y x) 0 then out else out.take (atB x out) ++ [x] ++ out.drop (atB x out) := by simp only [insB, h]
theorem insB_none {out : List Val} {x : Val} (h : out[atB x out]? = none) : insB out x = out.take (atB x out) ++ [x] ++ out.drop (atB x out) := by simp only [insB, h]
theorem atB_le (x : Val) : ∀ out, atB x out ≤ out.length
  | [] => by simp [atB]
  | y :: r => by
    have := atB_le x r
    simp only [atB]
    split <;> simp <;> omega
theorem insB_length (out : List Val) (x : Val) : (insB out x).length ≤ out.length + 1 := by
  have h := atB_le x out
  unfold insB
  split
  · split
    · omega
    · simp; omega
  · simp; omega
theorem insB_mem {out : List Val} {x z : Val} (h : z ∈ insB out x) : z ∈ out ∨ z = x := by
  unfold insB at h
  have key : z ∈ out.take (atB x out) ++ [x] ++ out.drop (atB x out) → z ∈ out ∨ z = x := by
    intro h
    rcases List.mem_append.1 h with h | h
    · rcases List.mem_append.1 h with h | h
      · exact .inl (List.mem_of_mem_take h)
      · simp at h; exact .inr h
    · exact .inl (List.mem_of_mem_drop h)
  split at h
  · split at h
    · exact .inl h
    · exact key h
  · exact key h
theorem bag_loop2 (h : RefFns T) (l : List Val) (hl : l.length ≤ 30) (hs : ∀ y ∈ l, y.s.size < 4611686018427387904) (S : List (Fr Ω)) :
    ∀ k i (out : List Val) (L : Fr Ω), i + k = l.length → out.length ≤ i → (∀ y ∈ out, y.s.size < 4611686018427387904) → look L 2 = some (.box zc) → look L 5 = some (.box (oc out)) →
    denL T lp_gatepostref02_Bag_2 ⟨[(0, .sl .no 4 (encVs l)), (2, .own 2 0), (5, .own 5 0), (6, .nat i)], L, S, false⟩ =
      some (.exit 2, ⟨[(2, .own 2 0), (5, .own 5 0)], [(2, .box zc), (5, .box (oc ((l.drop i).foldl insB out)))], S, false⟩) := by
  intro k
  induction k with
  | zero =>
    intro i out L hi ho hso h1 h2
    obtain rfl : i = l.length := by omega
    have e2 : l.drop l.length = [] := by simp
    rw [lu_gatepostref02_Bag_2]
    repeat' (first
      | (rw [nLe_yes]; rotate_left; focus ((try simp only [List.length_append, List.length_take, List.length_drop, List.length_cons, List.length_nil, encVs_length, encVs]); omega))
      | (rw [gate_mt]; split)
      | (rw [gate_mf]; split)
      | (rw [condL_m]; split)
      | (simp -implicitDefEqProofs only [go_sem, initFS, number, Nat.reduceAdd, lb_gatepostref02_Bag_2, List.foldl_nil, *]))
  | succ k ih =>
    intro i out L hi ho hso h1 h2
    have hlt : i < l.length := by omega
    have e2 : l[i]? = some l[i] := List.getElem?_eq_getElem hlt
    have hx := hs l[i] (List.getElem_mem hlt)
    have hlen := insB_length out l[i]
    have hmem : ∀ y ∈ insB out l[i], y.s.size < 4611686018427387904 := fun y hy => (insB_mem hy).elim (hso y) (fun e => e ▸ hx)
    have e5 := fun (L : Fr Ω) => ih (i + 1) (insB out l[i]) L (by omega) (by omega) hmem
    clear hlen hmem
    have e6 := wrap_succ (n := i) (by omega)
    have e3 : l.drop i = l[i] :: l.drop (i + 1) := List.drop_eq_getElem_cons hlt
    have l1 := fun (L : Fr Ω) => bag_loop1 h l out l[i] i e2 hlt (by omega) hso S out.length 0 L (by omega)
    simp only [List.drop_zero, Nat.zero_add, nat0] at l1
    have a1 := atB_le l[i] out
    clear ih
    generalize l[i] = x at *
    rcases Nat.lt_or_ge (atB x out) out.length with hy | hy
    · have e7 : out[atB x out]? = some out[atB x out] := List.getElem?_eq_getElem hy
      have e8 := insB_some e7
      have o1 := single_eq h.single h.numbers h.texts out[atB x out] x (hso _ (List.getElem_mem hy))
      simp only [encV_eq] at o1
      generalize out[atB x out] = y at *
      generalize atB x out = p at *
      cases c : iEq (singleI y x) 0
      all_goals
        simp only [c, Bool.false_eq_true, if_false, if_true] at e8
        rw [e8] at e5
        rw [lu_gatepostref02_Bag_2]
        repeat' (first
          | (rw [nLe_yes]; rotate_left; focus ((try simp only [List.length_append, List.length_take, List.length_drop, List.length_cons, List.length_nil, encVs_length, encVs]); omega))
          | (rw [gate_mt]; split)
          | (rw [gate_mf]; split)
          | (rw [condL_m]; split)
          | (simp -implicitDefEqProofs only [go_sem, initFS, number, Nat.reduceAdd, lb_gatepostref02_Bag_2, List.foldl_cons, *]))
    · have e7 : out[atB x out]? = none := List.getElem?_eq_none hy
      have e8 := insB_none e7
      have e9 : ¬ atB x out < out.length := by omega
      rw [e8] at e5
      generalize atB x out = p at *
      rw [lu_gatepostref02_Bag_2]
      repeat' (first
        | (rw [nLe_yes]; rotate_left; focus ((try simp only [List.length_append, List.length_take, List.length_drop, List.length_cons, List.length_nil, encVs_length, encVs]); omega))
        | (rw [gate_mt]; split)
        | (rw [gate_mf]; split)
        | (rw [condL_m]; split)
        | (simp -implicitDefEqProofs only [go_sem, initFS, number, Nat.reduceAdd, lb_gatepostref02_Bag_2, List.foldl_cons, *]))
end Go.Fw.EqV
end
section
/- What the functions of layer 2 answer, VI: the reference's bag, whole; the law's other functions. -/
set_option maxRecDepth 100000
namespace Go.Fw.EqV
open Go.Fw Go.Fw.Ir Go.Fw.Gp
attribute [local congr] cg_selB cg_bind cg_map cg_andThen cg_denL cg_condL cg_runOps cg_stepOp cg_gate
variable {Ω : Type} {T : Nat → Option (Ent Ω)}
set_option maxHeartbeats 4000000
set_option linter.all false

def bagR (l : List Val) : Val × Int :=
  if badL (headK l) l then (zeroV, 6)
  else if iLt 16 (l.foldl insB []).length then (zeroV, 13)
  else (.mk 5 0 ⟨#[]⟩ (l.foldl insB []), 0)
abbrev ocn : List PV := [.int 5, .int 0, .str ⟨#[]⟩, .sl .nil 4 []]
theorem bag_loop1n (l : List Val) (S : List (Fr Ω)) (L : Fr Ω) (h1 : look L 2 = some (.box zc)) (h2 : look L 5 = some (.box ocn)) :
    denL T lp_gatepostref02_Bag_1 ⟨[(0, .sl .no 4 (encVs l)), (2, .own 2 0), (5, .own 5 0), (6, .int 0), (7, .int 0)], L, S, false⟩ =
      some (.exit 4, ⟨[(0, .sl .no 4 (encVs l)), (2, .own 2 0), (5, .own 5 0), (6, .int 0), (7, .int 0)], [(2, .box zc), (5, .box ocn)], S, false⟩) := by
  rw [lu_gatepostref02_Bag_1]
  repeat' (first
    | (rw [nLe_yes]; rotate_left; focus ((try simp only [List.length_append, List.length_take, List.length_drop, List.length_cons, List.length_nil, encVs_length, encVs]); omega))
    | (rw [gate_mt]; split)
    | (rw [gate_mf]; split)
    | (rw [condL_m]; split)
    | (simp -implicitDefEqProofs only [go_sem, initFS, number, Nat.reduceAdd, lb_gatepostref02_Bag_1, iLt_def, decide_false, Int.cast_ofNat_Int, List.length_nil, Int.lt_irrefl, *]))
theorem bag_start (h : RefFns T) (l : List Val) (hl : l.length ≤ 30) (hs : ∀ y ∈ l, y.s.size < 4611686018427387904) (S : List (Fr Ω)) (L : Fr Ω) (h1 : look L 2 = some (.box zc)) (h2 : look L 5 = some (.box ocn)) :
    ∃ f, denL T lp_gatepostref02_Bag_2 ⟨[(0, .sl .no 4 (encVs l)), (2, .own 2 0), (5, .own 5 0), (6, .int 0)], L, S, false⟩ =
      some (.exit 2, ⟨[(2, .own 2 0), (5, .own 5 0)], [(2, .box zc), (5, .box [.int 5, .int 0, .str ⟨#[]⟩, .sl f 4 (encVs (l.foldl insB []))])], S, false⟩) ∧ (f = .no ∨ f = .nil) := by
  cases l with
  | nil =>
    refine ⟨.nil, ?_, .inr rfl⟩
    rw [lu_gatepostref02_Bag_2]
    repeat' (first
      | (rw [nLe_yes]; rotate_left; focus ((try simp only [List.length_append, List.length_take, List.length_drop, List.length_cons, List.length_nil, encVs_length, encVs]); omega))
      | (rw [gate_mt]; split)
      | (rw [gate_mf]; split)
      | (rw [condL_m]; split)
      | (simp -implicitDefEqProofs only [go_sem, initFS, number, Nat.reduceAdd, lb_gatepostref02_Bag_2, List.foldl_nil, *]))
  | cons x r =>
    refine ⟨.no, ?_, .inl rfl⟩
    have e5 := fun (L : Fr Ω) => bag_loop2 h (x :: r) hl hs S r.length 1 [x] L (by simp; omega) (by simp) (fun y hy => by simp at hy; subst hy; exact hs y (by simp))
    simp only [nat1, List.drop_succ_cons, List.drop_zero] at e5
    have l1 := fun (L : Fr Ω) => bag_loop1n (T := T) (x :: r) S L
    have e7 : insB [] x = [x] := by simp [insB, atB]
    have e8 : encVs [x] = [[PV.int x.k, .int x.i, .str x.s, .sl .no 4 (encVs x.l)]] := by simp [encVs, encV_eq]
    have e9 : (x :: r)[0]? = some x := rfl
    have e10 : 0 < (x :: r).length := by simp
    simp only [e8, oc] at e5
    generalize hq : x :: r = q at *
    have e11 : List.foldl insB [] q = List.foldl insB [x] r := by rw [← hq]; simp [e7]
    rw [lu_gatepostref02_Bag_2]
    repeat' (first
      | (rw [nLe_yes]; rotate_left; focus ((try simp only [List.length_append, List.length_take, List.length_drop, List.length_cons, List.length_nil, encVs_length, encVs]); omega))
      | (rw [gate_mt]; split)
      | (rw [gate_mf]; split)
      | (rw [condL_m]; split)
      | (simp -implicitDefEqProofs only [go_sem, initFS, number, Nat.reduceAdd, lb_gatepostref02_Bag_2, List.take_nil, List.drop_nil, iLt_self, Nat.zero_le, *]))
theorem refBag_eq (h : RefFns T) (hb : T f_gatepostref02_Bag = some (.fn ir_gatepostref02_Bag)) (l : List Val) (hl : l.length ≤ 30) (hs : ∀ y ∈ l, y.s.size < 4611686018427387904) (S : List (Fr Ω)) :
    G T f_gatepostref02_Bag [.sl .no 4 (encVs l)] S = some (.tup [.agg (encV (bagR l).1), .int (bagR l).2], none, S) := by
  have e0 := fun (L : Fr Ω) => bag_loop0 (T := T) l (by omega) S l.length 0 L (by omega)
  simp only [nat0, List.drop_zero] at e0
  obtain ⟨f, e1, hf⟩ := bag_start h l hl hs S [(2, .box zc), (5, .box ocn)] rfl rfl
  rw [G_fn T hb]
  unfold bagR
  cases c : badL (headK l) l
  · rw [c] at e0
    rcases hf with rfl | rfl
    all_goals
      repeat' (first
        | (rw [nLe_yes]; rotate_left; focus ((try simp only [List.length_append, List.length_take, List.length_drop, List.length_cons, List.length_nil, encVs_length, encVs]); omega))
        | (rw [gate_mt]; split)
        | (rw [gate_mf]; split)
        | (rw [condL_m]; split)
        | (simp -implicitDefEqProofs only [go_sem, initFS, number, Nat.reduceAdd, ir_gatepostref02_Bag, zeroV, Val.k, Val.i, Val.s, Val.l, *]))
  · rw [c] at e0
    repeat' (first
      | (rw [nLe_yes]; rotate_left; focus ((try simp only [List.length_append, List.length_take, List.length_drop, List.length_cons, List.length_nil, encVs_length, encVs]); omega))
      | (rw [gate_mt]; split)
      | (rw [gate_mf]; split)
      | (rw [condL_m]; split)
      | (simp -implicitDefEqProofs only [go_sem, initFS, number, Nat.reduceAdd, ir_gatepostref02_Bag, zeroV, Val.k, Val.i, Val.s, Val.l, *]))

-- the fixed fact
structure AwakeFns (T : Nat → Option (Ent Ω)) : Prop extends FormedFns T where
  awake : T f_gatepostlaw02_awake = some (.fn ir_gatepostlaw02_awake)
  num : T f_value_Number = some (.fn ir_value_Number)
  add : T f_value_Add = some (.fn ir_value_Add)
  kinds : T f_value_kinds = some (.fn ir_value_kinds)
  sum : T f_value_sum = some (.fn ir_value_sum)
  number : T f_value_number = some (.fn ir_value_number)
theorem num_eq (h : T f_value_Number = some (.fn ir_value_Number)) (n : Int) (S : List (Fr Ω)) :
    G T f_value_Number [.int n] S = some (.agg [.int 2, .int n, .str ⟨#[]⟩, .sl .no 4 []], none, S) := by
  rw [G_fn T h]
  repeat' (first
    | (rw [nLe_yes]; rotate_left; focus ((try simp only [List.length_append, List.length_take, List.length_drop, List.length_cons, List.length_nil, encVs_length, encVs]); omega))
    | (rw [gate_mt]; split)
    | (rw [gate_mf]; split)
    | (rw [condL_m]; split)
    | (simp -implicitDefEqProofs only [go_sem, initFS, number, Nat.reduceAdd, ir_value_Number, *]))
theorem number_eq (h : T f_value_number = some (.fn ir_value_number)) (h2 : T f_value_Number = some (.fn ir_value_Number)) (n : Int) (S : List (Fr Ω)) :
    G T f_value_number [.int n, .sc (.bool true)] S = some (.tup [.agg [.int 2, .int n, .str ⟨#[]⟩, .sl .no 4 []], .int 0], none, S) := by
  have e := num_eq h2 n
  rw [G_fn T h]
  repeat' (first
    | (rw [nLe_yes]; rotate_left; focus ((try simp only [List.length_append, List.length_take, List.length_drop, List.length_cons, List.length_nil, encVs_length, encVs]); omega))
    | (rw [gate_mt]; split)
    | (rw [gate_mf]; split)
    | (rw [condL_m]; split)
    | (simp -implicitDefEqProofs only [go_sem, initFS, number, Nat.reduceAdd, ir_value_number, *]))
theorem sum_eq (h : T f_value_sum = some (.fn ir_value_sum)) (S : List (Fr Ω)) :
    G T f_value_sum [.int 2, .int 3] S = some (.tup [.int 5, .sc (.bool true)], none, S) := by
  have e : wrapI .i64 (2 + 3) = 5 := by rw [wrap64 (by omega)]; rfl
  rw [G_fn T h]
  repeat' (first
    | (rw [nLe_yes]; rotate_left; focus ((try simp only [List.length_append, List.length_take, List.length_drop, List.length_cons, List.length_nil, encVs_length, encVs]); omega))
    | (rw [gate_mt]; split)
    | (rw [gate_mf]; split)
    | (rw [condL_m]; split)
    | (simp -implicitDefEqProofs only [go_sem, initFS, number, Nat.reduceAdd, ir_value_sum, iLt_def, show decide ((2 : Int) < 0) = false from rfl, show decide ((3 : Int) < 0) = false from rfl, show decide ((5 : Int) < 0) = false from rfl, *]))
theorem kinds_eq (h : T f_value_kinds = some (.fn ir_value_kinds)) (a b : Val) (S : List (Fr Ω)) :
    G T f_value_kinds [.agg (encV a), .agg (encV b)] S = some (.agg [.int a.k, .int b.k], none, S) := by
  rw [G_fn T h]
  repeat' (first
    | (rw [nLe_yes]; rotate_left; focus ((try simp only [List.length_append, List.length_take, List.length_drop, List.length_cons, List.length_nil, encVs_length, encVs]); omega))
    | (rw [gate_mt]; split)
    | (rw [gate_mf]; split)
    | (rw [condL_m]; split)
    | (simp -implicitDefEqProofs only [go_sem, initFS, number, Nat.reduceAdd, ir_value_kinds, *]))
theorem add_eq (h : AwakeFns T) (S : List (Fr Ω)) :
    G T f_value_Add [.agg [.int 2, .int 2, .str ⟨#[]⟩, .sl .no 4 []], .agg [.int 2, .int 3, .str ⟨#[]⟩, .sl .no 4 []]] S = some (.tup [.agg [.int 2, .int 5, .str ⟨#[]⟩, .sl .no 4 []], .int 0], none, S) := by
  have e1 := number_eq h.number h.num 5
  have e2 := sum_eq h.sum
  have e3 := kinds_eq h.kinds (.mk 2 2 ⟨#[]⟩ []) (.mk 2 3 ⟨#[]⟩ [])
  have f1 := formed_eq h.toFormedFns (.mk 2 2 ⟨#[]⟩ []) (by simp [Val.l]) (by simp [Val.l])
  have f2 := formed_eq h.toFormedFns (.mk 2 3 ⟨#[]⟩ []) (by simp [Val.l]) (by simp [Val.l])
  have g1 : formedV (.mk 2 2 ⟨#[]⟩ []) = true := by simp [formedV, plainB, Val.k, Val.i, Val.s, Val.l, iEq_def, sEq_def]
  have g2 : formedV (.mk 2 3 ⟨#[]⟩ []) = true := by simp [formedV, plainB, Val.k, Val.i, Val.s, Val.l, iEq_def, sEq_def]
  simp only [encV_eq, Val.k, Val.i, Val.s, Val.l, encVs, g1, g2] at e3 f1 f2
  rw [G_fn T h.add]
  repeat' (first
    | (rw [nLe_yes]; rotate_left; focus ((try simp only [List.length_append, List.length_take, List.length_drop, List.length_cons, List.length_nil, encVs_length, encVs]); omega))
    | (rw [gate_mt]; split)
    | (rw [gate_mf]; split)
    | (rw [condL_m]; split)
    | (simp -implicitDefEqProofs only [go_sem, initFS, number, Nat.reduceAdd, ir_value_Add, *]))
theorem awake_eq (h : AwakeFns T) (S : List (Fr Ω)) : G T f_gatepostlaw02_awake [] S = some (.sc (.bool true), none, S) := by
  have e1 := num_eq h.num 2
  have e2 := num_eq h.num 3
  have e3 := add_eq h
  have f1 := formed_eq h.toFormedFns (.mk 2 5 ⟨#[]⟩ []) (by simp [Val.l]) (by simp [Val.l])
  have g1 : formedV (.mk 2 5 ⟨#[]⟩ []) = true := by simp [formedV, plainB, Val.k, Val.i, Val.s, Val.l, iEq_def, sEq_def]
  simp only [encV_eq, Val.k, Val.i, Val.s, Val.l, encVs, g1] at f1
  rw [G_fn T h.awake]
  repeat' (first
    | (rw [nLe_yes]; rotate_left; focus ((try simp only [List.length_append, List.length_take, List.length_drop, List.length_cons, List.length_nil, encVs_length, encVs]); omega))
    | (rw [gate_mt]; split)
    | (rw [gate_mf]; split)
    | (rw [condL_m]; split)
    | (simp -implicitDefEqProofs only [go_sem, initFS, number, Nat.reduceAdd, ir_gatepostlaw02_awake, *]))
end Go.Fw.EqV
end
section
/- What the law of bags answers. -/
set_option maxRecDepth 100000
namespace Go.Fw.EqV
open Go.Fw Go.Fw.Ir Go.Fw.Gp
attribute [local congr] cg_selB cg_bind cg_map cg_andThen cg_denL cg_condL cg_runOps cg_stepOp cg_gate
variable {Ω : Type} {T : Nat → Option (Ent Ω)}
set_option maxHeartbeats 4000000
set_option linter.all false

structure LawFns (T : Nat → Option (Ent Ω)) : Prop extends AwakeFns T where
  law : T f_gatepostlaw02_ValueBags = some (.fn ir_gatepostlaw02_ValueBags)
  few : T f_gatepostref02_Few = some (.fn ir_gatepostref02_Few)
  same : T f_gatepostref02_Same = some (.fn ir_gatepostref02_Same)
  ref : RefFns T
  rbag : T f_gatepostref02_Bag = some (.fn ir_gatepostref02_Bag)

theorem law_loop0 (h : LawFns T) (l : List Val) (v : Val) (e : Int) (hl : l.length < 4611686018427387904) (hs : ∀ x ∈ l, sameV x x = true) (hx : ∀ x ∈ l, x.l.length < 4611686018427387904) (S : List (Fr Ω)) : ∀ k i (L : Fr Ω), i + k = l.length → look L 4 = some (.box (encV v)) →
    denL T lp_gatepostlaw02_ValueBags_0 ⟨[(0, .sl .no 4 (encVs l)), (3, .sl .own 4 (encVs l)), (4, .own 4 0), (5, .int e), (6, .nat i)], L, S, false⟩ =
      some (.exit 0, ⟨[(0, .sl .no 4 (encVs l)), (4, .own 4 0), (5, .int e)], [(4, .box (encV v))], S, false⟩) := by
  intro k
  induction k with
  | zero =>
    intro i L hi h1
    obtain rfl : i = l.length := by omega
    rw [lu_gatepostlaw02_ValueBags_0]
    repeat' (first
      | (rw [nLe_yes]; rotate_left; focus ((try simp only [List.length_append, List.length_take, List.length_drop, List.length_cons, List.length_nil, encVs_length, encVs]); omega))
      | (rw [gate_mt]; split)
      | (rw [gate_mf]; split)
      | (rw [condL_m]; split)
      | (simp -implicitDefEqProofs only [go_sem, initFS, number, Nat.reduceAdd, lb_gatepostlaw02_ValueBags_0, *]))
  | succ k ih =>
    intro i L hi h1
    have hlt : i < l.length := by omega
    have e2 : l[i]? = some l[i] := List.getElem?_eq_getElem hlt
    have e5 := fun (L : Fr Ω) => ih (i + 1) L (by omega)
    simp only [encV_eq] at e5
    have e6 := wrap_succ (n := i) (by omega)
    have s1 := same_eq h.same l[i] l[i] (hx _ (List.getElem_mem hlt))
    simp only [encV_eq, hs _ (List.getElem_mem hlt)] at s1
    clear ih
    generalize l[i] = x at *
    rw [lu_gatepostlaw02_ValueBags_0]
    repeat' (first
      | (rw [nLe_yes]; rotate_left; focus ((try simp only [List.length_append, List.length_take, List.length_drop, List.length_cons, List.length_nil, encVs_length, encVs]); omega))
      | (rw [gate_mt]; split)
      | (rw [gate_mf]; split)
      | (rw [condL_m]; split)
      | (simp -implicitDefEqProofs only [go_sem, initFS, number, Nat.reduceAdd, lb_gatepostlaw02_ValueBags_0, *]))
def allR : List Val → Bool
  | [] => true
  | x :: r => formedR x && allR r
theorem law_loop1 (h : LawFns T) (l : List Val) (v : Val) (e : Int) (hl : l.length < 4611686018427387904) (hx : ∀ x ∈ l, x.l.length < 4611686018427387904 ∧ ∀ y ∈ x.l, y.s.size < 4611686018427387904)
    (hv : v.l.length < 4611686018427387904) (S : List (Fr Ω)) : ∀ k i (L : Fr Ω), i + k = l.length → look L 4 = some (.box (encV v)) →
    denL T lp_gatepostlaw02_ValueBags_1 ⟨[(0, .sl .no 4 (encVs l)), (4, .own 4 0), (5, .int e), (7, .nat i)], L, S, false⟩ =
      if allR (l.drop i) then some (.exit 2, ⟨[(0, .sl .no 4 (encVs l)), (4, .own 4 0), (5, .int e)], [(4, .box (encV v))], S, false⟩)
      else some (.ret, ⟨[(2, .sc (.bool (iEq e 1 && sameV v zeroV)))], [], S, false⟩) := by
  intro k
  induction k with
  | zero =>
    intro i L hi h1
    obtain rfl : i = l.length := by omega
    have e2 : l.drop l.length = [] := by simp
    rw [lu_gatepostlaw02_ValueBags_1]
    repeat' (first
      | (rw [nLe_yes]; rotate_left; focus ((try simp only [List.length_append, List.length_take, List.length_drop, List.length_cons, List.length_nil, encVs_length, encVs]); omega))
      | (rw [gate_mt]; split)
      | (rw [gate_mf]; split)
      | (rw [condL_m]; split)
      | (simp -implicitDefEqProofs only [go_sem, initFS, number, Nat.reduceAdd, lb_gatepostlaw02_ValueBags_1, allR, *]))
  | succ k ih =>
    intro i L hi h1
    have hlt : i < l.length := by omega
    have e2 : l[i]? = some l[i] := List.getElem?_eq_getElem hlt
    have e5 := fun (L : Fr Ω) => ih (i + 1) L (by omega)
    simp only [encV_eq] at e5
    have e6 := wrap_succ (n := i) (by omega)
    have e3 : l.drop i = l[i] :: l.drop (i + 1) := List.drop_eq_getElem_cons hlt
    obtain ⟨hx1, hx2⟩ := hx _ (List.getElem_mem hlt)
    have s1 := refFormed_eq h.ref l[i] hx1 hx2
    have s2 := same_eq h.same v zeroV hv
    rw [show encV zeroV = [.int 0, .int 0, .str ⟨#[]⟩, .sl .no 4 []] by simp [zeroV, encV, encVs]] at s2
    simp only [encV_eq] at s1 s2
    clear ih
    generalize l[i] = x at *
    rw [lu_gatepostlaw02_ValueBags_1]
    repeat' (first
      | (rw [nLe_yes]; rotate_left; focus ((try simp only [List.length_append, List.length_take, List.length_drop, List.length_cons, List.length_nil, encVs_length, encVs]); omega))
      | (rw [gate_mt]; split)
      | (rw [gate_mf]; split)
      | (rw [condL_m]; split)
      | (simp -implicitDefEqProofs only [go_sem, initFS, number, Nat.reduceAdd, lb_gatepostlaw02_ValueBags_1, allR, *]))
theorem law_eq (h : LawFns T) (l : List Val) (v : Val) (e : Int) (hl : l.length ≤ 30) (hfew : fewB l 30 = true) (hs : ∀ x ∈ l, sameV x x = true)
    (hx : ∀ x ∈ l, x.s.size < 4611686018427387904 ∧ x.l.length < 4611686018427387904 ∧ ∀ y ∈ x.l, y.s.size < 4611686018427387904) (hv : v.l.length < 4611686018427387904) (hvs : ∀ x ∈ v.l, Small x)
    (hbag : G T 6 [.sl .no 4 (encVs l)] [] = some (.tup [.agg (encV v), .int e], none, []))
    (hcase : (allR l = false ∧ e = 1 ∧ sameV v zeroV = true) ∨ (allR l = true ∧ e = (bagR l).2 ∧ sameV v (bagR l).1 = true ∧ (e = 0 → formedV v = true))) (S : List (Fr Ω)) :
    G T f_gatepostlaw02_ValueBags [.sl .no 4 (encVs l)] S = some (.sc (.bool true), none, S) := by
  have a1 := awake_eq h.toAwakeFns
  have f1 := few_eq h.few l 30
  have l0 := fun (L : Fr Ω) => law_loop0 h l v e (by omega) hs (fun x hq => (hx x hq).2.1) S l.length 0 L (by omega)
  have l1 := fun (L : Fr Ω) => law_loop1 h l v e (by omega) (fun x hq => (hx x hq).2) hv S l.length 0 L (by omega)
  have b1 := refBag_eq h.ref h.rbag l hl (fun x hq => (hx x hq).1)
  have s1 := same_eq h.same v (bagR l).1 hv
  have s2 := formed_eq h.toFormedFns v hv hvs
  simp only [hfew] at f1
  simp only [encV_eq, nat0, List.drop_zero] at hbag l0 l1 b1 s1 s2
  clear hs hx hvs hfew
  rw [G_fn T h.law]
  rcases hcase with ⟨c1, rfl, c3⟩ | ⟨c1, rfl, c3, c4⟩
  · simp only [c1, c3, iEq_self] at l1
    repeat' (first
      | (rw [nLe_yes]; rotate_left; focus ((try simp only [List.length_append, List.length_take, List.length_drop, List.length_cons, List.length_nil, encVs_length, encVs]); omega))
      | (rw [gate_mt]; split)
      | (rw [gate_mf]; split)
      | (rw [condL_m]; split)
      | (simp -implicitDefEqProofs only [go_sem, initFS, number, Nat.reduceAdd, ir_gatepostlaw02_ValueBags, *]))
  · simp only [c1] at l1
    by_cases c5 : (bagR l).2 = 0
    · have c6 := c4 c5
      rw [c6] at s2
      rw [c3] at s1
      clear c4
      generalize (bagR l).1 = w at *
      generalize (bagR l).2 = f at *
      have c7 : iEq f 0 = true := by rw [iEq_def]; simpa using c5
      clear c5
      repeat' (first
        | (rw [nLe_yes]; rotate_left; focus ((try simp only [List.length_append, List.length_take, List.length_drop, List.length_cons, List.length_nil, encVs_length, encVs]); omega))
        | (rw [gate_mt]; split)
        | (rw [gate_mf]; split)
        | (rw [condL_m]; split)
        | (simp -implicitDefEqProofs only [go_sem, initFS, number, Nat.reduceAdd, ir_gatepostlaw02_ValueBags, *]))
    · rw [c3] at s1
      clear c4
      generalize (bagR l).1 = w at *
      generalize (bagR l).2 = f at *
      have c7 : iEq f 0 = false := by rw [iEq_def]; simpa using c5
      clear c5
      repeat' (first
        | (rw [nLe_yes]; rotate_left; focus ((try simp only [List.length_append, List.length_take, List.length_drop, List.length_cons, List.length_nil, encVs_length, encVs]); omega))
        | (rw [gate_mt]; split)
        | (rw [gate_mf]; split)
        | (rw [condL_m]; split)
        | (simp -implicitDefEqProofs only [go_sem, initFS, number, Nat.reduceAdd, ir_gatepostlaw02_ValueBags, *]))
theorem law_many (h : LawFns T) (l : List Val) (hfew : fewB l 30 = false) (S : List (Fr Ω)) :
    G T f_gatepostlaw02_ValueBags [.sl .no 4 (encVs l)] S = some (.sc (.bool true), none, S) := by
  have a1 := awake_eq h.toAwakeFns
  have f1 := few_eq h.few l 30
  simp only [hfew] at f1
  rw [G_fn T h.law]
  repeat' (first
    | (rw [nLe_yes]; rotate_left; focus ((try simp only [List.length_append, List.length_take, List.length_drop, List.length_cons, List.length_nil, encVs_length, encVs]); omega))
    | (rw [gate_mt]; split)
    | (rw [gate_mf]; split)
    | (rw [condL_m]; split)
    | (simp -implicitDefEqProofs only [go_sem, initFS, number, Nat.reduceAdd, ir_gatepostlaw02_ValueBags, *]))
end Go.Fw.EqV
end
section
/- The plain law of bags. -/
namespace Go.Fw.EqV
open Go.Fw Go.Fw.Gp

-- sizes
theorem few2_facts : ∀ {l : List Val}, few2 l = true → ∀ y ∈ l, y.s.size ≤ 200 ∧ y.l = []
  | [], _, y, hy => by simp at hy
  | v :: r, h, y, hy => by
    simp only [few2] at h
    split at h
    · cases h
    · rename_i hc
      simp only [iLt_def, Bool.or_eq_true, decide_eq_true_eq, not_or, Int.not_lt, Nat.not_lt, Nat.le_zero] at hc
      rcases List.mem_cons.1 hy with rfl | hy
      · exact ⟨by omega, List.eq_nil_of_length_eq_zero hc.2⟩
      · exact few2_facts h y hy
theorem fewL_facts : ∀ {l : List Val} {i : Nat}, fewL i l = true → i + l.length ≤ 100 → ∀ x ∈ l, x.s.size ≤ 200 ∧ x.l.length ≤ 30 ∧ few2 x.l = true
  | [], _, _, _, x, hx => by simp at hx
  | v :: r, i, h, hi, x, hx => by
    simp only [List.length_cons] at hi
    have c : iLt (i : Int) 100 = true := by rw [iLt_def]; simp; omega
    simp only [fewL, c, if_true] at h
    split at h
    · cases h
    · rename_i hc
      simp only [iLt_def, Bool.or_eq_true, decide_eq_true_eq, not_or, Int.not_lt] at hc
      split at h
      · rename_i h2
        rcases List.mem_cons.1 hx with rfl | hx
        · exact ⟨by omega, by omega, h2⟩
        · exact fewL_facts h (by omega) x hx
      · cases h
theorem few_facts {l : List Val} (h : fewB l 30 = true) : l.length ≤ 30 ∧ ∀ x ∈ l, x.s.size ≤ 200 ∧ x.l.length ≤ 30 ∧ ∀ y ∈ x.l, y.s.size ≤ 200 ∧ y.l = [] := by
  unfold fewB at h
  split at h
  · rename_i h1
    rw [iLe_def] at h
    have hl : l.length ≤ 30 := by simp at h; omega
    refine ⟨hl, fun x hx => ?_⟩
    obtain ⟨h2, h3, h4⟩ := fewL_facts h1 (by omega) x hx
    exact ⟨h2, h3, few2_facts h4⟩
  · cases h

-- alike
theorem sameL_self : ∀ {l : List Val}, (∀ y ∈ l, y.l = []) → sameL l l = true
  | [], _ => rfl
  | x :: r, h => by
    have h1 := h x (by simp)
    simp only [sameL, flatB, iEq_self, sEq_self, h1, Bool.and_eq_true]
    exact ⟨by simp, sameL_self fun y hy => h y (by simp [hy])⟩
theorem sameV_self {v : Val} (h : ∀ y ∈ v.l, y.l = []) : sameV v v = true := by
  simp [sameV, iEq_self, sEq_self, sameL_self h]

-- texts
theorem textL_eq : ∀ (a b : List UInt8), (match textL a b with | some c => c | none => if a.length < b.length then -1 else if b.length < a.length then 1 else 0) = Go.Lib.compareBytes a b
  | [], [] => by simp [textL, Go.Lib.compareBytes]
  | [], _ :: _ => by simp [textL, Go.Lib.compareBytes]
  | _ :: _, [] => by simp [textL, Go.Lib.compareBytes]
  | a :: x, b :: y => by
    have ih := textL_eq x y
    simp only [textL, Go.Lib.compareBytes, UInt8.lt_iff_toNat_lt, decide_eq_true_eq]
    by_cases h1 : a.toNat < b.toNat
    · simp [h1]
    · by_cases h2 : b.toNat < a.toNat
      · simp [h1, h2]
      · simp only [h1, h2, if_false, List.length_cons, Nat.add_lt_add_iff_right]
        exact ih
theorem textS_eq (a b : ByteArray) : textS a b = cmpS a b := by
  have sa : a.data.toList.length = a.size := by rw [Array.length_toList]; rfl
  have sb : b.data.toList.length = b.size := by rw [Array.length_toList]; rfl
  have := textL_eq a.data.toList b.data.toList
  unfold textS cmpS
  rw [sa, sb] at this
  rw [← this]
  cases textL a.data.toList b.data.toList <;> simp
theorem cmpS_self (a : ByteArray) : cmpS a a = 0 := by
  unfold cmpS
  generalize a.data.toList = l
  induction l with
  | nil => rfl
  | cons x l ih => simp [Go.Lib.compareBytes, ih, UInt8.lt_irrefl]
theorem cmpI_self (a : Int) : cmpI a a = 0 := by simp [cmpI, iLt_self]
theorem iEq_iff {a b : Int} : iEq a b = true ↔ a = b := by rw [iEq_def]; simp
theorem sEq_iff {a b : ByteArray} : sEq a b = true ↔ a = b := by rw [sEq_def]; simp

/-- What a formed value that is no bag looks like. -/
theorem plain_facts {v : Val} (h : plainB v = true) : v.l = [] ∧ (v.k = 3 ∨ v.s = ⟨#[]⟩) ∧ (v.k = 3 → v.i = 0) := by
  unfold plainB at h
  split at h
  · cases h
  · rename_i hc
    simp only [Bool.or_eq_true, decide_eq_true_eq, not_or, Nat.not_lt, Nat.le_zero, Bool.and_eq_true, Bool.not_eq_true', Bool.not_eq_false, not_and, Bool.not_eq_eq_eq_not, Bool.not_true] at hc
    refine ⟨List.eq_nil_of_length_eq_zero hc.1, ?_, ?_⟩
    · by_cases h3 : v.k = 3
      · exact .inl h3
      · right
        have := hc.2 (by rw [Bool.eq_false_iff, ne_eq, iEq_iff]; exact h3)
        exact sEq_iff.1 (by simpa using this)
    · intro h3
      have c0 : iEq v.k 0 = false := by rw [Bool.eq_false_iff, ne_eq, iEq_iff]; omega
      have c1 : iEq v.k 1 = false := by rw [Bool.eq_false_iff, ne_eq, iEq_iff]; omega
      have c2 : iEq v.k 2 = false := by rw [Bool.eq_false_iff, ne_eq, iEq_iff]; omega
      have c3 : iEq v.k 3 = true := iEq_iff.2 h3
      simp only [c0, c1, c2, c3, Bool.false_eq_true, if_false, if_true, Bool.and_eq_true] at h
      exact iEq_iff.1 h.1
theorem plain_one (v : Val) (h5 : v.k ≠ 5) : plainB v = oneB v := by
  unfold plainB oneB
  by_cases hl : 0 < v.l.length
  · simp [hl]
  · have e : ∀ n : Int, iEq v.k n = decide (v.k = n) := fun n => iEq_def _ _
    simp only [e, iLt_def, hl]
    by_cases c0 : v.k = 0
    · simp [c0]; try (cases sEq v.s ⟨#[]⟩ <;> simp <;> cases iEq v.i 0 <;> simp)
    · by_cases c1 : v.k = 1
      · simp [c1]; try (cases sEq v.s ⟨#[]⟩ <;> simp <;> cases iEq v.i 0 <;> simp)
      · by_cases c2 : v.k = 2
        · simp [c2]; try (cases sEq v.s ⟨#[]⟩ <;> simp)
        · by_cases c3 : v.k = 3
          · simp [c3]
          · by_cases c4 : v.k = 4
            · simp [c4]; try (cases sEq v.s ⟨#[]⟩ <;> simp)
            · have : v.k < 0 ∨ 4 < v.k := by omega
              rcases this with h | h
              · simp [c0, c1, c2, c3, c4, h]
              · simp [c0, c1, c2, c3, c4, h]
theorem orL3 (a b c : Int) : orL [a, b, c] = if a = 0 then (if b = 0 then c else b) else a := by
  simp only [orL, iEq_def]
  by_cases h1 : a = 0
  · by_cases h2 : b = 0
    · by_cases h3 : c = 0 <;> simp [h1, h2, h3]
    · simp [h1, h2]
  · simp [h1]
/-- Formed values of one kind, that are no bags: both orders are one. -/
theorem ord_single {x y : Val} (hx : plainB x = true) (hy : plainB y = true) (hk : x.k = y.k) : ordV x y = singleI x y := by
  obtain ⟨lx, sx, ix⟩ := plain_facts hx
  obtain ⟨ly, sy, iy⟩ := plain_facts hy
  cases x with
  | mk k i s l =>
    cases y with
    | mk k' i' s' l' =>
      simp only [Val.k, Val.i, Val.s, Val.l] at lx sx ix ly sy iy hk
      subst lx ly hk
      simp only [ordV, singleI, Val.k, Val.i, Val.s, ordL, iEq_self, Bool.not_true, Bool.false_eq_true, if_false, orL3, cmpI_self, if_true]
      by_cases h3 : k = 3
      · rw [ix h3, iy h3, cmpI_self]
        simp only [if_true, iEq_iff.2 h3, textS_eq, iEq_def]
        by_cases h0 : cmpS s s' = 0 <;> simp [h0]
      · have e3 : iEq k 3 = false := by rw [Bool.eq_false_iff, ne_eq, iEq_iff]; exact h3
        obtain rfl : s = ⟨#[]⟩ := by rcases sx with h | h; exact absurd h h3; exact h
        obtain rfl : s' = ⟨#[]⟩ := by rcases sy with h | h; exact absurd h h3; exact h
        simp only [cmpS_self, e3, Bool.false_eq_true, if_false, iEq_def]
        by_cases h0 : cmpI i i' = 0 <;> simp [h0]
theorem fmt_eq (k0 : Int) (h5 : k0 ≠ 5) : ∀ (l : List Val) (p : Option Val), (∀ y, p = some y → plainB y = true ∧ y.k = k0) → fmt plainB ordV k0 p l = fmt oneB singleI k0 p l
  | [], _, _ => rfl
  | x :: r, p, hp => by
    simp only [fmt]
    by_cases hk : x.k = k0
    · have e1 := plain_one x (by omega)
      rw [← e1]
      cases hpl : plainB x
      · simp
      · have ih := fmt_eq k0 h5 r (some x) (fun y e => by cases e; exact ⟨hpl, hk⟩)
        rw [ih]
        cases p with
        | none => rfl
        | some y =>
          obtain ⟨h1, h2⟩ := hp y rfl
          have e := ord_single h1 hpl (by omega)
          simp only [e]
    · have : iEq x.k k0 = false := by rw [Bool.eq_false_iff, ne_eq, iEq_iff]; exact hk
      simp [this]
theorem fmt_five {f : Val → Bool} {o : Val → Val → Int} (hf : ∀ v, v.k = 5 → f v = false) {x : Val} {r : List Val} (h : x.k = 5) : fmt f o 5 none (x :: r) = false := by
  simp [fmt, hf x h]
theorem plain_five (v : Val) (h : v.k = 5) : plainB v = false := by
  unfold plainB
  have e : ∀ n : Int, iEq v.k n = decide ((5 : Int) = n) := fun n => by rw [iEq_def, h]
  simp [e]
theorem one_five (v : Val) (h : v.k = 5) : oneB v = false := by
  unfold oneB
  have : iLt 4 v.k = true := by rw [iLt_def, h]; rfl
  simp [this]
theorem formed_ref (v : Val) : formedV v = formedR v := by
  unfold formedV formedR
  by_cases h : v.k = 5
  · have e : iEq v.k 5 = true := iEq_iff.2 h
    simp only [e, Bool.not_true, Bool.false_eq_true, if_false]
    have key : fmt plainB ordV (headK v.l) none v.l = fmt oneB singleI (headK v.l) none v.l := by
      cases hl : v.l with
      | nil => rfl
      | cons x r =>
        by_cases h5 : x.k = 5
        · show fmt plainB ordV x.k none (x :: r) = fmt oneB singleI x.k none (x :: r)
          rw [h5, fmt_five plain_five h5, fmt_five one_five h5]
        · exact fmt_eq x.k h5 (x :: r) none (by simp)
    rw [key]
    cases fmt oneB singleI (headK v.l) none v.l
    · simp
    · have e : iLe (v.l.length : Int) 16 = !iLt 16 (v.l.length : Int) := by
        rw [iLe_def, iLt_def, ← decide_not]
        simp only [Int.not_lt]
      rw [e]
      generalize iLt 16 (v.l.length : Int) = b
      cases iEq v.i 0 <;> cases sEq v.s ⟨#[]⟩ <;> cases b <;> rfl
  · have e : iEq v.k 5 = false := by rw [Bool.eq_false_iff, ne_eq, iEq_iff]; exact h
    simp [e, plain_one v h]
end Go.Fw.EqV
end
section
/- The library's own contracts, laid at this seat (written by the kit's lay-plain.mjs). -/
namespace Go.Proofs
open Go.Shelf
def Try.sortV_ren : Go.Shelf.Ren := ⟨fun | 6 => 14 | 15 => 26 | 14 => 25 | 28 => 42 | 29 => 43 | 20 => 34 | 21 => 35 | 22 => 36 | 23 => 37 | 24 => 38 | 25 => 39 | 26 => 40 | 27 => 41 | 46 => 47 | 47 => 48 | 48 => 49 | 49 => 50 | 50 => 51 | 57 => 53 | n => n, fun | 22 => 22 | 24 => 26 | 25 => 38 | 3 => 3 | 39 => 47 | 0 => 0 | 53 => 62 | 55 => 64 | 4 => 4 | 46 => 55 | 45 => 54 | 50 => 59 | 5 => 5 | 9 => 9 | 66 => 68 | 70 => 72 | 76 => 74 | 77 => 75 | n => n, fun | n => n⟩
theorem Try.sortV : Go.Proofs.SlLaysF0.n6 Try.prog Try.sortV_ren := {
  mixed := by kernel_rfl
  f6 := ⟨Try.f14.name, by decide, Try.func14.trans (congrArg some (by kernel_rfl))⟩
  f14 := ⟨Try.f25.name, by decide, Try.func25.trans (congrArg some (by kernel_rfl))⟩
  f15 := Try.func26.trans (congrArg some (by kernel_rfl))
  f20 := ⟨Try.f34.name, by decide, Try.func34.trans (congrArg some (by kernel_rfl))⟩
  f21 := ⟨Try.f35.name, by decide, Try.func35.trans (congrArg some (by kernel_rfl))⟩
  f22 := ⟨Try.f36.name, by decide, Try.func36.trans (congrArg some (by kernel_rfl))⟩
  f23 := ⟨Try.f37.name, by decide, Try.func37.trans (congrArg some (by kernel_rfl))⟩
  f24 := ⟨Try.f38.name, by decide, Try.func38.trans (congrArg some (by kernel_rfl))⟩
  f25 := ⟨Try.f39.name, by decide, Try.func39.trans (congrArg some (by kernel_rfl))⟩
  f26 := ⟨Try.f40.name, by decide, Try.func40.trans (congrArg some (by kernel_rfl))⟩
  f27 := ⟨Try.f41.name, by decide, Try.func41.trans (congrArg some (by kernel_rfl))⟩
  f28 := Try.func42.trans (congrArg some (by kernel_rfl))
  f29 := Try.func43.trans (congrArg some (by kernel_rfl))
  f46 := ⟨Try.f47.name, by decide, Try.func47.trans (congrArg some (by kernel_rfl))⟩
  f47 := Try.func48.trans (congrArg some (by kernel_rfl))
  f48 := Try.func49.trans (congrArg some (by kernel_rfl))
  f49 := ⟨Try.f50.name, by decide, Try.func50.trans (congrArg some (by kernel_rfl))⟩
  f50 := ⟨Try.f51.name, by decide, Try.func51.trans (congrArg some (by kernel_rfl))⟩
  f57 := ⟨Try.f53.name, by decide, Try.func53.trans (congrArg some (by kernel_rfl))⟩
  t0 := Try.underlying0
  a0 := Try.isAgg0
  z0 := Try.sizeOf0
  v0 := Try.zeroValue0
  t3 := Try.underlying3
  a3 := Try.isAgg3
  z3 := Try.sizeOf3
  v3 := Try.zeroValue3
  t4 := Try.underlying4
  a4 := Try.isAgg4
  z4 := Try.sizeOf4
  v4 := Try.zeroValue4
  t5 := Try.underlying5
  a5 := Try.isAgg5
  z5 := Try.sizeOf5
  v5 := Try.zeroValue5
  t9 := Try.underlying9
  a9 := Try.isAgg9
  z9 := Try.sizeOf9
  v9 := Try.zeroValue9
  t22 := Try.underlying22
  a22 := Try.isAgg22
  z22 := Try.sizeOf22
  v22 := Try.zeroValue22
  t25 := Try.underlying38
  a25 := Try.isAgg38
  z25 := Try.sizeOf38
  v25 := Try.zeroValue38
  t39 := Try.underlying47
  a39 := Try.isAgg47
  z39 := Try.sizeOf47
  v39 := Try.zeroValue47
  t45 := Try.underlying54
  a45 := Try.isAgg54
  z45 := Try.sizeOf54
  v45 := Try.zeroValue54
  t46 := Try.underlying55
  a46 := Try.isAgg55
  z46 := Try.sizeOf55
  v46 := Try.zeroValue55
  t50 := Try.underlying59
  a50 := Try.isAgg59
  z50 := Try.sizeOf59
  v50 := Try.zeroValue59
  t53 := Try.underlying62
  a53 := Try.isAgg62
  z53 := Try.sizeOf62
  v53 := Try.zeroValue62
  t55 := Try.underlying64
  a55 := Try.isAgg64
  z55 := Try.sizeOf64
  v55 := Try.zeroValue64
  t66 := Try.underlying68
  a66 := Try.isAgg68
  z66 := Try.sizeOf68
  v66 := Try.zeroValue68
  t70 := Try.underlying72
  a70 := Try.isAgg72
  z70 := Try.sizeOf72
  v70 := Try.zeroValue72
  t76 := Try.underlying74
  a76 := Try.isAgg74
  z76 := Try.sizeOf74
  v76 := Try.zeroValue74
  t77 := Try.underlying75
  a77 := Try.isAgg75
  z77 := Try.sizeOf75
  v77 := Try.zeroValue75 }
def Try.cloneV_ren : Go.Shelf.Ren := ⟨fun | 41 => 13 | n => n, fun | 22 => 22 | 23 => 26 | 4 => 4 | n => n, fun | n => n⟩
theorem Try.cloneV : Go.Proofs.SlLaysE0.n41 Try.prog Try.cloneV_ren := {
  mixed := by kernel_rfl
  f41 := ⟨Try.f13.name, by decide, Try.func13.trans (congrArg some (by kernel_rfl))⟩
  t4 := Try.underlying4
  a4 := Try.isAgg4
  z4 := Try.sizeOf4
  v4 := Try.zeroValue4
  t22 := Try.underlying22
  a22 := Try.isAgg22
  z22 := Try.sizeOf22
  v22 := Try.zeroValue22 }
end Go.Proofs
end
section
/- slices.CompactFunc at elements of k cells, 'eq' a function that may lay blocks. -/
namespace Go.Fw.CompK
open Go Go.Proofs Go.Shelf Go.RowKit Go.Lib Go.Sort
variable {α : Type} [Inhabited α]

/-- A place stays: it is the first, or not alike to the one ahead of it. -/
def stays (e : α → α → Bool) (d : Array α) (j : Nat) : Bool := decide (j = 0) || !e d[j]! d[j - 1]!
def upTo (e : α → α → Bool) (d : Array α) (m : Nat) : List α := ((List.range m).filter (stays e d)).map (d[·]!)
variable {e : α → α → Bool}
theorem stays_one (d : Array α) : ∀ j, j < 1 → stays e d j = true := by
  intro j hj
  have : j = 0 := by omega
  subst this; rfl
theorem stays_pos {d : Array α} {m : Nat} (h : e d[m]! d[m - 1]! = false) : stays e d m = true := by simp [stays, h]
theorem stays_neg {d : Array α} {m : Nat} (hm : 0 < m) (h : e d[m]! d[m - 1]! = true) : stays e d m = false := by
  have : m ≠ 0 := by omega
  simp [stays, h, this]
theorem upTo_succ (d : Array α) (m : Nat) : upTo e d (m + 1) = upTo e d m ++ (if stays e d m then [d[m]!] else []) := by
  unfold upTo
  rw [List.range_succ, List.filter_append, List.map_append]
  congr 1
  by_cases h : stays e d m <;> simp [h]
theorem upTo_all (d : Array α) (m : Nat) (h : ∀ j, j < m → stays e d j = true) : upTo e d m = (List.range m).map (d[·]!) := by
  unfold upTo
  rw [List.filter_eq_self.2 (fun j hj => h j (List.mem_range.1 hj))]
structure CInv (e : α → α → Bool) (d : Array α) (m k : Nat) (dk : Array α) : Prop where
  size : dk.size = d.size
  len : (upTo e d m).length = k
  lt : k < m
  low : ∀ j, j < k → (upTo e d m)[j]? = some dk[j]!
  high : ∀ j, k ≤ j → dk[j]! = d[j]!
theorem CInv.start {d : Array α} {k0 : Nat} (hall : ∀ j, j < k0 → stays e d j = true) (hdup : stays e d k0 = false) : CInv e d (k0 + 1) k0 d where
  size := rfl
  len := by rw [upTo_succ, hdup, upTo_all d k0 hall]; simp
  lt := Nat.lt_succ_self _
  low := fun j hj => by rw [upTo_succ, hdup, upTo_all d k0 hall]; simp [hj]
  high := fun _ _ => rfl
theorem CInv.keep {d dk : Array α} {m k : Nat} (h : CInv e d m k dk) (hm : m < d.size) (hk : stays e d m = true) : CInv e d (m + 1) (k + 1) (dk.setIfInBounds k d[m]!) where
  size := by simp [h.size]
  len := by rw [upTo_succ, hk]; simp [h.len]
  lt := by have := h.lt; omega
  low := fun j hj => by
    rw [upTo_succ, hk, if_pos rfl]
    by_cases e : j = k
    · subst e
      rw [List.getElem?_append_right (by rw [h.len]; exact Nat.le_refl _), h.len, Nat.sub_self, getElem!_set_same dk j _ (by have := h.lt; have := h.size; omega)]
      rfl
    · rw [List.getElem?_append_left (by rw [h.len]; omega), h.low j (by omega), getElem!_set_other dk k j _ e]
  high := fun j hj => by rw [getElem!_set_other dk k j _ (by omega), h.high j (by omega)]
theorem CInv.skip {d dk : Array α} {m k : Nat} (h : CInv e d m k dk) (hk : stays e d m = false) : CInv e d (m + 1) k dk where
  size := h.size
  len := by rw [upTo_succ, hk]; simpa using h.len
  lt := by have := h.lt; omega
  low := fun j hj => by rw [upTo_succ, hk]; simpa using h.low j hj
  high := h.high

/-- One element laid into the row. -/
theorem setMany_set (enc : α → List Value) (k : Nat) (hk : ∀ x, (enc x).length = k) (d : Array α) (i : Nat) (y : α) (hi : i < d.size) :
    setMany (flatK enc k d) (i * k) (enc y) = flatK enc k (d.setIfInBounds i y) := by
  refine ext_get! (by simp) fun t ht => ?_
  have ht' : t < d.size * k := by simpa using ht
  have k0 : 0 < k := by
    rcases Nat.eq_zero_or_pos k with h | h
    · subst h; simp at ht'
    · exact h
  rw [get_setMany _ _ _ t (by simpa using ht'), get_flatK _ _ _ t ht', get_flatK _ _ _ t (by simpa using ht'), hk]
  by_cases b : t / k = i
  · rw [if_pos ((blk_iff k i t k0).2 b), b, getElem!_set_same d i y hi]
    congr 1
    subst b; rw [Nat.mod_eq_sub_div_mul]
  · rw [if_neg (fun h => b ((blk_iff k i t k0).1 h)), getElem!_set_other d i _ y b]
variable {enc : α → List Value} {k : Nat} {w0 W : World} {blk off : Nat} {dk : Array α}
theorem swk_set (h : SWK enc k w0 blk off dk W) (hk : ∀ x, (enc x).length = k) (hblk : blk < w0.heap.size) (i : Nat) (y : α) (hi : i < dk.size) :
    SWK enc k w0 blk off (dk.setIfInBounds i y) (W.setCells blk (off + i * k) (enc y)) := by
  obtain ⟨n, os, rfl⟩ := h
  refine ⟨n, os, ?_⟩
  unfold sortWorldK
  rw [setCells_grow os blk _ _ _ (by rw [size_putRowK]; exact hblk)]
  congr 1
  unfold putRowK
  rw [setCells_putRow _ _ _ _ _ _ (by rw [hk, size_flatK]; exact rowK_bnd dk k i hi), setMany_set enc k hk dk i y hi]
theorem swk_st {d0 : Array α} (h : SWK enc k w0 blk off dk W) (R : RowK enc k w0 blk off d0) (hs : dk.size = d0.size) (P : Program) (i : Nat) (hi : i < dk.size) (y : α) :
    Sem.run P (storeCells ⟨blk, off + i * k, none⟩ (enc y) 0) W = .ok () (W.setCells blk (off + i * k) (enc y)) :=
  stores_of_holds P (h.holds R.hblk R.hH hs) (i * k) _ (by rw [R.hk, size_flatK]; exact rowK_bnd dk k i hi) (R.h1 _)

/-- What is asked of 'eq'. -/
def EqLays (P : Program) (g : Nat) (cb : Array Value) (enc : α → List Value) (k : Nat) (ef : α → α → Bool) (blk off size : Nat) (w : World) : Prop :=
  ∀ (m : Nat) (os : Array Obj) (dk : Array α), dk.size = size → ∀ x y : α,
    Calls P g (#[.agg (enc x).toArray, .agg (enc y).toArray] ++ cb) (sortWorldK enc k w blk off m dk os) fun e w' => e = .returned (.bool (ef x y)) ∧ ∃ q os', w' = grow ((sortWorldK enc k w blk off m dk os).drewN q) os'
theorem swk_eq {P : Program} {g : Nat} {cb : Array Value} {ef : α → α → Bool} {size : Nat} (h : SWK enc k w0 blk off dk W) (hC : EqLays P g cb enc k ef blk off size w0) (hs : dk.size = size) (x y : α) (n : Nat) (os : Array Obj) :
    Calls P g (#[.agg (enc x).toArray, .agg (enc y).toArray] ++ cb) (grow (W.drewN n) os) fun e w' => e = .returned (.bool (ef x y)) ∧ ∃ q os', w' = grow ((grow (W.drewN n) os).drewN q) os' := by
  obtain ⟨m, os0, hw⟩ := h.grown n os
  rw [hw]
  exact hC m os0 dk hs x y

theorem run_clear_K {P : Program} (w : World) (t e ty : TypeId) (z : Value) (ht : P.underlying t = some (.slice e)) (hv : ∀ w, (zeroValue e).run P w = .ok z w) (b o n c : Nat) (hn : 0 < n) (vs : List Value) (hvs : (Builtin.zeroCells z.cells n).toList = vs)
    (hst : (storeCells ⟨b, o, none⟩ vs 0).run P w = .ok () (w.setCells b o vs)) :
    (Builtin.clear_ #[t] ty #[.slice (some ⟨b, o, none⟩) n c]).run P w = .ok (.tuple #[]) (w.setCells b o vs) := by
  obtain ⟨m, rfl⟩ : ∃ m, n = m + 1 := ⟨n - 1, by omega⟩
  simp [Builtin.clear_, run_underlying ht, hv, hvs, hst]

set_option maxHeartbeats 4000000 in
set_option maxRecDepth 1000000 in
theorem compactFunc {P : Program} (mixed : P.follows .mixedOrders = true) (fn : P.funcs[16]? = some Try.f16) (t22 : P.underlying 22 = some (.slice 26)) (a22 : ∀ w, (isAgg 22).run P w = .ok false w) (z22 : ∀ w, (Go.sizeOf 22).run P w = .ok 1 w) (v22 : ∀ w, (zeroValue 22).run P w = .ok (.slice none 0 0) w)
    (t3 : P.underlying 3 = some (.int .i64)) (a3 : ∀ w, (isAgg 3).run P w = .ok false w) (z3 : ∀ w, (Go.sizeOf 3).run P w = .ok 1 w) (v3 : ∀ w, (zeroValue 3).run P w = .ok (.int .i64 0) w)
    (t4 : P.underlying 4 = some .bool) (a4 : ∀ w, (isAgg 4).run P w = .ok false w) (z4 : ∀ w, (Go.sizeOf 4).run P w = .ok 1 w) (v4 : ∀ w, (zeroValue 4).run P w = .ok (.bool false) w)
    (a26 : ∀ w, (isAgg 26).run P w = .ok true w) (z26 : ∀ w, (Go.sizeOf 26).run P w = .ok k w) (zv : Value) (v26 : ∀ w, (zeroValue 26).run P w = .ok zv w) (hz : zv.cells.size = k) (hz1 : ∀ v ∈ zv.cells.toList, v.oneCell' = true)
    (ef : α → α → Bool) (g : Nat) (cb : Array Value) (cap : Nat) (d : Array α) (w : World)
    (eg : ∀ args w, (callFunc g args).run P w = .ok (.enter g args) w) (hC : EqLays P g cb enc k ef blk off d.size w) (R : RowK enc k w blk off d) (hk0 : 0 < k) (hsz : d.size < 4611686018427387904) (hcap : d.size ≤ cap) :
    Calls P 16 #[.slice (some ⟨blk, off, none⟩) d.size cap, .func (.func g) #[] cb] w fun e' w' =>
      e' = .returned (.slice (some ⟨blk, off, none⟩) (upTo ef d d.size).length cap) ∧
        ∃ W1 dk x vs, SWK enc k w blk off dk W1 ∧ dk.size = d.size ∧ w' = W1.setCells blk x vs ∧ off + (upTo ef d d.size).length * k ≤ x ∧ ∀ j, j < (upTo ef d d.size).length → (upTo ef d d.size)[j]? = some dk[j]! := by
  have u22 : ∀ w, Sem.run P (underlying 22) w = .ok (TypeDesc.slice 26) w := run_underlying t22
  have S0 : SWK enc k w blk off d w := .start R.hH
  have same : (∀ j, j < d.size → stays ef d j = true) → ∀ W, SWK enc k w blk off d W → (upTo ef d d.size).length = d.size ∧ ∃ W1 dk x vs, SWK enc k w blk off dk W1 ∧ dk.size = d.size ∧ W = W1.setCells blk x vs ∧ off + (upTo ef d d.size).length * k ≤ x ∧ ∀ j, j < (upTo ef d d.size).length → (upTo ef d d.size)[j]? = some dk[j]! := by
    intro hall W hW
    have e1 := upTo_all (e := ef) d d.size hall
    have e2 : (upTo ef d d.size).length = d.size := by rw [e1]; simp
    refine ⟨e2, W, d, off + (upTo ef d d.size).length * k, [], hW, rfl, rfl, Nat.le_refl _, fun j hj => ?_⟩
    rw [e2] at hj
    rw [e1]; simp [hj]
  have HS : Aside _ := same
  have HC : Aside _ := hC
  clear same hC
  by_cases h2 : d.size < 2
  · clear S0 HC
    have h2z : (d.size : Int) < 2 := by omega
    go_enter fn, Try.ntmps16
    go_wp2
    go_ret
    obtain ⟨e1, e2⟩ := HS.out (fun j hj => stays_one d j (by omega)) w (.start R.hH)
    exact ⟨by rw [e1]; rfl, e2⟩
  · have h2z : ¬ (d.size : Int) < 2 := by omega
    go_enter fn, Try.ntmps16
    go_wp2
    go_loopg [5] d.size (fun g s5 wr => ∃ kk : Nat, 1 ≤ kk ∧ kk ≤ d.size ∧ d.size - kk ≤ g ∧ s5 = .int .i64 kk ∧ Aside (SWK enc k w blk off d wr) ∧ Aside (∀ j, j < kk → stays ef d j = true))
    case atStart => exact ⟨1, Nat.le_refl _, by omega, by omega, rfl, S0, stays_one d⟩
    case round =>
      clear S0
      obtain ⟨kk, hk1, hk, hg, rfl, S1, hall⟩ := hrel
      by_cases hlt : kk < d.size
      · have hltz : (kk : Int) < (d.size : Int) := by omega
        obtain ⟨km, rfl⟩ : ∃ km, kk = km + 1 := ⟨kk - 1, by omega⟩
        obtain ⟨x, hx⟩ : ∃ x, x = d[km + 1]! := ⟨_, rfl⟩
        obtain ⟨y, hy⟩ : ∃ x, x = d[km]! := ⟨_, rfl⟩
        have l1 := S1.out.ld R rfl P (km + 1) (by omega)
        have l2 := S1.out.ld R rfl P km (by omega)
        rw [← hx] at l1
        rw [← hy] at l2
        have hc := swk_eq S1.out HC.out rfl x y
        have B : Aside (x = d[km + 1]! ∧ y = d[km]!) := ⟨hx, hy⟩
        clear hx hy
        have ra : IntKind.i64.wrap (km : Int) = (km : Int) := by rw [IntKind.wrap_i64]; omega
        have rb : IntKind.i64.wrap ((km : Int) + 1) = (km : Int) + 1 := by rw [IntKind.wrap_i64]; omega
        have rc : IntKind.i64.wrap ((km : Int) + 1 + 1) = (km : Int) + 1 + 1 := by rw [IntKind.wrap_i64]; omega
        have e0 : ((km : Int) + 1).toNat = km + 1 := by omega
        have p0 : (0 : Int) ≤ (km : Int) + 1 := by omega
        have p1 : (km : Int) < (d.size : Int) := by omega
        cases hdup : ef x y with
        | true =>
          rw [hdup] at hc
          go_wp2_with fail
          go_quiet_grown (first | (go_at_fn g; refine Calls.grown_of (hc _ _)))
          have S2 : Aside (SWK enc k w blk off d (grow (wr.drewN nq) osq)) := S1.out.grown nq osq
          clear l1 l2 hc S1
          generalize grow (wr.drewN nq) osq = w2 at S2 ⊢
          clear nq osq
          go_wp2_with fail
          go_loopg [5, 7] d.size (fun g s5 s7 wr => ∃ (kk k2 : Nat) (dk : Array α), s5 = .int .i64 kk ∧ s7 = .int .i64 k2 ∧ 1 ≤ k2 ∧ km + 1 + k2 ≤ d.size ∧ d.size - (km + 1 + k2) ≤ g ∧ Aside (SWK enc k w blk off dk wr) ∧ Aside (CInv ef d (km + 1 + k2) kk dk))
          case atStart => exact ⟨km + 1, 1, d, by go_num, rfl, Nat.le_refl _, by omega, by omega, S2, CInv.start hall.out (stays_neg (by omega) (by rw [← B.out.1, show km + 1 - 1 = km from rfl, ← B.out.2]; exact hdup))⟩
          case round =>
            clear S2
            obtain ⟨kk, k2, dk, rfl, rfl, h1, hle, hg2, S3, HI⟩ := hrel
            have hkk := HI.out.lt
            have hds := HI.out.size
            by_cases hlt2 : km + 1 + k2 < d.size
            · obtain ⟨kp, rfl⟩ : ∃ kp, k2 = kp + 1 := ⟨k2 - 1, by omega⟩
              obtain ⟨x2, hx⟩ : ∃ x, x = dk[km + 1 + (kp + 1)]! := ⟨_, rfl⟩
              obtain ⟨y2, hy⟩ : ∃ x, x = dk[km + 1 + kp]! := ⟨_, rfl⟩
              have l1 := S3.out.ld R hds P (km + 1 + (kp + 1)) (by omega)
              have l2 := S3.out.ld R hds P (km + 1 + kp) (by omega)
              rw [← hx, show off + (km + 1 + (kp + 1)) * k = off + (km + 1) * k + (kp + 1) * k by rw [Nat.add_mul]; omega] at l1
              rw [← hy, show off + (km + 1 + kp) * k = off + (km + 1) * k + kp * k by rw [Nat.add_mul (km + 1)]; omega] at l2
              have hc := swk_eq S3.out HC.out hds x2 y2
              have B2 : Aside (x2 = d[km + 1 + (kp + 1)]! ∧ y2 = d[km + 1 + (kp + 1) - 1]!) := ⟨hx.trans (HI.out.high _ (by omega)), by rw [hy, HI.out.high _ (by omega)]; rfl⟩
              clear hx hy
              have rd : IntKind.i64.wrap (kp : Int) = (kp : Int) := by rw [IntKind.wrap_i64]; omega
              have re : IntKind.i64.wrap ((kp : Int) + 1) = (kp : Int) + 1 := by rw [IntKind.wrap_i64]; omega
              have rf : IntKind.i64.wrap ((kp : Int) + 1 + 1) = (kp : Int) + 1 + 1 := by rw [IntKind.wrap_i64]; omega
              have e1 : ((kp : Int) + 1).toNat = kp + 1 := by omega
              have q0 : (0 : Int) ≤ (kp : Int) + 1 := by omega
              have q1 : (kp : Int) + 1 < ((d.size - (km + 1) : Nat) : Int) := by omega
              have q2 : (kp : Int) < ((d.size - (km + 1) : Nat) : Int) := by omega
              cases hdup2 : ef x2 y2 with
              | true =>
                rw [hdup2] at hc
                go_wp2_with fail
                go_quiet_grown (first | (go_at_fn g; refine Calls.grown_of (hc _ _)))
                have S4 : Aside (SWK enc k w blk off dk (grow (wr.drewN nq) osq)) := S3.out.grown nq osq
                clear l1 l2 hc S3
                generalize grow (wr.drewN nq) osq = w3 at S4 ⊢
                clear nq osq
                go_wp2
                go_roundg (d.size - (km + 1 + (kp + 1 + 1)))
                case measure => omega
                case rel => exact ⟨kk, kp + 1 + 1, dk, rfl, by go_num, by omega, by omega, Nat.le_refl _, S4, HI.out.skip (stays_neg (by omega) (by rw [← B2.out.1, ← B2.out.2]; exact hdup2))⟩
              | false =>
                rw [hdup2] at hc
                go_wp2_with fail
                go_quiet_grown (first | (go_at_fn g; refine Calls.grown_of (hc _ _)))
                have S4 : Aside (SWK enc k w blk off dk (grow (wr.drewN nq) osq)) := S3.out.grown nq osq
                clear l1 l2 hc S3
                generalize grow (wr.drewN nq) osq = w3 at S4 ⊢
                clear nq osq
                have l3 := S4.out.load R hds P (km + 1 + (kp + 1)) (by omega)
                have s3 := swk_st S4.out R hds P kk (by omega) x2
                have S5 : Aside (SWK enc k w blk off (dk.setIfInBounds kk x2) (w3.setCells blk (off + kk * k) (enc x2))) := swk_set S4.out R.hk R.hblk kk x2 (by omega)
                rw [show dk[km + 1 + (kp + 1)]! = x2 from by rw [HI.out.high _ (by omega)]; exact B2.out.1.symm, show off + (km + 1 + (kp + 1)) * k = off + (km + 1) * k + (kp + 1) * k by rw [Nat.add_mul]; omega] at l3
                have n3 : (enc x2).length = k := R.hk _
                have I5 : Aside (CInv ef d (km + 1 + (kp + 1) + 1) (kk + 1) (dk.setIfInBounds kk x2)) := by
                  have := HI.out.keep hlt2 (stays_pos (by rw [← B2.out.1, ← B2.out.2]; exact hdup2))
                  rw [← B2.out.1] at this
                  exact this
                have e5 : ((kk : Int)).toNat = kk := by omega
                have q5 : (0 : Int) ≤ (kk : Int) := by omega
                have q6 : (kk : Int) < (d.size : Int) := by omega
                have rg : IntKind.i64.wrap ((kk : Int) + 1) = (kk : Int) + 1 := by rw [IntKind.wrap_i64]; omega
                generalize enc x2 = c3 at l3 s3 S5 n3
                clear S4
                go_wp2
                go_roundg (d.size - (km + 1 + (kp + 1 + 1)))
                case measure => omega
                case rel => exact ⟨kk + 1, kp + 1 + 1, dk.setIfInBounds kk x2, by go_num, by go_num, by omega, by omega, Nat.le_refl _, S5, I5⟩
            · have hend : km + 1 + k2 = d.size := by omega
              have hn : 0 < d.size - kk := by omega
              have hsz2 : (Builtin.zeroCells zv.cells (d.size - kk)).size = (d.size - kk) * k := by rw [← hz]; simp [Builtin.zeroCells]
              obtain ⟨vs, hvs⟩ : ∃ vs, vs = (Builtin.zeroCells zv.cells (d.size - kk)).toList := ⟨_, rfl⟩
              have hvl : vs.length = (d.size - kk) * k := by rw [hvs]; simpa using hsz2
              have hv1 : ∀ v ∈ vs, v.oneCell' = true := by
                intro v hv
                rw [hvs] at hv
                simp only [Builtin.zeroCells, Array.toList_map, List.mem_map] at hv
                obtain ⟨q, hq, rfl⟩ := hv
                have hlt : q % zv.cells.size < zv.cells.size := Nat.mod_lt _ (by omega)
                rw [getElem!_pos zv.cells _ hlt]
                exact hz1 _ (by simp)
              have hst : Sem.run P (storeCells ⟨blk, off + kk * k, none⟩ vs 0) wr = .ok () (wr.setCells blk (off + kk * k) vs) :=
                stores_of_holds P (S3.out.holds R.hblk R.hH hds) (kk * k) _ (by rw [hvl, size_flatK, hds, ← Nat.add_mul]; exact Nat.mul_le_mul_right k (by omega)) hv1
              have hcl : ∀ ty c, (Builtin.clear_ #[22] ty #[.slice (some ⟨blk, off + kk * k, none⟩) (d.size - kk) c]).run P wr = .ok (.tuple #[]) (wr.setCells blk (off + kk * k) vs) :=
                fun ty c => run_clear_K wr 22 26 ty zv t22 v26 blk (off + kk * k) (d.size - kk) c hn vs hvs.symm hst
              have e5 : ((kk : Int)).toNat = kk := by omega
              have q5 : (0 : Int) ≤ (kk : Int) := by omega
              have q6 : (kk : Int) < (d.size : Int) := by omega
              have ltz : ¬ (k2 : Int) < ((d.size - (km + 1) : Nat) : Int) := by omega
              clear hvs hst hv1
              go_wp2
              go_ret
              have hI := HI.out
              rw [hend] at hI
              refine ⟨by rw [hI.len]; rfl, wr, dk, S3.out, hds, _, ⟨_, rfl⟩, by rw [hI.len]; exact Nat.le_refl _, fun j hj => hI.low j (by rw [← hI.len]; exact hj)⟩
        | false =>
          rw [hdup] at hc
          go_wp2_with fail
          go_quiet_grown (first | (go_at_fn g; refine Calls.grown_of (hc _ _)))
          have S2 : Aside (SWK enc k w blk off d (grow (wr.drewN nq) osq)) := S1.out.grown nq osq
          clear l1 l2 hc S1
          generalize grow (wr.drewN nq) osq = w2 at S2 ⊢
          clear nq osq
          go_wp2
          go_roundg (d.size - (km + 1 + 1))
          case measure => omega
          case rel =>
            refine ⟨km + 1 + 1, by omega, by omega, Nat.le_refl _, by go_num, S2, fun j hj => ?_⟩
            by_cases e : j = km + 1
            · subst e
              exact stays_pos (by rw [← B.out.1, show km + 1 - 1 = km from rfl, ← B.out.2]; exact hdup)
            · exact hall.out j (by omega)
      · have hltz : ¬ (kk : Int) < (d.size : Int) := by omega
        have : kk = d.size := by omega
        subst this
        go_wp2
        go_ret
        obtain ⟨e1, W1, dk, x, vs, q1, q2, q3, q4, q5⟩ := HS.out hall.out _ S1.out
        exact ⟨by rw [e1]; rfl, W1, dk, q1, q2, x, ⟨vs, q3⟩, q4, q5⟩
end Go.Fw.CompK
end
