/- Proved: gatepostlaw02.ValueBags returns true for every input, and the input reads behind the call as it read before; condition: none but the row's own cells. -/
import Derived.Test.YtalkelaaimkhnaaFj
import Derived.WalkSpells
import Derived.Test.YtalkelaaimkhnaaRows
import Derived.WalkKit
import Derived.ProofKit
import Derived.OpenShut
set_option linter.all false
section
/- Clone, sort, compact: the middle of value.Bag, said of worlds. -/
set_option maxRecDepth 100000
namespace Go.Fw.EqV
open Go Go.Fw Go.Fw.Ir Go.Fw.Gp Go.Proofs Go.Shelf Go.RowKit Go.Sort Go.Fw.CompK
attribute [local congr] cg_selB cg_bind cg_map cg_andThen cg_denL cg_condL cg_runOps cg_stepOp cg_gate
variable {Ω : Type} {O : OpqSem Ω} {T : Nat → Option (Ent Ω)} {P : Program}
set_option maxHeartbeats 4000000
set_option linter.all false

/-- 'Order(a, b) == 0' -/
theorem bag1_eq (h : OrdFns T) (h17 : T f_value_Bag_c1 = some (.fn ir_value_Bag_c1)) (a b : Val) (ha : Small a) (S : List (Fr Ω)) :
    G T f_value_Bag_c1 [.agg (encV a), .agg (encV b)] S = some (.sc (.bool (iEq (ordV a b) 0)), none, S) := by
  have e1 := fun S => order_eq h _ a (Nat.le_refl _) ha b S
  simp only [encV_eq] at e1
  rw [G_fn T h17]
  repeat' (first
    | (rw [nLe_yes]; rotate_left; focus ((try simp only [List.length_append, List.length_take, List.length_drop, List.length_cons, List.length_nil, encVs_length, encVs]); omega))
    | (rw [gate_mt]; split)
    | (rw [gate_mf]; split)
    | (rw [condL_m]; split)
    | (simp -implicitDefEqProofs only [go_sem, initFS, number, Nat.reduceAdd, ir_value_Bag_c1, *]))

/-- The copy, handed over. -/
def ir_cloneG : IFunc := { ir_slices_Clone_api_Value with gives := true }
theorem chk_cloneG : FnChk Go.Proofs.Try.prog noRO f_slices_Clone_api_Value ir_cloneG := .of Go.Proofs.Try.func13 (by kernel_rfl)
theorem clone_eq (h13 : T f_slices_Clone_api_Value = some (.fn ir_cloneG)) (x : List PV) (r : List (List PV)) (hl : (x :: r).length ≤ 30) (S : List (Fr Ω)) :
    G T f_slices_Clone_api_Value [.sl .no 4 (x :: r)] S = some (.sl .own 4 (x :: r), none, S) := by
  have en : eqnilsP false (.sl .no 4 (x :: r)) = some (.sc (.bool false)) := rfl
  have hb : nLe ((r.length + 1) * 56) maxBytes = true := by
    simp only [nLe, maxBytes, decide_eq_true_eq]
    simp only [List.length_cons] at hl
    omega
  rw [G_fn T h13]
  repeat' (first
    | (rw [nLe_yes]; rotate_left; focus ((try simp only [List.length_append, List.length_take, List.length_drop, List.length_cons, List.length_nil, encVs_length, encVs]); omega))
    | (rw [gate_mt]; split)
    | (rw [gate_mf]; split)
    | (rw [condL_m]; split)
    | (simp -implicitDefEqProofs only [go_sem, initFS, number, Nat.reduceAdd, ir_cloneG, ir_slices_Clone_api_Value, *]))
  rfl

/-- What a call that writes nothing that was there leaves. -/
structure Kept (w w' : World) : Prop where
  size : w.heap.size ≤ w'.heap.size
  block : ∀ b, b < w.heap.size → w'.heap[b]? = w.heap[b]?
  os : w'.os = w.os
  tape : w'.tape = w.tape
  output : w'.output = w.output
  drawn : w.drawn ≤ w'.drawn
theorem Kept.refl (w : World) : Kept w w := ⟨Nat.le_refl _, fun _ _ => rfl, rfl, rfl, rfl, Nat.le_refl _⟩
theorem Kept.trans {a b c : World} (h : Kept a b) (k : Kept b c) : Kept a c :=
  ⟨Nat.le_trans h.size k.size, fun i hi => (k.block i (Nat.lt_of_lt_of_le hi h.size)).trans (h.block i hi), k.os.trans h.os, k.tape.trans h.tape, k.output.trans h.output, Nat.le_trans h.drawn k.drawn⟩
theorem Kept.sext {w w' : World} {σ : Seal} (h : Kept w w') (hσ : ∀ b, w.heap.size ≤ b → σ b = 0) : SExt w σ w' σ := by
  refine ⟨fun _ => Nat.le_refl _, fun b o ho => ?_⟩
  have hb : b < w.heap.size := by
    rcases Nat.lt_or_ge b w.heap.size with h | h
    · exact h
    · rw [hσ b h] at ho; omega
  exact World.cell?_of_block (w := w) (h.block b hb)

theorem grow_of {W w' : World} {σ σ' : Seal} {τ' : Nat → Tag} (h : FExt W σ (fun _ => .frn) w' σ' τ') : ∃ q os', w' = grow (W.drewN q) os' := by
  refine ⟨w'.drawn - W.drawn, w'.heap.extract W.heap.size w'.heap.size, ?_⟩
  have hh : w'.heap = W.heap ++ w'.heap.extract W.heap.size w'.heap.size := by
    have hs := h.size
    apply Array.ext
    · simp; omega
    · intro i h1 h2
      by_cases hi : i < W.heap.size
      · have := (h.keep i hi rfl).1
        rw [Array.getElem?_eq_getElem h1, Array.getElem?_eq_getElem hi] at this
        rw [Array.getElem_append_left hi]
        exact Option.some.inj this
      · rw [Array.getElem_append_right (by omega)]
        simp
        congr 1
        omega
  have hd := h.drawn
  cases w' with
  | mk heap tape drawn os output =>
    simp only [grow, World.drewN, World.mk.injEq]
    exact ⟨hh, h.tape, by simp only at hd ⊢; omega, h.os, h.output⟩

theorem callIn_pure {vs : List PV} {args : List Value} {W : World} {σ : Seal} (hvs : RPs W σ vs args) (hfl : noFlags vs = true) (hσ : ∀ b, W.heap.size ≤ b → σ b = 0) :
    CallIn O vs [] { w := W, σ := σ, μ := fun _ _ => 0, me := 0, fr := 0 } (fun _ => .frn) args where
  me := rfl
  vals := .of_RPs hvs
  own := ownSubs_pfs _ hvs.pfs
  flags := hfl
  frames := fun d F h => by simp at h
  tags := fun _ => rfl
  fresh := fun b h => ⟨hσ b h, rfl⟩

/-- A call that answers with a plain value: all that was there stays. -/
theorem quiet {Γ : Orc Ω} (hΓ : Sound P O Γ) {f : FuncId} {fn : Func} {c : Code} (hf : P.funcs[f]? = some fn) (hb : fn.body = some c) (hn : (fn.name == "runtime.NumGoroutine") = false) {vs : List PV} {args : List Value} {W : World} {σ : Seal}
    (hvs : RPs W σ vs args) (hfl : noFlags vs = true) (hσ : ∀ b, W.heap.size ≤ b → σ b = 0) {u : Value} (h : Γ f vs [] = some (.sc u, none, [])) :
    Calls P f ⟨args⟩ W fun e w' => e = .returned u ∧ ∃ q os', w' = grow (W.drewN q) os' := by
  refine (runs_calls hf hb hn (hΓ f vs [] _ h _ _ _ (callIn_pure hvs hfl hσ))).mono fun e w' he => ?_
  cases e with
  | returned v =>
    obtain ⟨E', τ', rfl, hr⟩ := he
    have hv := hr.val.sc_inv
    subst hv
    exact ⟨rfl, grow_of hr.ext⟩
  | _ => exact he.elim

/-- An element: its value, its cells. -/
structure El (k0 : Int) where
  v : Val
  c : List Value
  r : ∀ (w : World) (σ : Seal), RPs w σ (encV v) c
  p : plainB v = true
  k : v.k = k0
theorem El.small {k0 : Int} (x : El k0) : Small x.v := by
  have := (plain_facts x.p).1
  cases hv : x.v with
  | mk k i s l =>
    rw [hv] at this
    simp only [Val.l] at this
    subst this
    exact .mk k i s [] (by simp) (by simp)
theorem El.len {k0 : Int} (x : El k0) : x.c.length = 4 := by rw [(x.r default (fun _ => 0)).length, encV_eq]; rfl
theorem RP.one {w : World} {σ : Seal} {p : PV} {v : Value} (h : RP w σ p v) (hc : cellOK p = true) : v.oneCell' = true := by
  cases h with
  | sc v => cases v <;> first | rfl | cases hc
  | undef => cases hc
  | agg => cases hc
  | tup => cases hc
  | nil => rfl
  | sl => rfl
  | mt => rfl
  | clo => rfl
theorem RPs.one {w : World} {σ : Seal} : ∀ {ps : List PV} {vs : List Value}, RPs w σ ps vs → cellsOK ps = true → ∀ v ∈ vs, v.oneCell' = true
  | _, _, .nil, _, v, hv => by simp at hv
  | _, _, .cons h hs, hc, v, hv => by
    simp only [cellsOK, Bool.and_eq_true] at hc
    rcases List.mem_cons.1 hv with rfl | hv
    · exact RP.one h hc.1
    · exact RPs.one hs hc.2 v hv
theorem El.one {k0 : Int} (x : El k0) : ∀ v ∈ x.c, v.oneCell' = true := RPs.one (x.r default (fun _ => 0)) (by rw [encV_eq]; rfl)

theorem RP.free {w : World} {σ : Seal} {f : Fl} {v : Value} (h : RP w σ (.sl f 4 []) v) (w' : World) (σ' : Seal) : RP w' σ' (.sl f 4 []) v := by
  cases h with
  | nil => exact .nil _ _
  | sl hf hl he hc => exact .sl hf hl (by simp) (.nil _ _)
  | mt z a cap hf => exact .mt _ _ _ hf
theorem RPs.free {w : World} {σ : Seal} {v : Val} {c : List Value} (h : RPs w σ (encV v) c) (hl : v.l = []) (w' : World) (σ' : Seal) : RPs w' σ' (encV v) c := by
  rw [encV_eq, hl] at h ⊢
  cases h with
  | cons h1 h => cases h with
    | cons h2 h => cases h with
      | cons h3 h => cases h with
        | cons h4 h =>
          cases h
          cases h1; cases h2; cases h3
          exact .cons (.sc _) (.cons (.sc _) (.cons (.sc _) (.cons (RP.free h4 _ _) .nil)))

/-- A row's elements. -/
theorem els_of {w : World} {σ : Seal} {b : Nat} {k0 : Int} : ∀ {l : List Val} {o : Nat}, RC w σ b o (encVs l).flatten → (∀ x ∈ l, plainB x = true ∧ x.k = k0) →
    ∃ ds : List (El k0), ds.map (·.v) = l ∧ ∀ i e, ds[i]? = some e → ∀ j u, e.c[j]? = some u → w.cell? ⟨b, o + i * 4 + j, none⟩ = some u
  | [], o, _, _ => ⟨[], rfl, by simp⟩
  | x :: r, o, h, hp => by
    simp only [encVs, List.flatten_cons] at h
    obtain ⟨h1, h2⟩ := RC.append_inv h
    have e4 : (encV x).length = 4 := by rw [encV_eq]; rfl
    rw [e4] at h2
    obtain ⟨ds, k1, k2⟩ := els_of h2 (fun y hy => hp y (by simp [hy]))
    obtain ⟨us, q1, q2⟩ := RC.all h1
    obtain ⟨hx1, hx2⟩ := hp x (by simp)
    refine ⟨⟨x, us, RPs.free q1 (plain_facts hx1).1, hx1, hx2⟩ :: ds, by simp [k1], fun i e he j u hu => ?_⟩
    cases i with
    | zero =>
      simp only [List.getElem?_cons_zero, Option.some.injEq] at he
      subst he
      simpa using q2 j u hu
    | succ i =>
      simp only [List.getElem?_cons_succ] at he
      have := k2 i e he j u hu
      rw [show o + (i + 1) * 4 + j = o + 4 + i * 4 + j by omega]
      exact this
theorem holdsK_of {w : World} {g : Nat} {k0 : Int} [Inhabited (El k0)] {ds : List (El k0)} (h : ∀ i e, ds[i]? = some e → ∀ j u, e.c[j]? = some u → w.cell? ⟨g, 0 + i * 4 + j, none⟩ = some u) {cs : Array Value} {ty : TypeId} (hg : w.heap[g]? = some (.cells cs ty (0, 0))) :
    HoldsK El.c 4 w g 0 ds.toArray := by
  intro t ht
  rw [size_flatK] at ht
  have ht' : t < ds.length * 4 := by simpa using ht
  refine ⟨?_, by simp [World.frozen?, hg]⟩
  rw [get_flatK _ _ _ _ ht]
  have hi : t / 4 < ds.length := by omega
  have e1 : ds.toArray[t / 4]! = ds[t / 4] := by rw [getElem!_pos ds.toArray _ (by simpa using hi)]; simp
  rw [e1]
  have hj : t % 4 < ds[t / 4].c.length := by rw [El.len]; omega
  have := h (t / 4) _ (List.getElem?_eq_getElem hi) (t % 4) _ (List.getElem?_eq_getElem hj)
  rw [show 0 + t / 4 * 4 + t % 4 = 0 + t by omega] at this
  rw [this, getElem!_pos (ds[t / 4].c) (t % 4) hj]
  rfl

/-- The row's worlds keep all that was there. -/
theorem kept_map {w W : World} {g : Nat} (h : Kept w W) (hg : w.heap.size ≤ g) (f : Array Value → Array Value) : Kept w (mapBlock W g f) := by
  refine ⟨by simpa [mapBlock] using h.size, fun b hb => ?_, h.os, h.tape, h.output, h.drawn⟩
  rw [← h.block b hb]
  show (W.heap.modify g _)[b]? = _
  rw [Array.getElem?_modify, if_neg (by omega)]
theorem kept_swk {k0 : Int} [Inhabited (El k0)] {w W W' : World} {g : Nat} {dk : Array (El k0)} (h : Kept w W) (hg : w.heap.size ≤ g) (hs : SWK El.c 4 W g 0 dk W') : Kept w W' := by
  obtain ⟨n, os, rfl⟩ := hs
  have h1 : Kept w (Sort.ahead W n) := ⟨h.size, h.block, h.os, h.tape, h.output, Nat.le_trans h.drawn (Nat.le_add_right _ _)⟩
  have h2 : Kept w (putRowK El.c 4 (Sort.ahead W n) g 0 dk) := kept_map h1 hg _
  unfold sortWorldK
  refine ⟨by rw [size_grow]; exact Nat.le_trans h2.size (Nat.le_add_right _ _), fun b hb => ?_, h2.os, h2.tape, h2.output, h2.drawn⟩
  rw [← h2.block b hb]
  show (_ ++ os)[b]? = _
  rw [Array.getElem?_append_left (Nat.lt_of_lt_of_le hb h2.size)]
theorem kept_cells {w : World} {g : Nat} (hg : w.heap.size ≤ g) : ∀ (vs : List Value) (W : World) (x : Nat), Kept w W → Kept w (W.setCells g x vs)
  | [], _, _, h => h
  | v :: r, W, x, h => by
    rw [World.setCells]
    refine kept_cells hg r _ _ ?_
    rw [setCell_eq]
    exact kept_map h hg _
end Go.Fw.EqV
end
section
/- Clone, sort, compact: their contracts here. -/
set_option maxRecDepth 100000
namespace Go.Fw.EqV
open Go Go.Fw Go.Fw.Ir Go.Fw.Gp Go.Proofs Go.Shelf Go.RowKit Go.Sort Go.Fw.CompK
variable {Ω : Type} {O : OpqSem Ω} {Γ : Orc Ω} {k0 : Int} [Inhabited (El k0)]
set_option maxHeartbeats 4000000
set_option linter.all false

def cfE (x y : El k0) : Int := ordV x.v y.v
def efE (x y : El k0) : Bool := iEq (ordV x.v y.v) 0

theorem cmpE (hΓ : Sound Try.prog O Γ) (ho : ∀ x y : El k0, Γ 15 [.agg (encV x.v), .agg (encV y.v)] [] = some (.int (ordV x.v y.v), none, [])) {w W : World} {σ : Seal} (hσ : ∀ b, w.heap.size ≤ b → σ b = 0) {g : Nat} (hg : w.heap.size ≤ g) (hK : Kept w W) (n : Nat)
    (hH : ∀ dk : Array (El k0), dk.size = n → ∀ m os, Kept w (sortWorldK El.c 4 W g 0 m dk os)) : CmpLays Try.prog 15 #[] (El.c (k0 := k0)) 4 cfE g 0 n W := by
  intro m os dk hd x y
  have K := hH dk hd m os
  exact quiet hΓ (c := _) Try.func15 rfl rfl (vs := [.agg (encV x.v), .agg (encV y.v)]) (args := [.agg ⟨x.c⟩, .agg ⟨y.c⟩]) (σ := σ) (.cons (.agg (x.r _ _)) (.cons (.agg (y.r _ _)) .nil)) rfl (fun b hb => hσ b (Nat.le_trans K.size hb)) (ho x y)
theorem eqE (hΓ : Sound Try.prog O Γ) (ho : ∀ x y : El k0, Γ 17 [.agg (encV x.v), .agg (encV y.v)] [] = some (.sc (.bool (iEq (ordV x.v y.v) 0)), none, [])) {w W : World} {σ : Seal} (hσ : ∀ b, w.heap.size ≤ b → σ b = 0) {g : Nat} (hg : w.heap.size ≤ g) (hK : Kept w W) (n : Nat)
    (hH : ∀ dk : Array (El k0), dk.size = n → ∀ m os, Kept w (sortWorldK El.c 4 W g 0 m dk os)) : EqLays Try.prog 17 #[] (El.c (k0 := k0)) 4 efE g 0 n W := by
  intro m os dk hd x y
  have K := hH dk hd m os
  exact quiet hΓ (c := _) Try.func17 rfl rfl (vs := [.agg (encV x.v), .agg (encV y.v)]) (args := [.agg ⟨x.c⟩, .agg ⟨y.c⟩]) (σ := σ) (.cons (.agg (x.r _ _)) (.cons (.agg (y.r _ _)) .nil)) rfl (fun b hb => hσ b (Nat.le_trans K.size hb)) (ho x y)

/-- Behind the copy. -/
structure M1 (w : World) (l : List Val) (v : Value) (w1 : World) (ds : List (El k0)) (g cap : Nat) : Prop where
  val : v = .slice (some ⟨g, 0, none⟩) ds.toArray.size cap
  vals : ds.map (·.v) = l
  cap : ds.toArray.size ≤ cap
  new : w.heap.size ≤ g
  lt : g < w1.heap.size
  kept : Kept w w1
  holds : HoldsK El.c 4 w1 g 0 ds.toArray

omit [Inhabited (El k0)] in
theorem clone_runs (hΓ : Sound Try.prog O Γ) (x : Val) (r : List Val) (h13 : Γ 13 [.sl .no 4 (encVs (x :: r))] [] = some (.sl .own 4 (encVs (x :: r)), none, [])) {w : World} {σ : Seal} (hσ : ∀ b, w.heap.size ≤ b → σ b = 0) {v : Value}
    (hv : RP w σ (.sl .no 4 (encVs (x :: r))) v) (hp : ∀ y ∈ x :: r, plainB y = true ∧ y.k = k0) :
    Calls Try.prog 13 #[v] w fun e w1 => ∃ v1, e = .returned v1 ∧ ∃ (_ : Inhabited (El k0)) (ds : List (El k0)) (g cap : Nat), M1 w (x :: r) v1 w1 ds g cap := by
  refine (runs_calls Try.func13 rfl rfl (hΓ 13 _ [] _ h13 _ _ _ (callIn_pure (args := [v]) (.cons hv .nil) rfl hσ))).mono fun e w1 he => ?_
  cases e with
  | returned v1 =>
    obtain ⟨E', τ', rfl, hr⟩ := he
    rcases hr.right _ _ rfl with ⟨_, h0⟩ | ⟨g, cap, cs, ty, rfl, hτ, hσ', hh, hc⟩
    · rw [encVs] at h0; cases h0
    · have hlt := lt_of_some hh
      have hg : w.heap.size ≤ g := by
        rcases Nat.lt_or_ge g w.heap.size with h | h
        · have := (hr.ext.keep g h rfl).2.1
          rw [this] at hτ; cases hτ
        · exact h
      have hval := hr.val.sl_inv
      rcases hval.sl_inv with ⟨h1, h2⟩ | ⟨b, o, cap2, h1, _, h3, h4, h5⟩ | ⟨a, cap2, h1, h2, _⟩
      · rw [encVs] at h2; cases h2
      · simp only [Value.slice.injEq, Option.some.injEq, Addr.mk.injEq] at h1
        obtain ⟨⟨rfl, rfl, _⟩, _, rfl⟩ := h1
        obtain ⟨ds, k1, k2⟩ := els_of h5 hp
        have hl : ds.length = (x :: r).length := by rw [← k1]; simp
        have hdx : ∃ e0 : El k0, True := by
          cases ds with
          | nil => simp at hl
          | cons e0 _ => exact ⟨e0, trivial⟩
        obtain ⟨e0, _⟩ := hdx
        letI : Inhabited (El k0) := ⟨e0⟩
        have hk : Kept w E'.w := ⟨hr.ext.size, fun b hb => (hr.ext.keep b hb rfl).1, hr.ext.os, hr.ext.tape, hr.ext.output, hr.ext.drawn⟩
        refine ⟨_, rfl, ⟨e0⟩, ds, g, cap, ?_, k1, ?_, hg, hlt, hk, holdsK_of k2 hh⟩
        · rw [encVs_length, ← hl]; simp
        · rw [encVs_length, ← hl] at h3; simpa using h3
      · rw [encVs] at h2; cases h2
  | _ => exact he.elim
end Go.Fw.EqV
end
section
/- Clone, sort, compact: their contracts here, II. -/
set_option maxRecDepth 100000
namespace Go.Fw.EqV
open Go Go.Fw Go.Fw.Ir Go.Fw.Gp Go.Proofs Go.Shelf Go.RowKit Go.Sort Go.Fw.CompK
variable {Ω : Type} {O : OpqSem Ω} {Γ : Orc Ω} {k0 : Int}
set_option maxHeartbeats 4000000
set_option linter.all false

structure M2 [Inhabited (El k0)] (w : World) (l : List Val) (v : Value) (w2 : World) (d' : Array (El k0)) (g cap : Nat) : Prop where
  val : v = .slice (some ⟨g, 0, none⟩) d'.size cap
  perm : (d'.toList.map (·.v)).Perm l
  sorted : SortedIn (ltOf cfE) 0 d'.size d'
  cap : d'.size ≤ cap
  new : w.heap.size ≤ g
  lt : g < w2.heap.size
  kept : Kept w w2
  holds : HoldsK El.c 4 w2 g 0 d'

theorem sort_runs [Inhabited (El k0)] (hΓ : Sound Try.prog O Γ) (ho : ∀ x y : El k0, Γ 15 [.agg (encV x.v), .agg (encV y.v)] [] = some (.int (ordV x.v y.v), none, [])) (hO : SWO (ltOf (cfE (k0 := k0)))) {w w1 : World} {σ : Seal} (hσ : ∀ b, w.heap.size ≤ b → σ b = 0) {v1 : Value} {l : List Val} {ds : List (El k0)} {g cap : Nat}
    (h : M1 w l v1 w1 ds g cap) (hl : l.length ≤ 30) :
    Calls Try.prog 14 #[v1, .func (.func 15) #[] #[]] w1 fun e w2 => e = .returned (.tuple #[]) ∧ ∃ d' : Array (El k0), M2 w l v1 w2 d' g cap := by
  obtain ⟨rfl, hv, hc, hn, hlt, hk, hH⟩ := h
  have hsz : ds.toArray.size < 4611686018427387904 := by have := congrArg List.length hv; simp at this; simp; omega
  have eg : ∀ args w, (callFunc 15 args).run Try.prog w = .ok (.enter 15 args) w := enters_of Try.func15 (by kernel_rfl) rfl
  have hcmp := cmpE hΓ ho (W := w1) hσ hn hk ds.toArray.size (fun dk _ m os => kept_swk hk hn ⟨m, os, rfl⟩)
  have key := AnyQ.slices_SortFunc Try.sortV 4 Try.isAgg26 Try.sizeOf26 El.c El.len El.one cfE hO 15 #[] g 0 cap ds.toArray w1 eg hcmp hH hlt hsz
  change Calls Try.prog 14 _ _ _ at key
  refine key.mono ?_
  rintro e w2 ⟨rfl, d', n, os, hp, hs, rfl⟩
  obtain ⟨p1, _, p3⟩ := hp
  have p4 : d'.toList.Perm ds := by
    have e1 : (d'.extract 0 ds.toArray.size).toList = d'.toList := by rw [← p1]; simp
    have e2 : (ds.toArray.extract 0 ds.toArray.size).toList = ds := by simp
    rw [e1, e2] at p3
    exact p3
  have hS : SWK El.c 4 w1 g 0 d' (sortWorldK El.c 4 w1 g 0 n d' os) := ⟨n, os, rfl⟩
  refine ⟨rfl, d', by rw [p1], ?_, by rw [p1]; exact hs, by rw [p1]; exact hc, hn, hS.lt hlt, kept_swk hk hn hS, hS.holds hlt hH p1⟩
  rw [← hv]
  exact p4.map _

structure M3 [Inhabited (El k0)] (w : World) (d' : Array (El k0)) (v : Value) (w3 : World) (g cap : Nat) : Prop where
  val : v = .slice (some ⟨g, 0, none⟩) (upTo efE d' d'.size).length cap
  cap : (upTo efE d' d'.size).length ≤ cap
  new : w.heap.size ≤ g
  lt : g < w3.heap.size
  kept : Kept w w3
  cells : ∀ i e, (upTo efE d' d'.size)[i]? = some e → ∀ j u, e.c[j]? = some u → w3.cell? ⟨g, i * 4 + j, none⟩ = some u

theorem upTo_le [Inhabited (El k0)] (d : Array (El k0)) (m : Nat) : (upTo efE d m).length ≤ m := by
  unfold upTo
  rw [List.length_map]
  exact Nat.le_trans (List.length_filter_le _ _) (by simp)

theorem compact_runs [Inhabited (El k0)] (hΓ : Sound Try.prog O Γ) (ho : ∀ x y : El k0, Γ 17 [.agg (encV x.v), .agg (encV y.v)] [] = some (.sc (.bool (iEq (ordV x.v y.v) 0)), none, [])) {w w2 : World} {σ : Seal} (hσ : ∀ b, w.heap.size ≤ b → σ b = 0) {v1 : Value} {l : List Val} {d' : Array (El k0)} {g cap : Nat}
    (h : M2 w l v1 w2 d' g cap) (hl : l.length ≤ 30) :
    Calls Try.prog 16 #[v1, .func (.func 17) #[] #[]] w2 fun e w3 => ∃ v3, e = .returned v3 ∧ M3 w d' v3 w3 g cap := by
  obtain ⟨rfl, hv, _, hc, hn, hlt, hk, hH⟩ := h
  have hsz : d'.size < 4611686018427387904 := by have := hv.length_eq; simp at this; omega
  have eg : ∀ args w, (callFunc 17 args).run Try.prog w = .ok (.enter 17 args) w := enters_of Try.func17 (by kernel_rfl) rfl
  have hcmp := eqE hΓ ho (W := w2) hσ hn hk d'.size (fun dk _ m os => kept_swk hk hn ⟨m, os, rfl⟩)
  have R : RowK El.c 4 w2 g 0 d' := ⟨El.len, El.one, hH, hlt⟩
  have key := compactFunc (P := Try.prog) (by kernel_rfl) Try.func16 Try.underlying22 Try.isAgg22 Try.sizeOf22 Try.zeroValue22 Try.underlying3 Try.isAgg3 Try.sizeOf3 Try.zeroValue3 Try.underlying4 Try.isAgg4 Try.sizeOf4 Try.zeroValue4 Try.isAgg26 Try.sizeOf26 _ Try.zeroValue26 (by rfl) (by decide)
    efE 17 #[] cap d' w2 eg hcmp R (by decide) hsz hc
  refine key.mono ?_
  rintro e w3 ⟨rfl, W1, dk, x, vs, hS, hds, rfl, hx, hlow⟩
  have hle := upTo_le d' d'.size
  refine ⟨_, rfl, rfl, Nat.le_trans hle hc, hn, ?_, kept_cells hn _ _ _ (kept_swk hk hn hS), fun i e he j u hu => ?_⟩
  · rw [size_setCells]; exact hS.lt hlt
  · have hi : i < (upTo efE d' d'.size).length := (List.getElem?_eq_some_iff.1 he).1
    have hj : j < e.c.length := (List.getElem?_eq_some_iff.1 hu).1
    rw [El.len] at hj
    have hw := hlow i hi
    rw [he] at hw
    have hw := Option.some.inj hw
    have hHW := hS.holds hlt hH hds
    have h1 := (HoldsK.cell hHW (i := i) (c := j) (by omega) hj).1
    have hju : e.c[j]! = u := by
      rw [getElem!_pos e.c j (by rw [El.len]; exact hj)]
      rw [List.getElem?_eq_getElem (by rw [El.len]; exact hj)] at hu
      exact Option.some.inj hu
    rw [← hw, hju, show 0 + i * 4 + j = i * 4 + j by omega] at h1
    rw [World.cell?_setCells_out g vs _ _ _ (fun _ _ => Or.inl (by show i * 4 + j < x; omega))]
    exact h1

theorem rcs_of {w3 : World} {σ3 : Seal} {g : Nat} : ∀ {es : List (El k0)} {o : Nat}, (∀ i e, es[i]? = some e → ∀ j u, e.c[j]? = some u → w3.cell? ⟨g, o + i * 4 + j, none⟩ = some u) → o + es.length * 4 ≤ σ3 g → RC w3 σ3 g o (encVs (es.map (·.v))).flatten
  | [], o, _, _ => .nil _ _
  | e :: es, o, h, hs => by
    simp only [List.map_cons, encVs, List.flatten_cons]
    have e4 : (encV e.v).length = 4 := by rw [encV_eq]; rfl
    simp only [List.length_cons] at hs
    refine RC.append (RC.of_list (e.r _ _) (fun j v hj => by have := h 0 e rfl j v hj; simpa using this) (by rw [El.len]; omega)) ?_
    rw [e4]
    refine rcs_of (fun i e' he' j u hu => ?_) (by omega)
    have := h (i + 1) e' (by simpa using he') j u hu
    rw [show o + 4 + i * 4 + j = o + (i + 1) * 4 + j by omega]
    exact this

/-- The row, sealed. -/
def sealAt (σ : Seal) (g n : Nat) : Seal := fun b => if b = g then n else σ b
theorem rp_of [Inhabited (El k0)] {w w3 : World} {d' : Array (El k0)} {v3 : Value} {g cap : Nat} {σ : Seal} (h : M3 w d' v3 w3 g cap) :
    RP w3 (sealAt σ g ((upTo efE d' d'.size).length * 4)) (.sl .no 4 (encVs ((upTo efE d' d'.size).map (·.v)))) v3 := by
  obtain ⟨rfl, hc, hn, hlt, hk, hcell⟩ := h
  have : (upTo efE d' d'.size).length = (encVs ((upTo efE d' d'.size).map (·.v))).length := by rw [encVs_length, List.length_map]
  rw [this] at hc ⊢
  refine .sl (by simp) hc ?_ (rcs_of (fun i e he j u hu => by rw [Nat.zero_add]; exact hcell i e he j u hu) ?_)
  · intro e he
    rw [encVs_eq] at he
    obtain ⟨x, _, rfl⟩ := List.mem_map.1 he
    rw [encV_eq]
    exact ⟨rfl, rfl⟩
  · unfold sealAt
    rw [if_pos rfl, ← this]
    omega
end Go.Fw.EqV
end
section
/- The plain law of bags, II: one order, one row. -/
namespace Go.Fw.EqV
open Go Go.Fw Go.Fw.Gp Go.Fw.CompK Go.Sort Go.Proofs
set_option linter.all false

-- texts
theorem cb_zero : ∀ {a b : List UInt8}, Lib.compareBytes a b = 0 → a = b
  | [], [], _ => rfl
  | [], _ :: _, h => by simp [Lib.compareBytes] at h
  | _ :: _, [], h => by simp [Lib.compareBytes] at h
  | a :: x, b :: y, h => by
    simp only [Lib.compareBytes, UInt8.lt_iff_toNat_lt] at h
    by_cases h1 : a.toNat < b.toNat
    · simp [h1] at h
    · by_cases h2 : b.toNat < a.toNat
      · simp [h1, h2] at h
      · simp [h1, h2] at h
        rw [cb_zero h, UInt8.toNat_inj.1 (show a.toNat = b.toNat by omega)]
theorem cb_flip : ∀ (a b : List UInt8), Lib.compareBytes b a = - Lib.compareBytes a b
  | [], [] => by simp [Lib.compareBytes]
  | [], _ :: _ => by simp [Lib.compareBytes]
  | _ :: _, [] => by simp [Lib.compareBytes]
  | a :: x, b :: y => by
    simp only [Lib.compareBytes, UInt8.lt_iff_toNat_lt]
    by_cases h1 : a.toNat < b.toNat
    · have : ¬ b.toNat < a.toNat := by omega
      simp [h1, this]
    · by_cases h2 : b.toNat < a.toNat
      · simp [h1, h2]
      · simp [h1, h2]; exact cb_flip x y
theorem cb_trans : ∀ {a b c : List UInt8}, Lib.compareBytes a b < 0 → Lib.compareBytes b c < 0 → Lib.compareBytes a c < 0
  | [], [], _, h, _ => by simp [Lib.compareBytes] at h
  | [], _ :: _, [], _, h => by simp [Lib.compareBytes] at h
  | [], _ :: _, _ :: _, _, _ => by simp [Lib.compareBytes]
  | _ :: _, [], _, h, _ => by simp [Lib.compareBytes] at h
  | _ :: _, _ :: _, [], _, h => by simp [Lib.compareBytes] at h
  | a :: x, b :: y, c :: z, h, k => by
    have ih := @cb_trans x y z
    simp only [Lib.compareBytes, UInt8.lt_iff_toNat_lt] at h k ⊢
    by_cases h1 : a.toNat < b.toNat
    · by_cases h3 : b.toNat < c.toNat
      · simp [show a.toNat < c.toNat by omega]
      · by_cases h4 : c.toNat < b.toNat
        · simp [h3, h4] at k
        · simp [show a.toNat < c.toNat by omega]
    · by_cases h2 : b.toNat < a.toNat
      · simp [h1, h2] at h
      · simp [h1, h2] at h
        by_cases h3 : b.toNat < c.toNat
        · simp [show a.toNat < c.toNat by omega]
        · by_cases h4 : c.toNat < b.toNat
          · simp [h3, h4] at k
          · simp [h3, h4] at k
            simp [show ¬ a.toNat < c.toNat by omega, show ¬ c.toNat < a.toNat by omega]
            exact ih h k
theorem ci_zero {a b : Int} (h : cmpI a b = 0) : a = b := by
  simp only [cmpI, iLt_def, decide_eq_true_eq] at h
  split at h
  · cases h
  · split at h
    · cases h
    · omega
theorem ci_flip (a b : Int) : cmpI b a = - cmpI a b := by
  simp only [cmpI, iLt_def, decide_eq_true_eq]
  by_cases h1 : a < b
  · simp [h1, show ¬ b < a by omega]
  · by_cases h2 : b < a <;> simp [h1, h2]
theorem ci_trans {a b c : Int} (h : cmpI a b < 0) (k : cmpI b c < 0) : cmpI a c < 0 := by
  simp only [cmpI, iLt_def, decide_eq_true_eq] at h k ⊢
  have h1 : a < b := by
    by_cases h1 : a < b
    · exact h1
    · by_cases h2 : b < a <;> simp [h1, h2] at h
  have h2 : b < c := by
    by_cases h1 : b < c
    · exact h1
    · by_cases h2 : c < b <;> simp [h1, h2] at k
  simp [show a < c by omega]

/-- Formed values of one kind, that are no bags. -/
def Gd (k0 : Int) (x : Val) : Prop := plainB x = true ∧ x.k = k0
variable {k0 : Int}
theorem si_eq {x y : Val} (hx : Gd k0 x) (hy : Gd k0 y) : singleI x y = if k0 = 3 then cmpS x.s y.s else cmpI x.i y.i := by
  unfold singleI
  rw [hx.2, hy.2, iEq_self, textS_eq]
  simp only [Bool.not_true, Bool.false_eq_true, if_false, iEq_iff]
theorem si_zero {x y : Val} (hx : Gd k0 x) (hy : Gd k0 y) (h : singleI x y = 0) : x = y := by
  rw [si_eq hx hy] at h
  obtain ⟨lx, sx, ix⟩ := plain_facts hx.1
  obtain ⟨ly, sy, iy⟩ := plain_facts hy.1
  obtain ⟨_, kx⟩ := hx
  obtain ⟨_, ky⟩ := hy
  cases x with
  | mk k i s l =>
    cases y with
    | mk k' i' s' l' =>
      simp only [Val.k, Val.i, Val.s, Val.l] at *
      subst lx ly kx ky
      by_cases h3 : k' = 3
      · rw [if_pos h3] at h
        have h := cb_zero h
        rw [ix h3, iy h3]
        have : s = s' := by
          cases s; cases s'
          simp only [ByteArray.mk.injEq]
          exact Array.toList_inj.1 h
        rw [this]
      · rw [if_neg h3] at h
        rw [ci_zero h]
        rcases sx with h | rfl
        · exact absurd h h3
        · rcases sy with h | rfl
          · exact absurd h h3
          · rfl
theorem si_flip {x y : Val} (hx : Gd k0 x) (hy : Gd k0 y) : singleI y x = - singleI x y := by
  rw [si_eq hx hy, si_eq hy hx]
  split
  · exact cb_flip _ _
  · exact ci_flip _ _
theorem si_trans {x y z : Val} (hx : Gd k0 x) (hy : Gd k0 y) (hz : Gd k0 z) (h : singleI x y < 0) (k : singleI y z < 0) : singleI x z < 0 := by
  rw [si_eq hx hy] at h
  rw [si_eq hy hz] at k
  rw [si_eq hx hz]
  split at h
  · rw [if_pos (by assumption)] at k ⊢; exact cb_trans h k
  · rw [if_neg (by assumption)] at k ⊢; exact ci_trans h k
theorem si_self {x : Val} (hx : Gd k0 x) : singleI x x = 0 := by have := si_flip hx hx; omega
/-- Not less, not less: not less. -/
theorem si_ntrans {x y z : Val} (hx : Gd k0 x) (hy : Gd k0 y) (hz : Gd k0 z) (h : ¬ singleI x y < 0) (k : ¬ singleI y z < 0) : ¬ singleI x z < 0 := by
  intro c
  rcases Int.lt_trichotomy (singleI x y) 0 with a | a | a
  · exact h a
  · rw [si_zero hx hy a] at c; exact k c
  · have a2 : singleI y x < 0 := by rw [si_flip hx hy]; omega
    exact k (si_trans hy hx hz a2 c)

theorem El.gd (x : El k0) : Gd k0 x.v := ⟨x.p, x.k⟩
theorem cfE_eq (x y : El k0) : cfE x y = singleI x.v y.v := ord_single x.p y.p (x.k.trans y.k.symm)
theorem swoE : SWO (ltOf (cfE (k0 := k0))) where
  irrefl x := by simp only [ltOf, cfE_eq, si_self x.gd]; rfl
  trans x y z h1 h2 := by
    simp only [ltOf, cfE_eq, decide_eq_true_eq] at *
    exact si_trans x.gd y.gd z.gd h1 h2
  ntrans x y z h1 h2 := by
    simp only [ltOf, cfE_eq, decide_eq_false_iff_not] at *
    exact si_ntrans x.gd y.gd z.gd h1 h2

-- rising rows
def Rise (l : List Val) : Prop := l.Pairwise fun x y => singleI x y < 0
theorem rise_eq : ∀ {a b : List Val}, Rise a → Rise b → (∀ x ∈ a, Gd k0 x) → (∀ x ∈ b, Gd k0 x) → (∀ x, x ∈ a ↔ x ∈ b) → a = b
  | [], [], _, _, _, _, _ => rfl
  | [], y :: b, _, _, _, _, h => by have := (h y).2 (by simp); simp at this
  | x :: a, [], _, _, _, _, h => by have := (h x).1 (by simp); simp at this
  | x :: a, y :: b, ha, hb, ga, gb, h => by
    have ha := List.pairwise_cons.1 ha
    have hb := List.pairwise_cons.1 hb
    have gx := ga x (by simp)
    have gy := gb y (by simp)
    have e : x = y := by
      rcases List.mem_cons.1 ((h x).1 (by simp)) with e | hx
      · exact e
      · rcases List.mem_cons.1 ((h y).2 (by simp)) with e | hy
        · exact e.symm
        · have h1 := hb.1 x hx
          have h2 := ha.1 y hy
          rw [si_flip gx gy] at h1
          omega
    subst e
    have key : a = b := rise_eq ha.2 hb.2 (fun z hz => ga z (by simp [hz])) (fun z hz => gb z (by simp [hz])) fun z => by
      constructor
      · intro hz
        rcases List.mem_cons.1 ((h z).1 (by simp [hz])) with rfl | hz'
        · have := ha.1 z hz; rw [si_self gx] at this; omega
        · exact hz'
      · intro hz
        rcases List.mem_cons.1 ((h z).2 (by simp [hz])) with rfl | hz'
        · have := hb.1 z hz; rw [si_self gx] at this; omega
        · exact hz'
    rw [key]

-- the reference's insertion
theorem insB_cons (x y : Val) (r : List Val) : insB (y :: r) x = if singleI y x < 0 then y :: insB r x else if singleI y x = 0 then y :: r else x :: y :: r := by
  by_cases h : singleI y x < 0
  · have e : iLt (singleI y x) 0 = true := by rw [iLt_def]; simpa using h
    rw [if_pos h]
    unfold insB
    simp only [atB, e, if_true, List.getElem?_cons_succ, List.take_succ_cons, List.drop_succ_cons]
    cases r[atB x r]? with
    | none => rfl
    | some z =>
      simp only []
      split <;> simp
  · have e : iLt (singleI y x) 0 = false := by rw [iLt_def]; simpa using h
    rw [if_neg h]
    unfold insB
    simp only [atB, e, Bool.false_eq_true, if_false, List.getElem?_cons_zero, List.take_zero, List.drop_zero, List.nil_append, iEq_iff]
    split <;> rfl
theorem insB_nil (x : Val) : insB [] x = [x] := rfl
theorem insB_iff {x z : Val} (gx : Gd k0 x) : ∀ {out : List Val}, (∀ y ∈ out, Gd k0 y) → (z ∈ insB out x ↔ z ∈ out ∨ z = x)
  | [], _ => by simp [insB_nil]
  | y :: r, h => by
    have gy := h y (by simp)
    have ih := insB_iff (z := z) gx (out := r) (fun w hw => h w (by simp [hw]))
    rw [insB_cons]
    split
    · simp only [List.mem_cons, ih]
      constructor
      · rintro (h | h | h)
        · exact .inl (.inl h)
        · exact .inl (.inr h)
        · exact .inr h
      · rintro ((h | h) | h)
        · exact .inl h
        · exact .inr (.inl h)
        · exact .inr (.inr h)
    · split
      · rename_i h0
        have := si_zero gy gx h0
        subst this
        simp only [List.mem_cons]
        constructor
        · exact .inl
        · rintro (h | h)
          · exact h
          · exact .inl h
      · simp only [List.mem_cons]
        constructor
        · rintro (h | h)
          · exact .inr h
          · exact .inl h
        · rintro (h | h)
          · exact .inr h
          · exact .inl h
theorem insB_rise {x : Val} (gx : Gd k0 x) : ∀ {out : List Val}, (∀ y ∈ out, Gd k0 y) → Rise out → Rise (insB out x)
  | [], _, _ => by simp [insB_nil, Rise]
  | y :: r, h, hr => by
    have gy := h y (by simp)
    have hr := List.pairwise_cons.1 hr
    rw [insB_cons]
    split
    · rename_i h1
      refine List.pairwise_cons.2 ⟨fun z hz => ?_, insB_rise gx (fun w hw => h w (by simp [hw])) hr.2⟩
      rcases (insB_iff gx (fun w hw => h w (by simp [hw]))).1 hz with hz | rfl
      · exact hr.1 z hz
      · exact h1
    · split
      · exact List.pairwise_cons.2 hr
      · rename_i h1 h2
        have hxy : singleI x y < 0 := by rw [si_flip gy gx]; omega
        refine List.pairwise_cons.2 ⟨fun z hz => ?_, List.pairwise_cons.2 hr⟩
        rcases List.mem_cons.1 hz with rfl | hz
        · exact hxy
        · exact si_trans gx gy (h z (by simp [hz])) hxy (hr.1 z hz)
theorem fold_facts : ∀ (l out : List Val), (∀ y ∈ l, Gd k0 y) → (∀ y ∈ out, Gd k0 y) → Rise out → Rise (l.foldl insB out) ∧ (∀ y ∈ l.foldl insB out, Gd k0 y) ∧ ∀ z, z ∈ l.foldl insB out ↔ z ∈ out ∨ z ∈ l
  | [], out, _, ho, hr => ⟨hr, ho, by simp⟩
  | x :: l, out, hl, ho, hr => by
    have gx := hl x (by simp)
    have gi : ∀ y ∈ insB out x, Gd k0 y := fun y hy => by
      rcases (insB_iff gx ho).1 hy with h | rfl
      · exact ho y h
      · exact gx
    obtain ⟨h1, h2, h3⟩ := fold_facts l (insB out x) (fun y hy => hl y (by simp [hy])) gi (insB_rise gx ho hr)
    refine ⟨h1, h2, fun z => ?_⟩
    rw [List.foldl_cons, h3, insB_iff gx ho, List.mem_cons]
    constructor
    · rintro ((h | h) | h)
      · exact .inl h
      · exact .inr (.inl h)
      · exact .inr (.inr h)
    · rintro (h | h | h)
      · exact .inl (.inl h)
      · exact .inl (.inr h)
      · exact .inr h

-- what the library's functions leave
theorem upTo_rise [Inhabited (El k0)] (d : Array (El k0)) (hs : SortedIn (ltOf cfE) 0 d.size d) : Rise ((upTo efE d d.size).map (·.v)) := by
  have le : ∀ i j, i ≤ j → j < d.size → ¬ singleI d[j]!.v d[i]!.v < 0 := by
    intro i j hij hj
    rcases Nat.lt_or_ge i j with h | h
    · have := hs i j (Nat.zero_le _) h hj
      simpa [ltOf, cfE_eq] using this
    · obtain rfl : i = j := by omega
      rw [si_self (El.gd _)]; omega
  unfold upTo Rise
  rw [List.map_map, List.pairwise_map]
  refine List.Pairwise.imp_of_mem ?_ ((List.pairwise_lt_range (n := d.size)).filter _)
  intro i j hi hj hij
  have hj := List.mem_filter.1 hj
  have hjn : j < d.size := List.mem_range.1 hj.1
  have hst := hj.2
  simp only [stays, Bool.or_eq_true, decide_eq_true_eq, Bool.not_eq_true', efE] at hst
  show singleI d[i]!.v d[j]!.v < 0
  rcases hst with h | h
  · omega
  · have hne : singleI d[j]!.v d[j - 1]!.v ≠ 0 := by
      intro e
      have h' : iEq (cfE d[j]! d[j - 1]!) 0 = false := h
      rw [cfE_eq, e] at h'
      rw [iEq_self] at h'; cases h'
    have h1 := le (j - 1) j (by omega) hjn
    have h2 := le i (j - 1) (by omega) (by omega)
    have f1 := si_flip (El.gd d[j]!) (El.gd d[j - 1]!)
    have f2 := si_flip (El.gd d[j - 1]!) (El.gd d[i]!)
    have h3 : singleI d[j - 1]!.v d[j]!.v < 0 := by omega
    rcases Int.lt_trichotomy (singleI d[i]!.v d[j - 1]!.v) 0 with c | c | c
    · exact si_trans (El.gd _) (El.gd _) (El.gd _) c h3
    · rw [si_zero (El.gd _) (El.gd _) c]; exact h3
    · omega
theorem upTo_mem [Inhabited (El k0)] (d : Array (El k0)) (z : Val) : z ∈ (upTo efE d d.size).map (·.v) ↔ z ∈ d.toList.map (·.v) := by
  have key : ∀ m, m ≤ d.size → ∀ i, i < m → d[i]!.v ∈ (upTo efE d m).map (·.v) := by
    intro m
    induction m with
    | zero => intro _ i hi; omega
    | succ m ih =>
      intro hm i hi
      rw [upTo_succ, List.map_append, List.mem_append]
      rcases Nat.lt_or_ge i m with h | h
      · exact .inl (ih (by omega) i h)
      · obtain rfl : i = m := by omega
        cases hst : stays efE d i with
        | true => right; simp
        | false =>
          left
          simp only [stays, Bool.or_eq_false_iff, decide_eq_false_iff_not, Bool.not_eq_false', efE] at hst
          have hz : singleI d[i]!.v d[i - 1]!.v = 0 := by
            have h' : iEq (cfE d[i]! d[i - 1]!) 0 = true := hst.2
            rw [cfE_eq] at h'
            exact iEq_iff.1 h'
          rw [si_zero (El.gd _) (El.gd _) hz]
          exact ih (by omega) (i - 1) (by omega)
  constructor
  · intro h
    obtain ⟨x, hx, rfl⟩ := List.mem_map.1 h
    unfold upTo at hx
    obtain ⟨i, hi, rfl⟩ := List.mem_map.1 hx
    have hi := List.mem_range.1 (List.mem_filter.1 hi).1
    refine List.mem_map.2 ⟨d[i]!, ?_, rfl⟩
    rw [getElem!_pos d i hi]
    simp
  · intro h
    obtain ⟨x, hx, rfl⟩ := List.mem_map.1 h
    obtain ⟨i, hi, rfl⟩ := List.mem_iff_getElem.1 hx
    have hi' : i < d.size := by simpa using hi
    have := key d.size (Nat.le_refl _) i hi'
    rw [getElem!_pos d i hi'] at this
    simpa using this
theorem row_eq [Inhabited (El k0)] {d : Array (El k0)} {l : List Val} (hp : (d.toList.map (·.v)).Perm l) (hs : SortedIn (ltOf cfE) 0 d.size d) (hl : ∀ y ∈ l, Gd k0 y) : (upTo efE d d.size).map (·.v) = l.foldl insB [] := by
  obtain ⟨h1, h2, h3⟩ := fold_facts l [] hl (by simp) (by simp [Rise])
  refine rise_eq (upTo_rise d hs) h1 (fun x hx => ?_) h2 fun z => ?_
  · obtain ⟨y, _, rfl⟩ := List.mem_map.1 hx
    exact y.gd
  · rw [upTo_mem, h3, hp.mem_iff]
    simp
end Go.Fw.EqV
end
section
/- Clone, sort, compact of no element. -/
set_option maxRecDepth 100000
namespace Go.Fw.EqV
open Go Go.Fw Go.Fw.Ir Go.Fw.Gp Go.Proofs Go.Shelf Go.RowKit Go.Sort Go.Fw.CompK
set_option maxHeartbeats 1000000
set_option linter.all false

theorem clone_nil (w : World) : Calls Try.prog 13 #[.slice none 0 0] w fun e w' => e = .returned (.slice none 0 0) ∧ w' = w :=
  AnyE.slices_Clone_nil Try.cloneV 0 0 w
theorem clone_none (a : Addr) (cap : Nat) (w : World) : Calls Try.prog 13 #[.slice (some a) 0 cap] w fun e w' => ∃ p c, e = .returned (.slice (some p) 0 c) ∧ Kept w w' := by
  have q22 : ∀ (w : World) (a : Option Addr) (n c n' c' : Nat), (binOp .eql 22 (.slice a n c) (.slice none n' c')).run Try.prog w = .ok (.bool a.isNone) w := fun w a n c n' c' => Lib.run_eql_slice_nil w _ _ a n c n' c' Try.underlying22
  go_enter Try.func13, Try.ntmps13
  go_wp2
  go_ret
  refine ⟨_, _, rfl, by rw [size_alloc]; omega, fun b hb => heap_old w _ hb, rfl, rfl, rfl, Nat.le_refl _⟩
theorem compact_none (p : Option Addr) (cap : Nat) (fv : Value) (w : World) : Calls Try.prog 16 #[.slice p 0 cap, fv] w fun e w' => e = .returned (.slice p 0 cap) ∧ w' = w := by
  go_enter Try.func16, Try.ntmps16
  go_wp2
  go_ret
  exact ⟨rfl, rfl⟩
theorem insertion_none (p : Option Addr) (cap : Nat) (fv : Value) (w : World) : Calls Try.prog 34 #[.slice p 0 cap, .int .i64 0, .int .i64 0, fv] w fun e w' => e = .returned (.tuple #[]) ∧ w' = w := by
  go_enter Try.func34, Try.ntmps34
  go_wp2
  refine wp_loop_rounds 1 ?_
  rw [rounds_succ]
  go_wp2
  go_end0
  exact ⟨rfl, rfl⟩
theorem pdq_none (p : Option Addr) (cap : Nat) (lim : Int) (fv : Value) (w : World) : Calls Try.prog 25 #[.slice p 0 cap, .int .i64 0, .int .i64 0, .int .i64 lim, fv] w fun e w' => e = .returned (.tuple #[]) ∧ w' = w := by
  have hi := fun W => insertion_none p cap fv W
  go_enter Try.func25, Try.ntmps25
  go_wp2
  refine wp_loop_rounds 1 ?_
  rw [rounds_succ]
  go_wp2_with (go_at_call 34; refine (hi _).mono ?_; rintro e w' ⟨rfl, rfl⟩)
  (try simp only [Exit.inBlock, Exit.then])
  refine bodyPost_ret (results_none rfl _ _ _) rfl ?_
  exact ⟨rfl, rfl⟩
theorem sort_none (p : Option Addr) (cap : Nat) (fv : Value) (w : World) : Calls Try.prog 14 #[.slice p 0 cap, fv] w fun e w' => e = .returned (.tuple #[]) ∧ w' = w := by
  have hp := fun lim W => pdq_none p cap lim fv W
  have hl : ∀ W, Calls Try.prog 26 #[.int .u64 0] W fun e w' => e = .returned (.int .i64 (Lib.bitLen 0 : Nat)) ∧ w' = W := fun W =>
    Any.bits_Len (SlLaysF0.n15.bits (P := Try.prog) (ρ := Try.sortV_ren) { Try.sortV with }) 0 W (by omega) (by omega)
  go_enter Try.func14, Try.ntmps14
  go_wp2_with (first | (go_at_call 26; refine (hl _).mono ?_; rintro e w' ⟨rfl, rfl⟩) | (go_at_call 25; refine (hp _ _).mono ?_; rintro e w' ⟨rfl, rfl⟩))
  go_end0
  exact ⟨rfl, rfl⟩

variable {Ω : Type} {O : OpqSem Ω} {Γ : Orc Ω} {k0 : Int}
def A1 (k0 : Int) (w : World) (l : List Val) (v1 : Value) (w1 : World) : Prop :=
  (l = [] ∧ Kept w w1 ∧ ((v1 = .slice none 0 0) ∨ ∃ a cap, v1 = .slice (some a) 0 cap)) ∨ ∃ (_ : Inhabited (El k0)) (ds : List (El k0)) (g cap : Nat), M1 w l v1 w1 ds g cap
def A2 (k0 : Int) (w : World) (l : List Val) (v1 : Value) (w2 : World) : Prop :=
  (l = [] ∧ Kept w w2 ∧ ((v1 = .slice none 0 0) ∨ ∃ a cap, v1 = .slice (some a) 0 cap)) ∨ ∃ (_ : Inhabited (El k0)) (d' : Array (El k0)) (g cap : Nat), M2 w l v1 w2 d' g cap
/-- The sorted row, sealed. -/
def A3 (w : World) (σ : Seal) (l : List Val) (v3 : Value) (w3 : World) : Prop :=
  Kept w w3 ∧ ∃ σ3, RP w3 σ3 (.sl .no 4 (encVs (l.foldl insB []))) v3 ∧ (∀ b, b < w.heap.size → σ3 b = σ b) ∧ (∀ b, w3.heap.size ≤ b → σ3 b = 0)

theorem mid1 (hΓ : Sound Try.prog O Γ) (l : List Val) (h13 : l ≠ [] → Γ 13 [.sl .no 4 (encVs l)] [] = some (.sl .own 4 (encVs l), none, [])) {w : World} {σ : Seal} (hσ : ∀ b, w.heap.size ≤ b → σ b = 0) {v : Value}
    (hv : RP w σ (.sl .no 4 (encVs l)) v) (hp : ∀ y ∈ l, Gd k0 y) : Calls Try.prog 13 #[v] w fun e w1 => ∃ v1, e = .returned v1 ∧ A1 k0 w l v1 w1 := by
  cases l with
  | nil =>
    rcases hv.sl_inv with ⟨rfl, _⟩ | ⟨b, o, cap, rfl, _⟩ | ⟨a, cap, rfl, _⟩
    · refine (clone_nil w).mono ?_
      rintro e w1 ⟨rfl, rfl⟩
      exact ⟨_, rfl, .inl ⟨rfl, .refl _, .inl rfl⟩⟩
    · refine (clone_none _ _ w).mono ?_
      rintro e w1 ⟨p, c, rfl, hk⟩
      exact ⟨_, rfl, .inl ⟨rfl, hk, .inr ⟨_, _, rfl⟩⟩⟩
    · refine (clone_none _ _ w).mono ?_
      rintro e w1 ⟨p, c, rfl, hk⟩
      exact ⟨_, rfl, .inl ⟨rfl, hk, .inr ⟨_, _, rfl⟩⟩⟩
  | cons x r =>
    refine (clone_runs hΓ x r (h13 (by simp)) hσ hv hp).mono ?_
    rintro e w1 ⟨v1, rfl, h⟩
    exact ⟨v1, rfl, .inr h⟩
theorem mid2 (hΓ : Sound Try.prog O Γ) (ho : ∀ x y : El k0, Γ 15 [.agg (encV x.v), .agg (encV y.v)] [] = some (.int (ordV x.v y.v), none, [])) {l : List Val} (hl : l.length ≤ 30) {w w1 : World} {σ : Seal} (hσ : ∀ b, w.heap.size ≤ b → σ b = 0) {v1 : Value}
    (h : A1 k0 w l v1 w1) : Calls Try.prog 14 #[v1, .func (.func 15) #[] #[]] w1 fun e w2 => e = .returned (.tuple #[]) ∧ A2 k0 w l v1 w2 := by
  rcases h with ⟨rfl, hk, h⟩ | ⟨hi, ds, g, cap, h⟩
  · obtain ⟨p, cap, rfl⟩ : ∃ p cap, v1 = .slice p 0 cap := by
      rcases h with rfl | ⟨a, cap, rfl⟩
      · exact ⟨_, _, rfl⟩
      · exact ⟨_, _, rfl⟩
    refine (sort_none p cap _ w1).mono ?_
    rintro e w2 ⟨rfl, rfl⟩
    exact ⟨rfl, .inl ⟨rfl, hk, h⟩⟩
  · refine (sort_runs hΓ ho swoE hσ h hl).mono ?_
    rintro e w2 ⟨rfl, d', h⟩
    exact ⟨rfl, .inr ⟨hi, d', g, cap, h⟩⟩
theorem mid3 (hΓ : Sound Try.prog O Γ) (ho : ∀ x y : El k0, Γ 17 [.agg (encV x.v), .agg (encV y.v)] [] = some (.sc (.bool (iEq (ordV x.v y.v) 0)), none, [])) {l : List Val} (hl : l.length ≤ 30) (hp : ∀ y ∈ l, Gd k0 y) {w w2 : World} {σ : Seal} (hσ : ∀ b, w.heap.size ≤ b → σ b = 0) {v1 : Value}
    (h : A2 k0 w l v1 w2) : Calls Try.prog 16 #[v1, .func (.func 17) #[] #[]] w2 fun e w3 => ∃ v3, e = .returned v3 ∧ A3 w σ l v3 w3 := by
  rcases h with ⟨rfl, hk, h⟩ | ⟨hi, d', g, cap, h⟩
  · obtain ⟨p, cap, rfl⟩ : ∃ p cap, v1 = .slice p 0 cap := by
      rcases h with rfl | ⟨a, cap, rfl⟩
      · exact ⟨_, _, rfl⟩
      · exact ⟨_, _, rfl⟩
    refine (compact_none p cap _ w2).mono ?_
    rintro e w3 ⟨rfl, rfl⟩
    refine ⟨_, rfl, hk, σ, ?_, fun _ _ => rfl, fun b hb => hσ b (Nat.le_trans hk.size hb)⟩
    rcases h with h | ⟨a, cap, h⟩
    · rw [h]; exact .nil _ _
    · rw [h]; exact .mt _ _ _ (by simp)
  · refine (compact_runs hΓ ho hσ h hl).mono ?_
    rintro e w3 ⟨v3, rfl, h3⟩
    have hr := rp_of (σ := σ) h3
    rw [row_eq h.perm h.sorted hp] at hr
    refine ⟨v3, rfl, h3.kept, _, hr, fun b hb => ?_, fun b hb => ?_⟩
    · have := h3.new
      unfold sealAt
      rw [if_neg (by omega)]
    · have := h3.lt
      unfold sealAt
      rw [if_neg (by omega)]
      exact hσ b (Nat.le_trans h3.kept.size hb)
end Go.Fw.EqV
end
section
/- value.Bag ahead of its copy, and behind it. -/
set_option maxRecDepth 100000
namespace Go.Fw.EqV
open Go.Fw Go.Fw.Ir Go.Fw.Gp
attribute [local congr] cg_selB cg_bind cg_map cg_andThen cg_denL cg_condL cg_runOps cg_stepOp cg_gate
variable {Ω : Type} {T : Nat → Option (Ent Ω)}
set_option maxHeartbeats 4000000
set_option linter.all false

def allF : List Val → Bool
  | [] => true
  | x :: r => formedV x && allF r
theorem vbag_loop0 (h : FormedFns T) (l : List Val) (hl : l.length < 4611686018427387904) (hx : ∀ x ∈ l, x.l.length < 4611686018427387904 ∧ ∀ y ∈ x.l, Small y) (S : List (Fr Ω)) : ∀ k i (L : Fr Ω), i + k = l.length → look L 2 = some (.box zc) →
    denL T lp_value_Bag_0 ⟨[(0, .sl .no 4 (encVs l)), (2, .own 2 0), (9, .sl .no 4 (encVs l)), (10, .nat l.length), (11, .nat i)], L, S, false⟩ =
      if allF (l.drop i) then some (.exit 0, ⟨[(0, .sl .no 4 (encVs l)), (2, .own 2 0)], [(2, .box zc)], S, false⟩) else some (.ret, ⟨[(2, .own 2 0), (3, .int 1)], [(2, .box zc)], S, false⟩) := by
  intro k
  induction k with
  | zero =>
    intro i L hi h1
    obtain rfl : i = l.length := by omega
    have e2 : l.drop l.length = [] := by simp
    rw [lu_value_Bag_0]
    repeat' (first
      | (rw [nLe_yes]; rotate_left; focus ((try simp only [List.length_append, List.length_take, List.length_drop, List.length_cons, List.length_nil, encVs_length, encVs]); omega))
      | (rw [gate_mt]; split)
      | (rw [gate_mf]; split)
      | (rw [condL_m]; split)
      | (simp -implicitDefEqProofs only [go_sem, initFS, number, Nat.reduceAdd, lb_value_Bag_0, allF, *]))
  | succ k ih =>
    intro i L hi h1
    have hlt : i < l.length := by omega
    have e2 : l[i]? = some l[i] := List.getElem?_eq_getElem hlt
    have e5 := fun (L : Fr Ω) => ih (i + 1) L (by omega)
    have e6 := wrap_succ (n := i) (by omega)
    have e3 : l.drop i = l[i] :: l.drop (i + 1) := List.drop_eq_getElem_cons hlt
    obtain ⟨hx1, hx2⟩ := hx _ (List.getElem_mem hlt)
    have s1 := formed_eq h l[i] hx1 hx2
    simp only [encV_eq] at s1
    clear ih
    generalize l[i] = x at *
    rw [lu_value_Bag_0]
    repeat' (first
      | (rw [nLe_yes]; rotate_left; focus ((try simp only [List.length_append, List.length_take, List.length_drop, List.length_cons, List.length_nil, encVs_length, encVs]); omega))
      | (rw [gate_mt]; split)
      | (rw [gate_mf]; split)
      | (rw [condL_m]; split)
      | (simp -implicitDefEqProofs only [go_sem, initFS, number, Nat.reduceAdd, lb_value_Bag_0, allF, *]))
theorem vbag_loop1 (l : List Val) (hl : l.length < 4611686018427387904) (S : List (Fr Ω)) : ∀ k i (L : Fr Ω), i + k = l.length → look L 2 = some (.box zc) →
    denL T lp_value_Bag_1 ⟨[(0, .sl .no 4 (encVs l)), (2, .own 2 0), (20, .sl .no 4 (encVs l)), (21, .nat l.length), (22, .nat i)], L, S, false⟩ =
      if badL (headK l) (l.drop i) then some (.ret, ⟨[(2, .own 2 0), (3, .int 6)], [(2, .box zc)], S, false⟩) else some (.exit 2, ⟨[(0, .sl .no 4 (encVs l)), (2, .own 2 0)], [(2, .box zc)], S, false⟩) := by
  intro k
  induction k with
  | zero =>
    intro i L hi h1
    obtain rfl : i = l.length := by omega
    have e2 : l.drop l.length = [] := by simp
    rw [lu_value_Bag_1]
    repeat' (first
      | (rw [nLe_yes]; rotate_left; focus ((try simp only [List.length_append, List.length_take, List.length_drop, List.length_cons, List.length_nil, encVs_length, encVs]); omega))
      | (rw [gate_mt]; split)
      | (rw [gate_mf]; split)
      | (rw [condL_m]; split)
      | (simp -implicitDefEqProofs only [go_sem, initFS, number, Nat.reduceAdd, lb_value_Bag_1, badL, *]))
  | succ k ih =>
    intro i L hi h1
    have hlt : i < l.length := by omega
    have e2 : l[i]? = some l[i] := List.getElem?_eq_getElem hlt
    have e5 := fun (L : Fr Ω) => ih (i + 1) L (by omega)
    have e6 := wrap_succ (n := i) (by omega)
    have e3 : l.drop i = l[i] :: l.drop (i + 1) := List.drop_eq_getElem_cons hlt
    have e8 : ∃ x0, l[0]? = some x0 ∧ headK l = x0.k := by
      cases hq : l with
      | nil => rw [hq] at hlt; simp at hlt
      | cons x xs => exact ⟨x, rfl, rfl⟩
    obtain ⟨x0, e8, e9⟩ := e8
    have e10 : 0 < l.length := by omega
    rw [e9] at e5 ⊢
    clear ih e9
    by_cases h0 : i = 0
    · subst h0
      obtain rfl : x0 = l[0] := by rw [e2] at e8; cases e8; rfl
      clear e8 e6
      simp only [Nat.zero_add, nat1] at e5 e3
      generalize l[0] = x at *
      rw [lu_value_Bag_1]
      repeat' (first
        | (rw [nLe_yes]; rotate_left; focus ((try simp only [List.length_append, List.length_take, List.length_drop, List.length_cons, List.length_nil, encVs_length, encVs]); omega))
        | (rw [gate_mt]; split)
        | (rw [gate_mf]; split)
        | (rw [condL_m]; split)
        | (simp -implicitDefEqProofs only [go_sem, initFS, number, Nat.reduceAdd, lb_value_Bag_1, badL, nat0, *]))
    · generalize l[i] = x at *
      rw [lu_value_Bag_1]
      repeat' (first
        | (rw [nLe_yes]; rotate_left; focus ((try simp only [List.length_append, List.length_take, List.length_drop, List.length_cons, List.length_nil, encVs_length, encVs]); omega))
        | (rw [gate_mt]; split)
        | (rw [gate_mf]; split)
        | (rw [condL_m]; split)
        | (simp -implicitDefEqProofs only [go_sem, initFS, number, Nat.reduceAdd, lb_value_Bag_1, badL, *]))

def icL : ICode → ICode
  | .seq a _ => a
  | c => c
def icR : ICode → ICode
  | .seq _ b => b
  | c => c
/-- Ahead of the copy. -/
def ib1 : ICode := icL ir_value_Bag.body
def ib2 : ICode := icL (icR ir_value_Bag.body)
def ib3 : ICode := icL (icR (icR ir_value_Bag.body))
def ib7 : ICode := icR (icR (icR (icR (icR (icR ir_value_Bag.body)))))

theorem ib1_eq (l : List Val) (S : List (Fr Ω)) : denL T ib1 ⟨[(0, .sl .no 4 (encVs l))], [], S, false⟩ = some (.normal, ⟨[(0, .sl .no 4 (encVs l)), (2, .own 2 0)], [(2, .box zc)], S, false⟩) := by
  repeat' (first
    | (rw [nLe_yes]; rotate_left; focus ((try simp only [List.length_append, List.length_take, List.length_drop, List.length_cons, List.length_nil, encVs_length, encVs]); omega))
    | (rw [gate_mt]; split)
    | (rw [gate_mf]; split)
    | (rw [condL_m]; split)
    | (simp -implicitDefEqProofs only [go_sem, initFS, number, Nat.reduceAdd, ib1, icL, icR, ir_value_Bag, *]))
theorem ib2_eq (h : FormedFns T) (l : List Val) (hl : l.length < 4611686018427387904) (hx : ∀ x ∈ l, x.l.length < 4611686018427387904 ∧ ∀ y ∈ x.l, Small y) (S : List (Fr Ω)) :
    denL T ib2 ⟨[(0, .sl .no 4 (encVs l)), (2, .own 2 0)], [(2, .box zc)], S, false⟩ =
      if allF l then some (.normal, ⟨[(0, .sl .no 4 (encVs l)), (2, .own 2 0)], [(2, .box zc)], S, false⟩) else some (.ret, ⟨[(2, .own 2 0), (3, .int 1)], [(2, .box zc)], S, false⟩) := by
  have e0 := fun (L : Fr Ω) => vbag_loop0 h l hl hx S l.length 0 L (by omega)
  simp only [nat0, List.drop_zero] at e0
  clear hx
  cases c : allF l
  all_goals
    rw [c] at e0
    repeat' (first
      | (rw [nLe_yes]; rotate_left; focus ((try simp only [List.length_append, List.length_take, List.length_drop, List.length_cons, List.length_nil, encVs_length, encVs]); omega))
      | (rw [gate_mt]; split)
      | (rw [gate_mf]; split)
      | (rw [condL_m]; split)
      | (simp -implicitDefEqProofs only [go_sem, initFS, number, Nat.reduceAdd, ib2, icL, icR, ir_value_Bag, *]))
theorem ib3_eq (l : List Val) (hl : l.length < 4611686018427387904) (S : List (Fr Ω)) :
    denL T ib3 ⟨[(0, .sl .no 4 (encVs l)), (2, .own 2 0)], [(2, .box zc)], S, false⟩ =
      if badL (headK l) l then some (.ret, ⟨[(2, .own 2 0), (3, .int 6)], [(2, .box zc)], S, false⟩) else some (.normal, ⟨[(0, .sl .no 4 (encVs l)), (2, .own 2 0)], [(2, .box zc)], S, false⟩) := by
  have e0 := fun (L : Fr Ω) => vbag_loop1 (T := T) l hl S l.length 0 L (by omega)
  simp only [nat0, List.drop_zero] at e0
  cases c : badL (headK l) l
  all_goals
    rw [c] at e0
    repeat' (first
      | (rw [nLe_yes]; rotate_left; focus ((try simp only [List.length_append, List.length_take, List.length_drop, List.length_cons, List.length_nil, encVs_length, encVs]); omega))
      | (rw [gate_mt]; split)
      | (rw [gate_mf]; split)
      | (rw [condL_m]; split)
      | (simp -implicitDefEqProofs only [go_sem, initFS, number, Nat.reduceAdd, ib3, icL, icR, ir_value_Bag, *]))
theorem ib7_eq (out : List Val) (S : List (Fr Ω)) :
    denL T ib7 ⟨[(2, .own 2 0), (8, .sl .no 4 (encVs out))], [(2, .box zc)], S, false⟩ =
      if iLt 16 out.length then some (.ret, ⟨[(2, .own 2 0), (3, .int 13)], [(2, .box zc)], S, false⟩) else some (.ret, ⟨[(2, .own 2 0), (3, .int 0)], [(2, .box (oc out))], S, false⟩) := by
  repeat' (first
    | (rw [nLe_yes]; rotate_left; focus ((try simp only [List.length_append, List.length_take, List.length_drop, List.length_cons, List.length_nil, encVs_length, encVs]); omega))
    | (rw [gate_mt]; split)
    | (rw [gate_mf]; split)
    | (rw [condL_m]; split)
    | (simp -implicitDefEqProofs only [go_sem, initFS, number, Nat.reduceAdd, ib7, icL, icR, ir_value_Bag, *]))
end Go.Fw.EqV
end
section
/- value.Bag, proved by hand in its middle. -/
set_option maxRecDepth 100000
namespace Go.Fw
variable {Ω : Type} {O : OpqSem Ω} {N : Nat} {P : Program} {RO : Nat → Bool}
set_option linter.all false

theorem Inv.putU {st : FS Ω} {a : Act} {E : Env} {τ : Nat → Tag} (hI : Inv O N st a E τ) {d : Nat} (hd : d < N) (hu : getS st.sl d = .undef) (v : Value) : Inv O N st (a.put (some d) v) E τ := by
  have hdn : d < a.tmps.size := Nat.lt_of_lt_of_le hd hI.size
  have ht := tmps_put a d v hdn
  have hne : ∀ t, getS st.sl t ≠ .undef → (a.put (some d) v).tmps.getD t Go.undef = a.tmps.getD t Go.undef := by
    intro t h
    rw [ht, if_neg]
    rintro rfl
    exact h hu
  constructor
  · exact hI.me
  · exact hI.defers
  · have : (a.put (some d) v).tmps.size = a.tmps.size := by simp [Act.put]
    rw [this]; exact hI.size
  · intro t
    by_cases h : t = d
    · rw [h, hu]; exact .pure (.undef _)
    · rw [ht, if_neg h]; exact hI.slots t
  · exact hI.frames
  · exact hI.mine
  · exact hI.wfs
  · intro t z es hp
    rw [hne t (by rw [hp]; simp)]
    exact hI.rights t z es hp
  · intro hdt t x z es hp ho
    rw [hne t (by rw [hp]; simp), hne x (by intro h; rw [h] at ho; cases ho)]
    exact hI.alSlot hdt t x z es hp ho
  · intro hdt t k off z es cs z' es' hp
    rw [hne t (by rw [hp]; simp)]
    exact hI.alCell hdt t k off z es cs z' es' hp
  · intro hdt t d' k off z es F cs z' es' hp
    rw [hne t (by rw [hp]; simp)]
    exact hI.alOut hdt t d' k off z es F cs z' es' hp
  · exact hI.fresh
  · exact hI.alP

theorem ops_value {ops : Array Oper} {i : Nat} {rest : List Nat} {o : Oper} {a : Act} {w : World} {Q : Exit → Act → World → Prop} {x : Operand} (ho : ops[i]? = some o) (hg : o.guard = none) (hop : o.op = .move x ∨ o.op = .assign x)
    (hK : wpOps P ops Q rest (a.put o.dst (a.eval x)) w) : wpOps P ops Q (i :: rest) a w := by
  have hw : Region.wanted o (yielded ops a.tmps) = true := by simp [Region.wanted, hg]
  have hrun : (execOp a.eval o).run P w = .ok (.value (a.eval x)) w := by
    rcases hop with h | h
    · simp only [execOp, h]; rfl
    · simp only [execOp, h]; rfl
  simp only [wpOps, ho, hw, if_true]
  left
  unfold Oper.wp
  rw [hrun]
  exact hK
theorem ops_call {ops : Array Oper} {i : Nat} {rest : List Nat} {o : Oper} {a : Act} {w : World} {Q : Exit → Act → World → Prop} {f : Nat} {args : Array Operand} {ts : Array TypeId} {fn : Func} {c : Code} (ho : ops[i]? = some o) (hg : o.guard = none)
    (hop : o.op = .call { callee := .value (.func f), args := args, argTypes := ts }) (hf : P.funcs[f]? = some fn) (hb : fn.body = some c) (hn : (fn.name == "runtime.NumGoroutine") = false) {vs : Array Value} (hvs : args.map a.eval = vs)
    (hC : Calls P f vs w fun e w' => ∃ v, e = .returned v ∧ wpOps P ops Q rest (a.put o.dst v) w') : wpOps P ops Q (i :: rest) a w := by
  have hw : Region.wanted o (yielded ops a.tmps) = true := by simp [Region.wanted, hg]
  have hn : ¬ fn.name = "runtime.NumGoroutine" := by intro e; rw [e] at hn; simp at hn
  have hev : a.eval (.func f) = .func (.func f) ⟨[]⟩ ⟨[]⟩ := rfl
  have hrun : (execOp a.eval o).run P w = .ok (.enter f vs) w := by
    simp only [execOp, hop, resolve, Deferred.ofValue, hev, invoke, Sem.run_bind, Sem.run_pure, Result.andThen_ok]
    have : (Array.mk [] ++ args.map a.eval) ++ Array.mk [] = vs := by rw [hvs]; simp
    rw [this]
    simp [callFunc, hf, hn, hb]
  simp only [wpOps, ho, hw, if_true]
  left
  unfold Oper.wp
  rw [hrun]
  refine Calls.mono hC ?_
  rintro e w' ⟨v, rfl, h⟩
  exact h

theorem codeL_ok {T : Nat → Option (Ent Ω)} (hT : TableOK P O RO T) {ic : ICode} {c : Code} (hk : chkCode P RO N c ic = true) : CodeOK P O N c (denL T ic) := by
  intro st x st' h a E τ hI Q hQ
  obtain ⟨n, hn⟩ := of_denL T h
  exact code_ok (sound_interp hT n) (ro_interp hT n) hT.mixed n ic c hk st x st' hn a E τ hI Q hQ
end Go.Fw
end
section
/- value.Bag, II: the middle; the whole. -/
set_option maxRecDepth 100000
namespace Go.Fw.EqV
open Go Go.Fw Go.Fw.Ir Go.Fw.Gp Go.Proofs Go.Shelf Go.RowKit Go.Sort Go.Fw.CompK
variable {Ω : Type} {O : OpqSem Ω} {Γ : Orc Ω} {k0 : Int}
set_option maxHeartbeats 4000000
set_option linter.all false

def cL : Code → Code
  | .seq a _ => a
  | c => c
def cR : Code → Code
  | .seq _ b => b
  | c => c
def opsOf : Code → Array Oper
  | .region _ ops _ => ops
  | _ => #[]
def idOf : Code → Nat
  | .region i _ _ => i
  | _ => 0
noncomputable def cB : Code := (Try.f6.body).getD .skip
noncomputable def c1 : Code := cL cB
noncomputable def c2 : Code := cL (cR cB)
noncomputable def c3 : Code := cL (cR (cR cB))
noncomputable def c13 : Code := cL (cR (cR (cR cB)))
noncomputable def c14 : Code := cL (cR (cR (cR (cR cB))))
noncomputable def c15 : Code := cL (cR (cR (cR (cR (cR cB)))))
noncomputable def c7 : Code := cR (cR (cR (cR (cR (cR cB)))))
theorem f6_body : Try.f6.body = some (.seq c1 (.seq c2 (.seq c3 (.seq c13 (.seq c14 (.seq c15 c7)))))) := rfl
theorem chk1 : chkCode Try.prog noRO 57 c1 ib1 = true := by kernel_rfl
theorem chk2 : chkCode Try.prog noRO 57 c2 ib2 = true := by kernel_rfl
theorem chk3 : chkCode Try.prog noRO 57 c3 ib3 = true := by kernel_rfl
theorem chk7 : chkCode Try.prog noRO 57 c7 ib7 = true := by kernel_rfl
theorem c13_eq : c13 = .region (idOf c13) (opsOf c13) false := rfl
theorem c14_eq : c14 = .region (idOf c14) (opsOf c14) false := rfl
theorem c15_eq : c15 = .region (idOf c15) (opsOf c15) false := rfl

theorem calm_a3 {E : Env} {τ : Nat → Tag} {w3 : World} {σ3 : Seal} (hf : ∀ b, E.w.heap.size ≤ b → E.σ b = 0 ∧ τ b = .frn) (hk : Kept E.w w3) (h1 : ∀ b, b < E.w.heap.size → σ3 b = E.σ b) (h2 : ∀ b, w3.heap.size ≤ b → σ3 b = 0) :
    Calm E { E with w := w3, σ := σ3 } τ τ := by
  refine ⟨⟨hk.size, ⟨fun b => ?_, fun b o ho => ?_⟩, fun b hb hτ => ⟨hk.block b hb, hτ, h1 b hb⟩, hk.os, hk.tape, hk.output, hk.drawn⟩, rfl, rfl, fun _ _ => rfl, fun b hb _ => ⟨hk.block b hb, rfl, h1 b hb⟩, fun b hb => ⟨h2 b hb, (hf b (Nat.le_trans hk.size hb)).2⟩⟩
  · show E.σ b ≤ σ3 b
    rcases Nat.lt_or_ge b E.w.heap.size with h | h
    · rw [h1 b h]; exact Nat.le_refl _
    · rw [(hf b h).1]; exact Nat.zero_le _
  · have hb : b < E.w.heap.size := by
      rcases Nat.lt_or_ge b E.w.heap.size with h | h
      · exact h
      · rw [(hf b h).1] at ho; omega
    exact World.cell?_of_block (w := E.w) (hk.block b hb)

theorem mid_ok (hΓ : Sound Try.prog O Γ) (l : List Val) (hl : l.length ≤ 30) (hp : ∀ y ∈ l, Gd k0 y) (h13 : l ≠ [] → Γ 13 [.sl .no 4 (encVs l)] [] = some (.sl .own 4 (encVs l), none, []))
    (h15 : ∀ x y : El k0, Γ 15 [.agg (encV x.v), .agg (encV y.v)] [] = some (.int (ordV x.v y.v), none, [])) (h17 : ∀ x y : El k0, Γ 17 [.agg (encV x.v), .agg (encV y.v)] [] = some (.sc (.bool (iEq (ordV x.v y.v) 0)), none, []))
    {L : Fr Ω} {S : List (Fr Ω)} {a : Act} {E : Env} {τ : Nat → Tag} (hI : Inv O 57 ⟨[(0, .sl .no 4 (encVs l)), (2, .own 2 0)], L, S, false⟩ a E τ) {Q : Exit → Act → World → Prop}
    (hQ : ∀ a' E' τ', Inv O 57 ⟨[(2, .own 2 0), (8, .sl .no 4 (encVs (l.foldl insB [])))], L, S, false⟩ a' E' τ' → Step E E' τ τ' → c7.wp Try.prog Q a' E'.w) :
    (Code.seq c13 (.seq c14 (.seq c15 c7))).wp Try.prog Q a E.w := by
  have hσ : ∀ b, E.w.heap.size ≤ b → E.σ b = 0 := fun b hb => (hI.fresh b hb).1
  have hsz := hI.size
  have hv : RP E.w E.σ (.sl .no 4 (encVs l)) (a.tmps.getD 0 Go.undef) := (hI.slots 0).sl_inv
  obtain ⟨v0, hv0⟩ : ∃ v, v = a.tmps.getD 0 Go.undef := ⟨_, rfl⟩
  rw [← hv0] at hv
  -- the copy
  refine wp_seq ?_
  rw [c13_eq]
  refine wp_region ?_
  show wpOps _ _ _ [0, 1, 2] _ _
  refine ops_value (x := .tmp 0) (o := (opsOf c13)[0]'(by decide)) rfl rfl (.inl rfl) ?_
  have I1 := hI.putU (d := 45) (by decide) rfl (a.eval (.tmp 0))
  have q1 := tmps_put a 45 (a.eval (.tmp 0)) (by omega) 45
  rw [if_pos rfl] at q1
  show wpOps _ _ _ [1, 2] (a.put (some 45) (a.eval (.tmp 0))) _
  generalize a.put (some 45) (a.eval (.tmp 0)) = a1 at I1 q1 ⊢
  have q1 : a1.tmps.getD 45 Go.undef = v0 := by rw [q1, hv0]; rfl
  have s1 := I1.size
  refine ops_call (o := (opsOf c13)[1]'(by decide)) rfl rfl (f := 13) (args := #[.tmp 45]) rfl Try.func13 rfl rfl (vs := #[v0]) (by simp only [List.map_toArray, List.map_cons, List.map_nil, Act.eval, q1]) ?_
  refine (mid1 hΓ l h13 hσ hv hp).mono ?_
  rintro e w1 ⟨v1, rfl, A⟩
  refine ⟨v1, rfl, ?_⟩
  show wpOps _ _ _ [2] (a1.put (some 46) v1) _
  have I2 := I1.putU (d := 46) (by decide) rfl v1
  have q2 := tmps_put a1 46 v1 (by omega) 46
  rw [if_pos rfl] at q2
  generalize a1.put (some 46) v1 = a2 at I2 q2 ⊢
  have s2 := I2.size
  refine ops_value (x := .tmp 46) (o := (opsOf c13)[2]'(by decide)) rfl rfl (.inr rfl) ?_
  show wpOps _ _ _ [] (a2.put (some 8) (a2.tmps.getD 46 Go.undef)) _
  rw [q2]
  have I3 := I2.putU (d := 8) (by decide) rfl v1
  have q3 := tmps_put a2 8 v1 (by omega) 8
  rw [if_pos rfl] at q3
  generalize a2.put (some 8) v1 = a3 at I3 q3 ⊢
  have s3 := I3.size
  clear I1 I2 q1 q2 s1 s2
  -- the sort
  show (Code.seq c14 (.seq c15 c7)).wp Try.prog Q a3 w1
  refine wp_seq ?_
  rw [c14_eq]
  refine wp_region ?_
  show wpOps _ _ _ [0, 1] _ _
  refine ops_value (x := .tmp 8) (o := (opsOf c14)[0]'(by decide)) rfl rfl (.inl rfl) ?_
  show wpOps _ _ _ [1] (a3.put (some 47) (a3.tmps.getD 8 Go.undef)) _
  rw [q3]
  have I4 := I3.putU (d := 47) (by decide) rfl v1
  have q4 := tmps_put a3 47 v1 (by omega) 47
  have q4' := tmps_put a3 47 v1 (by omega) 8
  rw [if_pos rfl] at q4
  rw [if_neg (by decide), q3] at q4'
  generalize a3.put (some 47) v1 = a4 at I4 q4 q4' ⊢
  have s4 := I4.size
  refine ops_call (o := (opsOf c14)[1]'(by decide)) rfl rfl (f := 14) (args := #[.tmp 47, .func 15]) rfl Try.func14 rfl rfl (vs := #[v1, .func (.func 15) #[] #[]]) (by simp only [List.map_toArray, List.map_cons, List.map_nil, Act.eval, q4]) ?_
  refine (mid2 hΓ h15 hl hσ A).mono ?_
  rintro e w2 ⟨rfl, A⟩
  refine ⟨_, rfl, ?_⟩
  show wpOps _ _ _ [] (a4.put (some 48) (.tuple #[])) _
  have I5 := I4.putU (d := 48) (by decide) rfl (.tuple #[])
  have q5 := tmps_put a4 48 (.tuple #[]) (by omega) 8
  rw [if_neg (by decide), q4'] at q5
  generalize a4.put (some 48) (.tuple #[]) = a5 at I5 q5 ⊢
  have s5 := I5.size
  clear I3 I4 q3 q4 q4' s3 s4
  -- what is twice goes
  show (Code.seq c15 c7).wp Try.prog Q a5 w2
  refine wp_seq ?_
  rw [c15_eq]
  refine wp_region ?_
  show wpOps _ _ _ [0, 1, 2] _ _
  refine ops_value (x := .tmp 8) (o := (opsOf c15)[0]'(by decide)) rfl rfl (.inl rfl) ?_
  show wpOps _ _ _ [1, 2] (a5.put (some 49) (a5.tmps.getD 8 Go.undef)) _
  rw [q5]
  have I6 := I5.putU (d := 49) (by decide) rfl v1
  have q6 := tmps_put a5 49 v1 (by omega) 49
  rw [if_pos rfl] at q6
  generalize a5.put (some 49) v1 = a6 at I6 q6 ⊢
  have s6 := I6.size
  refine ops_call (o := (opsOf c15)[1]'(by decide)) rfl rfl (f := 16) (args := #[.tmp 49, .func 17]) rfl Try.func16 rfl rfl (vs := #[v1, .func (.func 17) #[] #[]]) (by simp only [List.map_toArray, List.map_cons, List.map_nil, Act.eval, q6]) ?_
  refine (mid3 hΓ h17 hl hp hσ A).mono ?_
  rintro e w3 ⟨v3, rfl, hk, σ3, hr, k1, k2⟩
  refine ⟨v3, rfl, ?_⟩
  show wpOps _ _ _ [2] (a6.put (some 50) v3) _
  have I7 := I6.putU (d := 50) (by decide) rfl v3
  have q7 := tmps_put a6 50 v3 (by omega) 50
  rw [if_pos rfl] at q7
  generalize a6.put (some 50) v3 = a7 at I7 q7 ⊢
  have s7 := I7.size
  refine ops_value (x := .tmp 50) (o := (opsOf c15)[2]'(by decide)) rfl rfl (.inr rfl) ?_
  show wpOps _ _ _ [] (a7.put (some 8) (a7.tmps.getD 50 Go.undef)) _
  rw [q7]
  have hC := calm_a3 hI.fresh hk k1 k2
  have I8 := (I7.calm hC).putPlain (dst := some 8) (p := .sl .no 4 (encVs (l.foldl insB []))) (v := v3) (by rintro d ⟨⟩; decide) (.pure hr) rfl rfl
  exact hQ _ _ _ (I8.regEnd [2, 8]) hC.step
end Go.Fw.EqV
end
section
/- value.Bag, III: the whole. -/
set_option maxRecDepth 100000
namespace Go.Fw.EqV
open Go Go.Fw Go.Fw.Ir Go.Fw.Gp Go.Proofs
variable {Ω : Type} {O : OpqSem Ω} {T : Nat → Option (Ent Ω)}
set_option maxHeartbeats 4000000
set_option linter.all false

def bagV (l : List Val) : Val × Int := if allF l then bagR l else (zeroV, 1)
theorem good_of : ∀ {l : List Val} {k0 : Int}, allF l = true → badL k0 l = false → ∀ y ∈ l, Gd k0 y
  | [], _, _, _, y, hy => by simp at hy
  | x :: r, k0, h, hb, y, hy => by
    simp only [allF, Bool.and_eq_true] at h
    simp only [badL, Bool.or_eq_false_iff, Bool.not_eq_false'] at hb
    rcases List.mem_cons.1 hy with rfl | hy
    · have h1 := h.1
      unfold formedV at h1
      rw [hb.1.1.2] at h1
      exact ⟨by simpa using h1, iEq_iff.1 hb.1.2⟩
    · exact good_of h.2 hb.2 y hy

theorem ret0 (n : Int) (S : List (Fr Ω)) : retOf ir_value_Bag.rets ir_value_Bag.gives (⟨[(2, .own 2 0), (3, .int n)], [(2, .box zc)], S, false⟩ : FS Ω) = some (.tup [.agg (encV zeroV), .int n], none, S) := rfl
theorem ret1 (out : List Val) (n : Int) (S : List (Fr Ω)) : retOf ir_value_Bag.rets ir_value_Bag.gives (⟨[(2, .own 2 0), (3, .int n)], [(2, .box (oc out))], S, false⟩ : FS Ω) = some (.tup [.agg (encV (.mk 5 0 ⟨#[]⟩ out)), .int n], none, S) := rfl
theorem chkr : chkRes Try.prog Try.f6.results.toList ir_value_Bag.rets ir_value_Bag.gives = true := by kernel_rfl

theorem bag_runs (hT : TableOK Try.prog O noRO T) (hF : FormedFns T) (h13 : T f_slices_Clone_api_Value = some (.fn ir_cloneG)) (h17 : T f_value_Bag_c1 = some (.fn ir_value_Bag_c1)) (l : List Val) (hl : l.length ≤ 30) (hx : ∀ x ∈ l, x.l.length < 4611686018427387904 ∧ ∀ y ∈ x.l, Small y)
    (S : List (Fr Ω)) {E : Env} {τ : Nat → Tag} {args : List Value} (hin : CallIn O [.sl .no 4 (encVs l)] S E τ args) :
    Runs Try.prog 6 ⟨args⟩ E.w fun v w' => ∃ E' τ', E'.w = w' ∧ RetOK O (.tup [.agg (encV (bagV l).1), .int (bagV l).2], none, S) E τ v E' τ' := by
  have hrun : (callFunc 6 ⟨args⟩).run Try.prog E.w = .ok (.enter 6 ⟨args⟩) E.w := enters_of Try.func6 (by kernel_rfl) rfl _ _
  unfold Runs
  rw [hrun]
  refine calls_of_wp Try.func6 f6_body ?_
  have hI : Inv O 57 ⟨[(0, .sl .no 4 (encVs l))], [], S, false⟩ _ E τ := init_inv hin 57
  have hend : ∀ {st : FS Ω} {r : Ret Ω} {a' : Act} {E' : Env} {τ' : Nat → Tag}, retOf ir_value_Bag.rets ir_value_Bag.gives st = some r → Inv O 57 st a' E' τ' → Step E E' τ τ' →
      a'.defers = [] ∧ ∃ v, (results Try.f6 a'.tmps).run Try.prog E'.w = .ok v E'.w ∧ ∃ E2 τ2, E2.w = E'.w ∧ RetOK O r E τ v E2 τ2 := by
    intro st r a' E' τ' hr hI' hs
    exact ⟨hI'.defers, end_ok hI' hs chkr hr⟩
  have hΓ := sound_G hT
  refine wp_seq ?_
  refine codeL_ok hT chk1 _ _ _ (ib1_eq l S) _ E τ hI _ fun a1 E1 τ1 I1 p1 => ?_
  refine wp_seq ?_
  have e2 := ib2_eq hF l (by omega) hx S
  cases c1 : allF l with
  | false =>
    rw [c1, if_neg (by simp)] at e2
    refine codeL_ok hT chk2 _ _ _ e2 _ E1 τ1 I1 _ fun a2 E2 τ2 I2 p2 => ?_
    have hb : bagV l = (zeroV, 1) := by simp [bagV, c1]
    rw [hb]
    exact hend (ret0 1 S) I2 (p1.trans p2)
  | true =>
    rw [c1, if_pos rfl] at e2
    refine codeL_ok hT chk2 _ _ _ e2 _ E1 τ1 I1 _ fun a2 E2 τ2 I2 p2 => ?_
    have hb : bagV l = bagR l := by simp [bagV, c1]
    rw [hb]
    refine wp_seq ?_
    have e3 := ib3_eq (T := T) l (by omega) S
    cases c2 : badL (headK l) l with
    | true =>
      rw [c2, if_pos rfl] at e3
      refine codeL_ok hT chk3 _ _ _ e3 _ E2 τ2 I2 _ fun a3 E3 τ3 I3 p3 => ?_
      have hb : bagR l = (zeroV, 6) := by simp [bagR, c2]
      rw [hb]
      exact hend (ret0 6 S) I3 ((p1.trans p2).trans p3)
    | false =>
      rw [c2, if_neg (by simp)] at e3
      refine codeL_ok hT chk3 _ _ _ e3 _ E2 τ2 I2 _ fun a3 E3 τ3 I3 p3 => ?_
      have hg := good_of c1 c2
      refine mid_ok (k0 := headK l) hΓ l hl hg (fun hne => ?_) (fun x y => order_eq hF.toOrdFns _ x.v (Nat.le_refl _) x.small y.v []) (fun x y => bag1_eq hF.toOrdFns h17 x.v y.v x.small []) I3 fun a4 E4 τ4 I4 p4 => ?_
      · cases l with
        | nil => exact absurd rfl hne
        | cons x r => exact clone_eq h13 (encV x) (encVs r) (by simpa [encVs_length] using hl) []
      · have e7 := ib7_eq (T := T) (l.foldl insB []) S
        cases c3 : iLt 16 ((l.foldl insB []).length : Int) with
        | true =>
          rw [c3, if_pos rfl] at e7
          refine codeL_ok hT chk7 _ _ _ e7 _ E4 τ4 I4 _ fun a5 E5 τ5 I5 p5 => ?_
          have hb : bagR l = (zeroV, 13) := by simp [bagR, c2, c3]
          rw [hb]
          exact hend (ret0 13 S) I5 (((p1.trans p2).trans p3).trans (p4.trans p5))
        | false =>
          rw [c3, if_neg (by simp)] at e7
          refine codeL_ok hT chk7 _ _ _ e7 _ E4 τ4 I4 _ fun a5 E5 τ5 I5 p5 => ?_
          have hb : bagR l = (.mk 5 0 ⟨#[]⟩ (l.foldl insB []), 0) := by simp [bagR, c2, c3]
          rw [hb]
          exact hend (ret1 _ 0 S) I5 (((p1.trans p2).trans p3).trans (p4.trans p5))
end Go.Fw.EqV
end
section
/- The plain law of bags, III. -/
set_option maxRecDepth 100000
namespace Go.Fw.EqV
open Go Go.Fw Go.Fw.Gp
set_option linter.all false
set_option maxHeartbeats 1000000

theorem allR_eq : ∀ l : List Val, allR l = allF l
  | [] => rfl
  | x :: r => by simp only [allR, allF, formed_ref, allR_eq r]
theorem fmt_rise {k0 : Int} (h0 : k0 ≠ 0) : ∀ (out : List Val) (p : Option Val), (∀ y ∈ out, Gd k0 y) → Rise out → (∀ q, p = some q → Gd k0 q ∧ ∀ y ∈ out, singleI q y < 0) → fmt plainB ordV k0 p out = true
  | [], p, _, _, _ => by cases p <;> rfl
  | x :: r, p, hg, hr, hp => by
    have gx := hg x (by simp)
    have hr := List.pairwise_cons.1 hr
    have ih := fmt_rise h0 r (some x) (fun y hy => hg y (by simp [hy])) hr.2 (fun q hq => by cases hq; exact ⟨gx, hr.1⟩)
    have e0 : iEq x.k 0 = false := by rw [Bool.eq_false_iff, ne_eq, iEq_iff, gx.2]; exact h0
    have e1 : iEq x.k k0 = true := iEq_iff.2 gx.2
    simp only [fmt, gx.1, e0, e1, ih, Bool.not_false, Bool.true_and, Bool.and_true]
    cases p with
    | none => rfl
    | some q =>
      obtain ⟨hq1, hq2⟩ := hp q rfl
      have := hq2 x (by simp)
      simp only [ord_single hq1.1 gx.1 (hq1.2.trans gx.2.symm), iLe_def, Bool.not_eq_true', decide_eq_false_iff_not]
      omega
theorem bad_ne {k0 : Int} : ∀ {l : List Val}, badL k0 l = false → ∀ y ∈ l, y.k ≠ 0
  | [], _, y, hy => by simp at hy
  | x :: r, h, y, hy => by
    simp only [badL, Bool.or_eq_false_iff] at h
    rcases List.mem_cons.1 hy with rfl | hy
    · intro e
      rw [e] at h
      have := h.1.1.1
      rw [iEq_self] at this; cases this
    · exact bad_ne h.2 y hy
theorem fold_len : ∀ (l out : List Val), (l.foldl insB out).length ≤ out.length + l.length
  | [], out => by simp
  | x :: r, out => by
    have := fold_len r (insB out x)
    have := insB_length out x
    simp only [List.foldl_cons, List.length_cons]
    omega
/-- What the bag is, where there is one. -/
theorem bag_case (l : List Val) (hl : l.length ≤ 30) : (bagV l).1.l.length ≤ 30 ∧ (∀ x ∈ (bagV l).1.l, Small x) ∧
    ((allR l = false ∧ (bagV l).2 = 1 ∧ sameV (bagV l).1 zeroV = true) ∨ (allR l = true ∧ (bagV l).2 = (bagR l).2 ∧ sameV (bagV l).1 (bagR l).1 = true ∧ ((bagV l).2 = 0 → formedV (bagV l).1 = true))) := by
  have hz : sameV zeroV zeroV = true := sameV_self (by simp [zeroV, Val.l])
  rw [allR_eq]
  unfold bagV
  cases c1 : allF l with
  | false =>
    simp only [Bool.false_eq_true, if_false]
    exact ⟨by simp [zeroV, Val.l], by simp [zeroV, Val.l], .inl ⟨trivial, trivial, hz⟩⟩
  | true =>
    simp only [if_true]
    unfold bagR
    cases c2 : badL (headK l) l with
    | true =>
      simp only [if_true]
      exact ⟨by simp [zeroV, Val.l], by simp [zeroV, Val.l], .inr ⟨trivial, trivial, hz, fun h => by simp at h⟩⟩
    | false =>
      simp only [Bool.false_eq_true, if_false]
      cases c3 : iLt 16 ((l.foldl insB []).length : Int) with
      | true =>
        simp only [if_true]
        exact ⟨by simp [zeroV, Val.l], by simp [zeroV, Val.l], .inr ⟨trivial, trivial, hz, fun h => by simp at h⟩⟩
      | false =>
        simp only [Bool.false_eq_true, if_false]
        obtain ⟨h1, h2, h3⟩ := fold_facts l [] (good_of c1 c2) (by simp) (by simp [Rise])
        have hflat : ∀ y ∈ l.foldl insB [], y.l = [] := fun y hy => (plain_facts (h2 y hy).1).1
        refine ⟨?_, ?_, .inr ⟨trivial, trivial, sameV_self hflat, fun _ => ?_⟩⟩
        · have := fold_len l []
          simp only [Val.l, List.length_nil] at this ⊢
          omega
        · intro y hy
          have := hflat y hy
          cases y with
          | mk k i s l' =>
            simp only [Val.l] at this
            subst this
            exact .mk k i s [] (by simp) (by simp)
        · have hh : fmt plainB ordV (headK (l.foldl insB [])) none (l.foldl insB []) = true := by
            cases hq : l.foldl insB [] with
            | nil => rfl
            | cons x r =>
              rw [hq] at h1 h2
              have gx := h2 x (by simp)
              have hx0 : x.k ≠ 0 := bad_ne c2 x (by
                have := (h3 x).1 (by rw [hq]; simp)
                simpa using this)
              show fmt plainB ordV x.k none (x :: r) = true
              refine fmt_rise hx0 (x :: r) none (fun y hy => ⟨(h2 y hy).1, (h2 y hy).2.trans gx.2.symm⟩) h1 (fun q hq => by cases hq)
          have h16 : iLe ((l.foldl insB []).length : Int) 16 = true := by
            rw [iLt_def] at c3
            rw [iLe_def]
            simp at c3 ⊢
            omega
          have e5 : iEq 5 5 = true := iEq_self 5
          have e0 : iEq 0 0 = true := iEq_self 0
          have es : sEq ⟨#[]⟩ ⟨#[]⟩ = true := sEq_iff.2 rfl
          simp only [formedV, Val.k, Val.i, Val.s, Val.l, hh, h16, e5, e0, es, Bool.not_true, Bool.false_eq_true, if_false, if_true, Bool.and_true]

mutual
theorem encV_inj : ∀ {a b : Val}, encV a = encV b → a = b
  | .mk k i s l, .mk k' i' s' l', h => by
    simp only [encV, List.cons.injEq, PV.sc.injEq, Value.int.injEq, true_and, Value.string.injEq, PV.sl.injEq, and_true] at h
    obtain ⟨h1, h2, h3, h4⟩ := h
    rw [h1, h2, h3, encVs_inj h4]
theorem encVs_inj : ∀ {a b : List Val}, encVs a = encVs b → a = b
  | [], [], _ => rfl
  | [], _ :: _, h => by simp [encVs] at h
  | _ :: _, [], h => by simp [encVs] at h
  | x :: a, y :: b, h => by
    simp only [encVs, List.cons.injEq] at h
    rw [encV_inj h.1, encVs_inj h.2]
end
end Go.Fw.EqV
end
section
/- ValueBags: the statement. -/
set_option maxRecDepth 100000
namespace Go.Fw.EqV
open Go Go.Fw Go.Fw.Ir Go.Fw.Gp Go.Proofs
set_option linter.all false
set_option maxHeartbeats 1000000

/-- Nothing is known by hand but what is proved. -/
def noOpq : OpqSem Unit where
  holds := fun _ _ _ _ _ => False
  self := fun h => h.elim
  there := fun h => h.elim
  keep := fun h _ _ => h.elim

def tab : List (Nat × IFunc) := [(f_gatepostlaw02_ValueBags, ir_gatepostlaw02_ValueBags), (f_gatepostlaw02_awake, ir_gatepostlaw02_awake), (f_gatepostref02_Few, ir_gatepostref02_Few), (f_gatepostref02_Same, ir_gatepostref02_Same),
  (f_gatepostref02_Formed, ir_gatepostref02_Formed), (f_gatepostref02_Bag, ir_gatepostref02_Bag), (f_value_Formed, ir_value_Formed), (f_value_Add, ir_value_Add), (f_value_Number, ir_value_Number), (f_slices_Clone_api_Value, ir_cloneG),
  (f_value_Order, ir_value_Order), (f_value_Bag_c1, ir_value_Bag_c1), (f_gatepostref02_one, ir_gatepostref02_one), (f_gatepostref02_single, ir_gatepostref02_single), (f_value_plain, ir_value_plain), (f_value_kinds, ir_value_kinds), (f_value_number, ir_value_number),
  (f_value_sum, ir_value_sum), (f_cmp_Or_int, ir_cmp_Or_int), (f_cmp_Compare_int, ir_cmp_Compare_int), (f_cmp_Compare_int64, ir_cmp_Compare_int64), (f_strings_Compare, ir_strings_Compare), (f_slices_CompareFunc_api_Value, ir_slices_CompareFunc_api_Value),
  (f_gatepostref02_numbers, ir_gatepostref02_numbers), (f_gatepostref02_Texts, ir_gatepostref02_Texts), (f_cmp_isNaN_int, ir_cmp_isNaN_int), (f_cmp_isNaN_int64, ir_cmp_isNaN_int64), (f_bytealg_CompareString, ir_bytealg_CompareString)]
theorem tab_ok : ∀ p ∈ tab, FnChk Try.prog noRO p.1 p.2 := by
  simp only [tab, List.forall_mem_cons]
  exact ⟨chk_gatepostlaw02_ValueBags, chk_gatepostlaw02_awake, chk_gatepostref02_Few, chk_gatepostref02_Same, chk_gatepostref02_Formed, chk_gatepostref02_Bag, chk_value_Formed, chk_value_Add, chk_value_Number, chk_cloneG, chk_value_Order, chk_value_Bag_c1,
    chk_gatepostref02_one, chk_gatepostref02_single, chk_value_plain, chk_value_kinds, chk_value_number, chk_value_sum, chk_cmp_Or_int, chk_cmp_Compare_int, chk_cmp_Compare_int64, chk_strings_Compare, chk_slices_CompareFunc_api_Value,
    chk_gatepostref02_numbers, chk_gatepostref02_Texts, chk_cmp_isNaN_int, chk_cmp_isNaN_int64, chk_bytealg_CompareString, by simp⟩
theorem look_mem {α : Type} : ∀ {l : List (Nat × α)} {k : Nat} {v : α}, look l k = some v → (k, v) ∈ l
  | (j, u) :: r, k, v, h => by
    simp only [look] at h
    split at h
    · rename_i hj
      have := Nat.eq_of_beq_eq_true hj
      subst this
      cases h
      simp
    · exact List.mem_cons_of_mem _ (look_mem h)
def pr (o : Option (List PV → List (Fr Unit) → Option (Ret Unit))) : Option (Ent Unit) := o.map .prim
def T0 (f : Nat) : Option (Ent Unit) :=
  match look tab f with
  | some i => some (.fn i)
  | none => if Nat.beq f 52 then some (.prim pCmp) else none
def Fit (l : List Val) : Prop := l.length ≤ 30 ∧ ∀ x ∈ l, x.l.length < 4611686018427387904 ∧ ∀ y ∈ x.l, Small y
open Classical in
noncomputable def pBag (vs : List PV) (S : List (Fr Unit)) : Option (Ret Unit) :=
  if h : ∃ l : List Val, vs = [.sl .no 4 (encVs l)] ∧ Fit l then some (.tup [.agg (encV (bagV (Classical.choose h)).1), .int (bagV (Classical.choose h)).2], none, S) else none
noncomputable def T1 (f : Nat) : Option (Ent Unit) := if Nat.beq f 6 then some (.prim pBag) else T0 f

theorem pCmp_ok : PrimOK Try.prog noOpq 52 (pCmp (Ω := Unit)) := by
  refine cmp_prim Try.func52 rfl rfl (by kernel_rfl) (by kernel_rfl) fun vs S r h => ?_
  unfold pCmp at h
  split at h
  · cases h; exact ⟨_, _, rfl, rfl⟩
  · cases h
theorem t0_ok : TableOK Try.prog noOpq noRO T0 where
  mixed := by kernel_rfl
  fns := fun f fn h => by
    unfold T0 at h
    split at h
    · rename_i i hi
      cases h
      exact tab_ok _ (look_mem hi)
    · split at h
      · cases h
      · cases h
  prims := fun f p h => by
    unfold T0 at h
    split at h
    · cases h
    · split at h
      · rename_i h52
        have := Nat.eq_of_beq_eq_true h52
        subst this
        cases h
        exact pCmp_ok
      · cases h
  ro := fun f h => by cases h
theorem formed0 : FormedFns T0 := ⟨⟨rfl, rfl, rfl, rfl, rfl, rfl, rfl, rfl, rfl, rfl⟩, rfl, rfl⟩
theorem pBag_eq {l : List Val} (h : Fit l) (S : List (Fr Unit)) : pBag [.sl .no 4 (encVs l)] S = some (.tup [.agg (encV (bagV l).1), .int (bagV l).2], none, S) := by
  have hex : ∃ l' : List Val, [PV.sl .no 4 (encVs l)] = [.sl .no 4 (encVs l')] ∧ Fit l' := ⟨l, rfl, h⟩
  have e : Classical.choose hex = l := by
    have := (Classical.choose_spec hex).1
    injection this with h1 _
    injection h1 with _ _ h1
    exact (encVs_inj h1).symm
  unfold pBag
  rw [dif_pos hex, e]
theorem pBag_ok : PrimOK Try.prog noOpq 6 pBag := by
  intro vs S r h E τ args hin
  have hex : ∃ l : List Val, vs = [.sl .no 4 (encVs l)] ∧ Fit l := by
    unfold pBag at h
    split at h
    · assumption
    · cases h
  obtain ⟨l, rfl, hf⟩ := hex
  rw [pBag_eq hf] at h
  cases h
  exact bag_runs t0_ok formed0 rfl rfl l hf.1 hf.2 S hin
theorem t1_ok : TableOK Try.prog noOpq noRO T1 where
  mixed := by kernel_rfl
  fns := fun f fn h => by
    unfold T1 at h
    split at h
    · cases h
    · exact t0_ok.fns f fn h
  prims := fun f p h => by
    unfold T1 at h
    split at h
    · rename_i h6
      have := Nat.eq_of_beq_eq_true h6
      subst this
      cases h
      exact pBag_ok
    · exact t0_ok.prims f p h
  ro := fun f h => by cases h
theorem law1 : LawFns T1 where
  formed := rfl
  plain := rfl
  order := rfl
  comp := rfl
  or' := rfl
  ci := rfl
  ci64 := rfl
  n1 := rfl
  n2 := rfl
  sc := rfl
  bc := rfl
  cm := rfl
  awake := rfl
  num := rfl
  add := rfl
  kinds := rfl
  sum := rfl
  number := rfl
  law := rfl
  few := rfl
  same := rfl
  ref := ⟨rfl, rfl, rfl, rfl, rfl⟩
  rbag := rfl

theorem small_flat {y : Val} (h : y.l = []) : Small y := by
  cases y with
  | mk k i s l =>
    simp only [Val.l] at h
    subst h
    exact .mk k i s [] (by simp) (by simp)
/-- The law answers true. -/
theorem law_true (l : List Val) : G T1 3 [.sl .no 4 (encVs l)] [] = some (.sc (.bool true), none, []) := by
  cases hf : fewB l 30 with
  | false => exact law_many law1 l hf []
  | true =>
    obtain ⟨hl, hx⟩ := few_facts hf
    have hfit : Fit l := ⟨hl, fun x hq => ⟨by have := (hx x hq).2.1; omega, fun y hy => small_flat ((hx x hq).2.2 y hy).2⟩⟩
    obtain ⟨b1, b2, b3⟩ := bag_case l hl
    refine law_eq law1 l (bagV l).1 (bagV l).2 hl hf (fun x hq => sameV_self fun y hy => ((hx x hq).2.2 y hy).2) (fun x hq => ⟨by have := (hx x hq).1; omega, by have := (hx x hq).2.1; omega, fun y hy => by have := ((hx x hq).2.2 y hy).1; omega⟩) (by omega) b2 ?_ b3 []
    have : T1 6 = some (.prim pBag) := rfl
    rw [G_prim T1 this]
    exact pBag_eq hfit []
end Go.Fw.EqV

namespace Go.Proofs.Ytalkelaaimkhnaa
open Go Go.Fw Go.Fw.Gp Go.Fw.EqV
open Go.ChangeShapes Go.WideShapes Go.RowKit
theorem Try.own : ownKnob Try.prog.godebug = none := by kernel_rfl
theorem Try.laidOut : laidOutB Try.prog = true := by kernel_rfl

theorem opensV {H : Type} (enc : TypeId × Value → H) (W : World) (n : Nat) : Opens Try.prog enc W n 26 encV OkV :=
  opens_val Try.underlying26 rfl rfl rfl rfl rfl rfl rfl rfl Try.underlying3 Try.underlying2 Try.underlying9 Try.underlying22 (by kernel_rfl) (by kernel_rfl) (by kernel_rfl) (by kernel_rfl) (by kernel_rfl) n
theorem opensL {H : Type} (enc : TypeId × Value → H) (W : World) (n : Nat) : Opens Try.prog enc W n 22 (fun xs : List Val => [.sl .no 4 (xs.map encV)]) (fun xs => (∀ x ∈ xs, OkV x) ∧ xs.length ≤ maxLen) :=
  opens_slice Try.underlying22 (by kernel_rfl) (by decide) (fun m _ => opensV enc W m) encV_len encV_cells

theorem contract (H : Type) (enc : TypeId × Value → H) (W : World) (base : Nat) (args : Array Value) (ds gs : List (DataW H)) (before : List MemPlace)
    (hval : ∀ (j : Nat) t v, Try.f3.params[j]? = some t → args[j]? = some v → Value.okWide Try.prog W .any base t v)
    (hW : DataW.Whole enc Try.prog Try.f3.params.toList Rows.valueBagsSpec.vars false W args.toList ds gs before) :
    Calls Try.prog 3 args W fun e W' => ∃ v, e = .returned v ∧ Rows.valueBagsSpec.post enc Try.prog Try.f3 false true false false W args v W' := by
  have hW' := hW
  obtain ⟨p, q, hA0, hV, rfl, hfz, hnd⟩ := hW
  have hA : DataW.TrodAll enc Try.prog W 0 (fun _ => true) true Try.f3.params.toList args.toList ds p := hA0
  rw [Try.params3] at hA hval
  obtain ⟨v0, vs0, d0, ds0, p0, q0, hargs, rfl, rfl, h0, r0⟩ := trodAll_cons hA
  obtain ⟨rfl, rfl, rfl⟩ := trodAll_nil r0
  obtain rfl : args = #[v0] := by cases args; simp_all
  obtain ⟨rfl, rfl⟩ := trodVars_none hV
  obtain ⟨a0, len, cap, rfl⟩ := okWide_slice Try.underlying22 (hval 0 22 v0 rfl rfl)
  obtain ⟨l, _, hl⟩ := open_one h0 (opensL enc W) (fun _ => rfl) rfl
  rw [← encVs_eq] at hl
  refine (law_calls t1_ok Try.func3 rfl rfl (.cons hl .nil) rfl (law_true l)).mono ?_
  rintro e W' ⟨rfl, hb⟩
  exact ⟨_, rfl, law_post Try.laidOut (by decide) rfl rfl Try.underlying4 hW' rfl hb⟩

set_option maxRecDepth 100000 in
theorem lifted (os : Os) (started : os.Started) (H : Type) (enc : TypeId × Value → H) :
    ReturnsInHanded {} Try.checked os 3 .any (Rows.valueBagsSpec.pre6 enc Try.prog Try.f3 Rows.valueBagsRow.domain false) (Rows.valueBagsSpec.post enc Try.prog Try.f3 false true false false) := by
  refine returnsInHanded_of_change (C := Try.checked) Try.own started (by kernel_rfl) Try.func3
    (ChangeSpec.witness6 (enc := enc) (C := Try.checked) false ⟨#[], #[.slice none 0 0], []⟩ 8 (by kernel_rfl) (by kernel_rfl) (by kernel_rfl) (by kernel_rfl)) ?_
  intro W base args ds gs before hval hW _ _
  exact contract H enc W base args ds gs before hval hW

theorem valueBags_holds : Rows.ValueBagsSaid :=
  OpenClaim.holds_of_wide 3 Try.f3 rfl rfl rfl rfl rfl rfl rfl ⟨rfl, rfl, rfl, rfl, rfl⟩ rfl rfl rfl rfl rfl (by kernel_rfl) Try.func3 (by kernel_rfl)
    (of_decide_eq_true (by kernel_rfl)) (by unfold Func.isWrapper; first | (rw [if_pos (by decide +kernel)]; kernel_rfl) | (rw [if_neg (by decide +kernel)]; exact ⟨rfl, rfl⟩))
    (fun os started H enc _ => lifted os started H enc)
#print axioms valueBags_holds
end Go.Proofs.Ytalkelaaimkhnaa
end
