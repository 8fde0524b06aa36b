/- Part 9 of 11 of what the statement leans on. Proved: gatepostlaw02.ValueBags returns true for every input, and the input reads behind the call as it read before; condition: none but the row's own cells. -/
import Derived.Test.YtalkelaaimkhnaaFh
import Derived.ChangeArms
import Derived.Lib.Bytealg
import Derived.Test.YtalkelaaimkhnaaProg
set_option linter.all false
section
/- What came in, as pure values. -/
namespace Go.Fw
variable {P : Program} {H : Type} {enc : TypeId × Value → H}

/-- Whatever can be read as a 't' is 'f' of something that is 'ok'. -/
def Opens (P : Program) {H : Type} (enc : TypeId × Value → H) (W : World) (n : Nat) (t : TypeId) {α : Type} (f : α → List PV) (ok : α → Prop) : Prop :=
  ∀ cs d ps, DataW.trod enc P W 0 (fun _ => true) true n t cs = some (d, ps) → ∃ x : α, ok x ∧ RPs W (sealAll W) (f x) cs

theorem opens_bool {W : World} {t : TypeId} (ht : P.underlying t = some .bool) (n : Nat) : Opens P enc W n t (fun b : Bool => [.sc (.bool b)]) (fun _ => True) := by
  intro cs d ps h
  cases n with
  | zero => simp [DataW.trod] at h
  | succ n =>
    unfold DataW.trod at h
    rw [ht] at h
    split at h
    · exact ⟨_, trivial, .cons (.sc _) .nil⟩
    all_goals simp_all

theorem opens_int {W : World} {t : TypeId} {k : IntKind} (ht : P.underlying t = some (.int k)) (n : Nat) : Opens P enc W n t (fun i : Int => [.sc (.int k i)]) (fun i => k.min ≤ i ∧ i ≤ k.max) := by
  intro cs d ps h
  cases n with
  | zero => simp [DataW.trod] at h
  | succ n =>
    unfold DataW.trod at h
    rw [ht] at h
    split at h <;> simp_all
    obtain ⟨⟨rfl, hw⟩, _⟩ := h
    exact ⟨_, by simpa [Lit.wf] using hw, .cons (.sc _) .nil⟩

theorem opens_string {W : World} {t : TypeId} (ht : P.underlying t = some .string) (n : Nat) : Opens P enc W n t (fun s : ByteArray => [.sc (.string s)]) (fun s => s.size ≤ maxLen) := by
  intro cs d ps h
  cases n with
  | zero => simp [DataW.trod] at h
  | succ n =>
    unfold DataW.trod at h
    rw [ht] at h
    split at h <;> simp_all
    exact ⟨_, h.1, .cons (.sc _) .nil⟩

theorem mapM_some_get' {α β : Type} {f : α → Option β} : ∀ {l : List α} {r : List β}, l.mapM f = some r → ∀ (i : Nat) (x : α), l[i]? = some x → ∃ y, r[i]? = some y ∧ f x = some y
  | [], _, _, i, x, h => by simp at h
  | a :: l, r, e, i, x, h => by
    simp only [List.mapM_cons, Option.bind_eq_bind, Option.bind_eq_some_iff, Option.pure_def, Option.some.injEq] at e
    obtain ⟨b, hb, bs, hbs, rfl⟩ := e
    cases i with
    | zero => simp at h; subst h; exact ⟨b, rfl, hb⟩
    | succ i => simpa using mapM_some_get' hbs i x (by simpa using h)
theorem mapM_some_len {α β : Type} {f : α → Option β} : ∀ {l : List α} {r : List β}, l.mapM f = some r → r.length = l.length
  | [], r, e => by simp at e; subst e; rfl
  | a :: l, r, e => by
    simp only [List.mapM_cons, Option.bind_eq_bind, Option.bind_eq_some_iff, Option.pure_def, Option.some.injEq] at e
    obtain ⟨b, hb, bs, hbs, rfl⟩ := e
    simp [mapM_some_len hbs]

/-- A row's cells. -/
theorem cells_row {W : World} {a : Addr} {n : Nat} {cs : List Value} (h : W.cells? 0 a n = some cs) : cs.length = n ∧ ∀ i v, cs[i]? = some v → W.cell? (a.add i) = some v := by
  unfold World.cells? at h
  rw [if_pos (Nat.zero_le _)] at h
  have hl := mapM_some_len h
  refine ⟨by simpa using hl, fun i v hv => ?_⟩
  have hi : i < n := by have := (List.getElem?_eq_some_iff.1 hv).1; simpa [hl] using this
  obtain ⟨y, hy, e⟩ := mapM_some_get' h i i (by simp [hi])
  rw [hv] at hy
  cases hy
  exact e

theorem RC.of_cells {W : World} {σ : Seal} {b : Nat} (hσ : ∀ o v, W.cell? ⟨b, o, none⟩ = some v → o < σ b) : ∀ {ps : List PV} {vs : List Value} {o : Nat}, RPs W σ ps vs → (∀ i v, vs[i]? = some v → W.cell? ⟨b, o + i, none⟩ = some v) → RC W σ b o ps
  | _, _, o, .nil, _ => .nil b o
  | _, _, o, .cons hp hs, h => by
    have h0 := h 0 _ rfl
    refine .cons (hσ _ _ h0) h0 hp (RC.of_cells hσ hs fun i v hv => ?_)
    have := h (i + 1) v (by simpa using hv)
    rwa [show o + 1 + i = o + (i + 1) by omega]
theorem opens_slice {W : World} {t e : TypeId} {z : Nat} (ht : P.underlying t = some (.slice e)) (hz : P.cellsOf e = z) (hz1 : 0 < z) {n : Nat} {α : Type} {f : α → List PV} {ok : α → Prop} (he : ∀ m, m < n → Opens P enc W m e f ok)
    (hlen : ∀ x, (f x).length = z) (hcell : ∀ x, cellsOK (f x) = true) : Opens P enc W n t (fun xs : List α => [.sl .no z (xs.map f)]) (fun xs => (∀ x ∈ xs, ok x) ∧ xs.length ≤ maxLen) := by
  intro cs d ps h
  rcases DataW.trod_slice ht h with ⟨rfl, _⟩ | ⟨a, len, cap, elems, rest, m, hn, rfl, _, _, hl, hm, hel, hall, _⟩
  · exact ⟨[], ⟨by simp, by simp⟩, .cons (.nil .no z) .nil⟩
  · rw [hz] at hall
    have hlt : m < n := by omega
    -- element by element
    have key : ∀ k, k ≤ len → ∃ xs : List α, xs.length = k ∧ (∀ x ∈ xs, ok x) ∧ RC W (sealAll W) a.block a.off (xs.map f).flatten ∧ (0 < k → a.spot = none) := by
      intro k
      induction k with
      | zero => intro _; exact ⟨[], rfl, by simp, .nil _ _, by omega⟩
      | succ k ih =>
        intro hk
        obtain ⟨xs, h1, h2, h3, h4⟩ := ih (by omega)
        have hk' := hall k (by omega)
        have hx : ∃ y, elems[k]? = some y := ⟨_, List.getElem?_eq_getElem (by omega)⟩
        obtain ⟨⟨d', ps'⟩, hy⟩ := hx
        rw [hy, Option.bind_eq_some_iff] at hk'
        obtain ⟨cs', hc', ht'⟩ := hk'
        obtain ⟨x, hx1, hx2⟩ := he m hlt cs' d' ps' ht'
        obtain ⟨hcl, hcc⟩ := cells_row hc'
        have hsp : a.spot = none := by
          have hlen' := hlen x
          have := hx2.length
          cases k with
          | zero =>
            have h0 : 0 < cs'.length := by omega
            have := hcc 0 _ (List.getElem?_eq_getElem h0)
            simp only [Nat.zero_mul, Addr.add, if_true] at this
            unfold World.cell? at this
            split at this
            · split at this
              · cases this
              · rename_i hh; simpa using hh
            · cases this
          | succ k => exact h4 (by omega)
        have hadd : ∀ j, a.add j = ⟨a.block, a.off + j, none⟩ := by
          intro j
          obtain ⟨b, o, sp⟩ := a
          subst hsp
          unfold Addr.add
          split
          · rename_i h; subst h; rfl
          · rfl
        refine ⟨xs ++ [x], by simp [h1], ?_, ?_, fun _ => hsp⟩
        · intro y hy
          rcases List.mem_append.1 hy with h | h
          · exact h2 y h
          · simp at h; subst h; exact hx1
        · rw [List.map_append, List.flatten_append]
          refine h3.append ?_
          have hfl : (xs.map f).flatten.length = k * z := by
            rw [← h1]
            clear h1 h2 h3
            induction xs with
            | nil => simp
            | cons y ys ih => simp [hlen, Nat.add_mul, ih]; omega
          simp only [List.map_cons, List.map_nil, List.flatten_cons, List.flatten_nil, List.append_nil]
          refine RC.of_cells (fun o v h => sealAll_of_cell h) hx2 fun i v hv => ?_
          have := hcc i v hv
          rw [hadd] at this
          unfold Addr.add at this
          split at this
          · rename_i hi; subst hi; rw [hfl]; exact this
          · rw [hfl]
            simp only at this
            exact this
    obtain ⟨xs, h1, h2, h3, h4⟩ := key len (Nat.le_refl _)
    refine ⟨xs, ⟨h2, by omega⟩, .cons ?_ .nil⟩
    cases len with
    | zero =>
      have : xs = [] := List.eq_nil_of_length_eq_zero h1
      subst this
      exact .mt z a cap (by simp)
    | succ len =>
      have hsp := h4 (by omega)
      obtain ⟨b, o, sp⟩ := a
      subst hsp
      have : (xs.map f).length = len + 1 := by simpa using h1
      rw [← this] at hl ⊢
      exact .sl (by simp) hl (by
        intro e he
        obtain ⟨x, _, rfl⟩ := List.mem_map.1 he
        exact ⟨hlen x, hcell x⟩) h3

theorem RPs.join {w : World} {σ : Seal} {a b : List PV} {cs : List Value} {o z : Nat} (h : RPs w σ a ((cs.drop o).take z)) (k : RPs w σ b (cs.drop (o + z))) : RPs w σ (a ++ b) (cs.drop o) := by
  have e : cs.drop o = (cs.drop o).take z ++ cs.drop (o + z) := by rw [← List.drop_drop, List.take_append_drop]
  rw [e]
  clear e
  generalize (cs.drop o).take z = x at h
  generalize cs.drop (o + z) = y at k
  clear cs
  revert x
  induction a with
  | nil => intro x h; cases h; exact k
  | cons p ps ih =>
    intro x h
    cases h with
    | cons hp hs => exact .cons hp (ih _ hs)
theorem RPs.done {w : World} {σ : Seal} {cs : List Value} {o : Nat} (h : cs.length = o) : RPs w σ [] (cs.drop o) := by
  rw [List.drop_of_length_le (by omega)]
  exact .nil

/-- One field of a struct. -/
theorem open_field {W : World} {n : Nat} {fs : Array Field} {cs : List Value} {xs : List (DataW H × List MemPlace)} (hl : xs.length = fs.size)
    (hf : ∀ (i : Nat) (f : Field), fs[i]? = some f → DataW.trod enc P W 0 (fun _ => true) true n f.type ((cs.drop f.offset).take (P.cellsOf f.type)) = xs[i]?) (i : Nat) {f : Field} (hi : fs[i]? = some f) {α : Type} {g : α → List PV} {ok : α → Prop}
    (ho : Opens P enc W n f.type g ok) {o z : Nat} (he : f.offset = o) (hz : P.cellsOf f.type = z) : ∃ x : α, ok x ∧ RPs W (sealAll W) (g x) ((cs.drop o).take z) := by
  have h := hf i f hi
  have : i < xs.length := by rw [hl]; exact (Array.getElem?_eq_some_iff.1 hi).1
  rw [List.getElem?_eq_getElem this, he, hz] at h
  exact ho _ _ _ h

/-- A value of a struct type, and one that is no aggregate. -/
theorem open_agg {W : World} {t : TypeId} {v : Value} {d : DataW H} {ps : List MemPlace} {α : Type} {f : α → List PV} {ok : α → Prop} (h : DataW.Trod enc P W 0 (fun _ => true) true t v d ps) (ho : ∀ n, Opens P enc W n t f ok) (hv : ∃ cs, v = .agg cs) :
    ∃ x : α, ok x ∧ RP W (sealAll W) (.agg (f x)) v := by
  obtain ⟨cs, rfl⟩ := hv
  obtain ⟨n, hn⟩ := h
  obtain ⟨x, hx, hr⟩ := ho n _ _ _ hn
  obtain ⟨l⟩ := cs
  exact ⟨x, hx, .agg hr⟩
theorem open_one {W : World} {t : TypeId} {v : Value} {d : DataW H} {ps : List MemPlace} {α : Type} {f : α → List PV} {g : α → PV} {ok : α → Prop} (h : DataW.Trod enc P W 0 (fun _ => true) true t v d ps) (ho : ∀ n, Opens P enc W n t f ok) (hg : ∀ x, f x = [g x])
    (hv : v.cells = #[v]) : ∃ x : α, ok x ∧ RP W (sealAll W) (g x) v := by
  obtain ⟨n, hn⟩ := h
  rw [hv] at hn
  obtain ⟨x, hx, hr⟩ := ho n _ _ _ hn
  rw [hg] at hr
  cases hr with
  | cons h _ => exact ⟨x, hx, h⟩
end Go.Fw
end
section
/- The values of the program, as pure values. -/
namespace Go.Fw.Gp
open Go.Fw

/-- api.Value -/
inductive Val where
  | mk (k i : Int) (s : ByteArray) (l : List Val)
def Val.k : Val → Int | .mk k _ _ _ => k
def Val.i : Val → Int | .mk _ i _ _ => i
def Val.s : Val → ByteArray | .mk _ _ s _ => s
def Val.l : Val → List Val | .mk _ _ _ l => l

mutual
def encV : Val → List PV
  | .mk k i s l => [.int k, .int i, .str s, .sl .no 4 (encVs l)]
def encVs : List Val → List (List PV)
  | [] => []
  | v :: vs => encV v :: encVs vs
end
theorem encV_eq (v : Val) : encV v = [.int v.k, .int v.i, .str v.s, .sl .no 4 (encVs v.l)] := by cases v; rfl
theorem encVs_eq (l : List Val) : encVs l = l.map encV := by
  induction l with
  | nil => rfl
  | cons v vs ih => simp [encVs, ih]
theorem encVs_length (l : List Val) : (encVs l).length = l.length := by simp [encVs_eq]
theorem encVs_get (l : List Val) (i : Nat) : (encVs l)[i]? = (l[i]?).map encV := by simp [encVs_eq]
def encI (l : List Int) : List (List PV) := l.map fun i => [.int i]
theorem encI_get (l : List Int) (i : Nat) : (encI l)[i]? = (l[i]?).map fun i => [PV.int i] := by simp [encI]
theorem encI_length (l : List Int) : (encI l).length = l.length := by simp [encI]
theorem encVs_take (l : List Val) (n : Nat) : (encVs l).take n = encVs (l.take n) := by simp [encVs_eq]
theorem encVs_drop (l : List Val) (n : Nat) : (encVs l).drop n = encVs (l.drop n) := by simp [encVs_eq]
theorem encVs_app (l m : List Val) : encVs l ++ encVs m = encVs (l ++ m) := by simp [encVs_eq]
theorem encVs_snoc (l : List Val) (v : Val) : encVs l ++ [[.int v.k, .int v.i, .str v.s, .sl .no 4 (encVs v.l)]] = encVs (l ++ [v]) := by rw [← encV_eq]; simp [encVs_eq]
theorem encVs_one (v : Val) : [[PV.int v.k, .int v.i, .str v.s, .sl .no 4 (encVs v.l)]] = encVs [v] := by rw [← encV_eq]; simp [encVs_eq]
attribute [go_sem] encVs_take encVs_drop encVs_app encVs_snoc encVs
attribute [go_sem] encV_eq encVs_length encVs_get encI_get encI_length
end Go.Fw.Gp
end
section
/- api.Value, as it came in. -/
namespace Go.Fw.Gp
open Go.Fw
variable {P : Program} {H : Type} {enc : TypeId × Value → H}

/-- What the machine can hold. -/
inductive OkV : Val → Prop
  | mk (k i : Int) (s : ByteArray) (l : List Val) : IntKind.i64.min ≤ k ∧ k ≤ IntKind.i64.max → IntKind.i64.min ≤ i ∧ i ≤ IntKind.i64.max → s.size ≤ maxLen → l.length ≤ maxLen → (∀ v ∈ l, OkV v) → OkV (.mk k i s l)

theorem encV_len (v : Val) : (encV v).length = 4 := by cases v; rfl
theorem encV_cells (v : Val) : cellsOK (encV v) = true := by cases v; rfl

theorem opens_val {W : World} {tv : TypeId} {fs : Array Field} {F0 F1 F2 F3 : Field} (hu : P.underlying tv = some (.struct fs)) (h0 : fs[0]? = some F0) (h1 : fs[1]? = some F1) (h2 : fs[2]? = some F2) (h3 : fs[3]? = some F3)
    (o0 : F0.offset = 0) (o1 : F1.offset = 1) (o2 : F2.offset = 2) (o3 : F3.offset = 3) (t0 : P.underlying F0.type = some (.int .i64)) (t1 : P.underlying F1.type = some (.int .i64)) (t2 : P.underlying F2.type = some .string) (t3 : P.underlying F3.type = some (.slice tv))
    (c0 : P.cellsOf F0.type = 1) (c1 : P.cellsOf F1.type = 1) (c2 : P.cellsOf F2.type = 1) (c3 : P.cellsOf F3.type = 1) (cv : P.cellsOf tv = 4) : ∀ n, Opens P enc W n tv encV OkV := by
  intro n
  induction n using Nat.strongRecOn with
  | ind n ih =>
    intro cs d ps h
    obtain ⟨xs, m, hn, _, hl, hx, hf⟩ := DataW.trod_struct hu h
    have hlt : m < n := by omega
    obtain ⟨k, hk, rk⟩ := open_field hx hf 0 h0 (opens_int t0 m) o0 c0
    obtain ⟨i, hi, ri⟩ := open_field hx hf 1 h1 (opens_int t1 m) o1 c1
    obtain ⟨s, hs, rs⟩ := open_field hx hf 2 h2 (opens_string t2 m) o2 c2
    obtain ⟨l, ⟨hl1, hl2⟩, rl⟩ := open_field hx hf 3 h3 (opens_slice (n := m) t3 cv (by omega) (fun m' hm' => ih m' (by omega)) encV_len encV_cells) o3 c3
    refine ⟨.mk k i s l, .mk k i s l hk hi hs hl2 hl1, ?_⟩
    have := RPs.join rk (RPs.join (o := 1) ri (RPs.join (o := 2) rs (RPs.join (o := 3) rl (RPs.done (o := 4) (by rw [hl, cv])))))
    simpa [encV, encVs_eq] using this
end Go.Fw.Gp
end
section
/- How two texts compare: the machine's own. -/
namespace Go.Fw
variable {Ω : Type} {O : OpqSem Ω} {P : Program}
theorem callIn_two {p q : PV} {S : List (Fr Ω)} {E : Env} {τ : Nat → Tag} {args : List Value} (h : CallIn O (p :: q :: []) S E τ args) : ∃ a b, args = [a, b] ∧ RV E p a ∧ RV E q b := by
  cases h.vals with
  | cons h1 h2 => cases h2 with
    | cons h3 h4 => cases h4; exact ⟨_, _, rfl, h1, h3⟩

/-- What a call that leaves all as it was, and answers with a plain value, leaves. -/
theorem ret_same {vs : List PV} {S : List (Fr Ω)} {E : Env} {τ : Nat → Tag} {args : List Value} (h : CallIn O vs S E τ args) (v : Value) : RetOK O (.sc v, none, S) E τ v E τ where
  ext := .refl _ _ _
  me := rfl
  μ := rfl
  frames := fun d F hF _ => h.frames d F hF
  val := .pure (.sc v)
  plain := rfl
  flag := fun _ _ _ e => by cases e
  right := fun _ _ e => by cases e
  new := fun c e => by cases e
  tags := fun b => by
    have := h.tags b
    generalize τ b = t at this
    cases t <;> first | exact this | rfl
  fresh := h.fresh

theorem cmp_prim {f : Nat} {fn : Func} (hf : P.funcs[f]? = some fn) (hb : fn.body.isNone = true) (hn : (fn.name == "runtime.NumGoroutine") = false) (h1 : (Extern.findNext fn).isNone = true) (h2 : Extern.find fn = some Extern.BytealgCompare.compare)
    {p : List PV → List (Fr Ω) → Option (Ret Ω)} (hp : ∀ vs S r, p vs S = some r → ∃ a b, vs = [.sc (.string a), .sc (.string b)] ∧ r = (.sc (.int .i64 (Lib.compareBytes a.data.toList b.data.toList)), none, S)) : PrimOK P O f p := by
  intro vs S r hr E τ args hin
  obtain ⟨a, b, rfl, rfl⟩ := hp vs S r hr
  obtain ⟨x, y, rfl, hx, hy⟩ := callIn_two hin
  have ex := hx.sc_inv
  have ey := hy.sc_inv
  subst ex ey
  have hn : ¬ fn.name = "runtime.NumGoroutine" := by intro e; rw [e] at hn; simp at hn
  have h1 : Extern.findNext fn = none := by cases hq : Extern.findNext fn with | none => rfl | some x => rw [hq] at h1; cases h1
  have hrun : (callFunc f (⟨[.string a, .string b]⟩ : Array Value)).run P E.w = .ok (.value (.int .i64 (Lib.compareBytes a.data.toList b.data.toList))) E.w := by
    have := Lib.run_compareString (P := P) a b E.w
    have hb : fn.body = none := Option.isNone_iff_eq_none.1 hb
    have this : (Extern.BytealgCompare.compare { toList := [Value.string a, Value.string b] }).run P E.w = .ok (.int .i64 (Lib.compareBytes a.data.toList b.data.toList)) E.w := this
    simp [callFunc, hf, hn, h1, h2, hb, this]
  unfold Runs
  rw [hrun]
  exact ⟨E, τ, rfl, ret_same hin _⟩
end Go.Fw
end
section
/- The annotated code of the functions, printed by a program of ours, and the tests that it belongs to them. -/
set_option maxRecDepth 100000
namespace Go.Fw.Ir
open Go.Fw
abbrev f_gatepostlaw02_ValueBags : Nat := 3
def lb_gatepostlaw02_ValueBags_0 : ICode :=
    (.seq (.seq (.reg [⟨some 26, .mv (.t 6), none⟩,
      ⟨some 27, .mv (.t 0), none⟩,
      ⟨some 28, .len (.t 27), none⟩,
      ⟨some 29, .bin .lss (.t 26) (.t 28), none⟩] [0, 3, 4, 5, 6, 29])
    (.cond (.t 29)
      .skip
      (.exitB [0, 4, 5] [4] 0)))
    (.seq (.block 1
      (.seq (.reg [⟨some 32, .mv (.t 0), none⟩,
        ⟨some 33, .mv (.t 6), none⟩,
        ⟨some 34, .iaddr 4 (.t 32) (.t 33), none⟩,
        ⟨some 35, .loadx [40] (some 4) (.t 34), none⟩,
        ⟨some 36, .mv (.t 3), none⟩,
        ⟨some 37, .mv (.t 6), none⟩,
        ⟨some 38, .iaddr 4 (.t 36) (.t 37), none⟩,
        ⟨some 39, .loadx [40] (some 4) (.t 38), none⟩,
        ⟨some 40, .call 7 [(.t 35), (.t 39)], none⟩,
        ⟨some 41, .un .not (.t 40), none⟩] [0, 3, 4, 5, 6, 41])
      (.cond (.t 41)
        (.seq (.reg [⟨some 2, .asg (.c (.sc (.bool false))), none⟩] [2])
        (.retB [2] []))
        .skip)))
    (.reg [⟨some 30, .mv (.t 6), none⟩,
      ⟨some 31, .bin .add (.t 30) (.c (.sc (.int .i64 1))), none⟩,
      ⟨some 6, .asg (.t 31), none⟩] [0, 3, 4, 5, 6])))
def lp_gatepostlaw02_ValueBags_0 : ICode := .loop [0, 3, 4, 5, 6] [4] lb_gatepostlaw02_ValueBags_0
theorem lu_gatepostlaw02_ValueBags_0 {Ω : Type} (T : Nat → Option (Ent Ω)) (st : FS Ω) : denL T lp_gatepostlaw02_ValueBags_0 st = (reset [0, 3, 4, 5, 6] [4] st).bind fun s => andThen (denL T lb_gatepostlaw02_ValueBags_0 s) (denL T lp_gatepostlaw02_ValueBags_0) := denL_loop T _ _ _ st
def lb_gatepostlaw02_ValueBags_1 : ICode :=
    (.seq (.seq (.reg [⟨some 42, .mv (.t 7), none⟩,
      ⟨some 43, .mv (.t 0), none⟩,
      ⟨some 44, .len (.t 43), none⟩,
      ⟨some 45, .bin .lss (.t 42) (.t 44), none⟩] [0, 4, 5, 7, 45])
    (.cond (.t 45)
      .skip
      (.exitB [0, 4, 5] [4] 2)))
    (.seq (.block 3
      (.seq (.reg [⟨some 48, .mv (.t 0), none⟩,
        ⟨some 49, .mv (.t 7), none⟩,
        ⟨some 50, .iaddr 4 (.t 48) (.t 49), none⟩,
        ⟨some 51, .load (some 4) (.t 50), none⟩,
        ⟨some 52, .call 8 [(.t 51)], none⟩,
        ⟨some 53, .un .not (.t 52), none⟩] [0, 4, 5, 7, 53])
      (.cond (.t 53)
        (.seq (.reg [⟨some 54, .mv (.t 5), none⟩,
          ⟨some 55, .bin .eql (.t 54) (.c (.sc (.int .i64 1))), none⟩,
          ⟨some 56, .mv (.t 55), none⟩,
          ⟨some 57, .load (some 4) (.t 4), some (56, true)⟩,
          ⟨some 58, .build [.sc (.int .i64 0), .sc (.int .i64 0), .sc (.string ⟨#[]⟩), .sl .nil 4 []] [], some (56, true)⟩,
          ⟨some 59, .call 7 [(.t 57), (.t 58)], some (56, true)⟩,
          ⟨some 60, .pick (.t 56) (.t 59) (.c (.sc (.bool false))), none⟩,
          ⟨some 2, .asg (.t 60), none⟩] [2])
        (.retB [2] []))
        .skip)))
    (.reg [⟨some 46, .mv (.t 7), none⟩,
      ⟨some 47, .bin .add (.t 46) (.c (.sc (.int .i64 1))), none⟩,
      ⟨some 7, .asg (.t 47), none⟩] [0, 4, 5, 7])))
def lp_gatepostlaw02_ValueBags_1 : ICode := .loop [0, 4, 5, 7] [4] lb_gatepostlaw02_ValueBags_1
theorem lu_gatepostlaw02_ValueBags_1 {Ω : Type} (T : Nat → Option (Ent Ω)) (st : FS Ω) : denL T lp_gatepostlaw02_ValueBags_1 st = (reset [0, 4, 5, 7] [4] st).bind fun s => andThen (denL T lb_gatepostlaw02_ValueBags_1 s) (denL T lp_gatepostlaw02_ValueBags_1) := denL_loop T _ _ _ st
def ir_gatepostlaw02_ValueBags : IFunc :=
  { n := 82, rets := [(2, none)], gives := false,
    body :=
    (.seq (.reg [⟨some 2, .asg (.c (.sc (.bool false))), none⟩] [0])
    (.seq (.seq (.reg [⟨some 10, .call 4 [], none⟩,
      ⟨some 11, .un .not (.t 10), none⟩,
      ⟨some 12, .mv (.t 11), none⟩,
      ⟨some 13, .mv (.t 0), some (12, false)⟩,
      ⟨some 14, .call 5 [(.t 13), (.c (.sc (.int .i64 30)))], some (12, false)⟩,
      ⟨some 15, .un .not (.t 14), some (12, false)⟩,
      ⟨some 16, .pick (.t 12) (.c (.sc (.bool true))) (.t 15), none⟩] [0, 16])
    (.cond (.t 16)
      (.seq (.reg [⟨some 17, .call 4 [], none⟩,
        ⟨some 2, .asg (.t 17), none⟩] [2])
      (.retB [2] []))
      .skip))
    (.seq (.reg [⟨some 18, .bslice 4 false [], none⟩,
      ⟨some 19, .mv (.t 0), none⟩,
      ⟨some 20, .app none 4 56 (.t 18) (.t 19), none⟩,
      ⟨some 3, .asg (.t 20), none⟩] [0, 3])
    (.seq (.reg [⟨some 22, .mv (.t 0), none⟩,
      ⟨some 23, .call 6 [(.t 22)], none⟩,
      ⟨some 21, .mv (.t 23), none⟩,
      ⟨some 24, .extr (.t 21) 0, none⟩,
      ⟨some 25, .extr (.t 21) 1, none⟩,
      ⟨some 4, .zalloc [.sc (.int .i64 0), .sc (.int .i64 0), .sc (.string ⟨#[]⟩), .sl .nil 4 []], none⟩,
      ⟨none, .store (some 4) (.t 4) (.t 24), none⟩,
      ⟨some 5, .asg (.t 25), none⟩] [0, 3, 4, 5])
    (.seq (.seq (.reg [⟨some 6, .asg (.c (.sc (.int .i64 0))), none⟩] [0, 3, 4, 5, 6])
    (.block 0
      lp_gatepostlaw02_ValueBags_0))
    (.seq (.seq (.reg [⟨some 7, .asg (.c (.sc (.int .i64 0))), none⟩] [0, 4, 5, 7])
    (.block 2
      lp_gatepostlaw02_ValueBags_1))
    (.seq (.reg [⟨some 62, .mv (.t 0), none⟩,
      ⟨some 63, .call 9 [(.t 62)], none⟩,
      ⟨some 61, .mv (.t 63), none⟩,
      ⟨some 64, .extr (.t 61) 0, none⟩,
      ⟨some 65, .extr (.t 61) 1, none⟩,
      ⟨some 8, .zalloc [.sc (.int .i64 0), .sc (.int .i64 0), .sc (.string ⟨#[]⟩), .sl .nil 4 []], none⟩,
      ⟨none, .store (some 4) (.t 8) (.t 64), none⟩,
      ⟨some 9, .asg (.t 65), none⟩] [4, 5, 8, 9])
    (.seq (.reg [⟨some 66, .mv (.t 5), none⟩,
      ⟨some 67, .mv (.t 9), none⟩,
      ⟨some 68, .bin .eql (.t 66) (.t 67), none⟩,
      ⟨some 69, .mv (.t 68), none⟩,
      ⟨some 70, .load (some 4) (.t 4), some (69, true)⟩,
      ⟨some 71, .load (some 4) (.t 8), some (69, true)⟩,
      ⟨some 72, .call 7 [(.t 70), (.t 71)], some (69, true)⟩,
      ⟨some 73, .pick (.t 69) (.t 72) (.c (.sc (.bool false))), none⟩,
      ⟨some 74, .mv (.t 73), none⟩,
      ⟨some 75, .mv (.t 5), some (74, true)⟩,
      ⟨some 76, .bin .neq (.t 75) (.c (.sc (.int .i64 0))), some (74, true)⟩,
      ⟨some 77, .mv (.t 76), some (74, true)⟩,
      ⟨some 78, .load (some 4) (.t 4), some (77, false)⟩,
      ⟨some 79, .call 10 [(.t 78)], some (77, false)⟩,
      ⟨some 80, .pick (.t 77) (.c (.sc (.bool true))) (.t 79), some (74, true)⟩,
      ⟨some 81, .pick (.t 74) (.t 80) (.c (.sc (.bool false))), none⟩,
      ⟨some 2, .asg (.t 81), none⟩] [2])
    (.retB [2] []))))))))) }
abbrev f_gatepostlaw02_awake : Nat := 4
def ir_gatepostlaw02_awake : IFunc :=
  { n := 20, rets := [(0, none)], gives := false,
    body :=
    (.seq (.reg [⟨some 0, .asg (.c (.sc (.bool false))), none⟩] [])
    (.seq (.reg [⟨some 4, .call 12 [(.c (.sc (.int .i64 2)))], none⟩,
      ⟨some 5, .call 12 [(.c (.sc (.int .i64 3)))], none⟩,
      ⟨some 6, .call 11 [(.t 4), (.t 5)], none⟩,
      ⟨some 3, .mv (.t 6), none⟩,
      ⟨some 7, .extr (.t 3) 0, none⟩,
      ⟨some 8, .extr (.t 3) 1, none⟩,
      ⟨some 1, .zalloc [.sc (.int .i64 0), .sc (.int .i64 0), .sc (.string ⟨#[]⟩), .sl .nil 4 []], none⟩,
      ⟨none, .store (some 4) (.t 1) (.t 7), none⟩,
      ⟨some 2, .asg (.t 8), none⟩] [1, 2])
    (.seq (.reg [⟨some 9, .mv (.t 2), none⟩,
      ⟨some 10, .bin .eql (.t 9) (.c (.sc (.int .i64 0))), none⟩,
      ⟨some 11, .mv (.t 10), none⟩,
      ⟨some 12, .faddr 1 (.t 1), some (11, true)⟩,
      ⟨some 13, .load none (.t 12), some (11, true)⟩,
      ⟨some 14, .bin .eql (.t 13) (.c (.sc (.int .i64 5))), some (11, true)⟩,
      ⟨some 15, .pick (.t 11) (.t 14) (.c (.sc (.bool false))), none⟩,
      ⟨some 16, .mv (.t 15), none⟩,
      ⟨some 17, .load (some 4) (.t 1), some (16, true)⟩,
      ⟨some 18, .call 10 [(.t 17)], some (16, true)⟩,
      ⟨some 19, .pick (.t 16) (.t 18) (.c (.sc (.bool false))), none⟩,
      ⟨some 0, .asg (.t 19), none⟩] [0])
    (.retB [0] [])))) }
abbrev f_gatepostref02_Few : Nat := 5
def lb_gatepostref02_Few_0 : ICode :=
    (.seq (.seq (.reg [⟨some 33, .mv (.t 6), none⟩,
      ⟨some 34, .mv (.t 0), none⟩,
      ⟨some 35, .mv (.t 5), none⟩,
      ⟨some 36, .iaddr 4 (.t 34) (.t 35), none⟩,
      ⟨some 37, .faddr 3 (.t 36), none⟩,
      ⟨some 38, .load none (.t 37), none⟩,
      ⟨some 39, .len (.t 38), none⟩,
      ⟨some 40, .bin .lss (.t 33) (.t 39), none⟩] [0, 1, 5, 6, 40])
    (.cond (.t 40)
      .skip
      (.exitB [0, 1, 5] [] 2)))
    (.seq (.block 3
      (.seq (.reg [⟨some 43, .mv (.t 0), none⟩,
        ⟨some 44, .mv (.t 5), none⟩,
        ⟨some 45, .iaddr 4 (.t 43) (.t 44), none⟩,
        ⟨some 46, .faddr 3 (.t 45), none⟩,
        ⟨some 47, .load none (.t 46), none⟩,
        ⟨some 48, .mv (.t 6), none⟩,
        ⟨some 49, .iaddr 4 (.t 47) (.t 48), none⟩,
        ⟨some 50, .faddr 2 (.t 49), none⟩,
        ⟨some 51, .load none (.t 50), none⟩,
        ⟨some 52, .slen (.t 51), none⟩,
        ⟨some 53, .bin .gtr (.t 52) (.c (.sc (.int .i64 200))), none⟩,
        ⟨some 54, .mv (.t 53), none⟩,
        ⟨some 55, .mv (.t 0), some (54, false)⟩,
        ⟨some 56, .mv (.t 5), some (54, false)⟩,
        ⟨some 57, .iaddr 4 (.t 55) (.t 56), some (54, false)⟩,
        ⟨some 58, .faddr 3 (.t 57), some (54, false)⟩,
        ⟨some 59, .load none (.t 58), some (54, false)⟩,
        ⟨some 60, .mv (.t 6), some (54, false)⟩,
        ⟨some 61, .iaddr 4 (.t 59) (.t 60), some (54, false)⟩,
        ⟨some 62, .faddr 3 (.t 61), some (54, false)⟩,
        ⟨some 63, .load none (.t 62), some (54, false)⟩,
        ⟨some 64, .len (.t 63), some (54, false)⟩,
        ⟨some 65, .bin .gtr (.t 64) (.c (.sc (.int .i64 0))), some (54, false)⟩,
        ⟨some 66, .pick (.t 54) (.c (.sc (.bool true))) (.t 65), none⟩] [0, 1, 5, 6, 66])
      (.cond (.t 66)
        (.seq (.reg [⟨some 4, .asg (.c (.sc (.bool false))), none⟩] [4])
        (.retB [4] []))
        .skip)))
    (.reg [⟨some 41, .mv (.t 6), none⟩,
      ⟨some 42, .bin .add (.t 41) (.c (.sc (.int .i64 1))), none⟩,
      ⟨some 6, .asg (.t 42), none⟩] [0, 1, 5, 6])))
def lp_gatepostref02_Few_0 : ICode := .loop [0, 1, 5, 6] [] lb_gatepostref02_Few_0
theorem lu_gatepostref02_Few_0 {Ω : Type} (T : Nat → Option (Ent Ω)) (st : FS Ω) : denL T lp_gatepostref02_Few_0 st = (reset [0, 1, 5, 6] [] st).bind fun s => andThen (denL T lb_gatepostref02_Few_0 s) (denL T lp_gatepostref02_Few_0) := denL_loop T _ _ _ st
def lb_gatepostref02_Few_1 : ICode :=
    (.seq (.seq (.reg [⟨some 7, .mv (.t 5), none⟩,
      ⟨some 8, .mv (.t 0), none⟩,
      ⟨some 9, .len (.t 8), none⟩,
      ⟨some 10, .bin .lss (.t 7) (.t 9), none⟩,
      ⟨some 11, .mv (.t 10), none⟩,
      ⟨some 12, .mv (.t 5), some (11, true)⟩,
      ⟨some 13, .bin .lss (.t 12) (.c (.sc (.int .i64 100))), some (11, true)⟩,
      ⟨some 14, .pick (.t 11) (.t 13) (.c (.sc (.bool false))), none⟩] [0, 1, 5, 14])
    (.cond (.t 14)
      .skip
      (.exitB [0, 1] [] 0)))
    (.seq (.block 1
      (.seq (.seq (.reg [⟨some 17, .mv (.t 0), none⟩,
        ⟨some 18, .mv (.t 5), none⟩,
        ⟨some 19, .iaddr 4 (.t 17) (.t 18), none⟩,
        ⟨some 20, .faddr 2 (.t 19), none⟩,
        ⟨some 21, .load none (.t 20), none⟩,
        ⟨some 22, .slen (.t 21), none⟩,
        ⟨some 23, .bin .gtr (.t 22) (.c (.sc (.int .i64 200))), none⟩,
        ⟨some 24, .mv (.t 23), none⟩,
        ⟨some 25, .mv (.t 0), some (24, false)⟩,
        ⟨some 26, .mv (.t 5), some (24, false)⟩,
        ⟨some 27, .iaddr 4 (.t 25) (.t 26), some (24, false)⟩,
        ⟨some 28, .faddr 3 (.t 27), some (24, false)⟩,
        ⟨some 29, .load none (.t 28), some (24, false)⟩,
        ⟨some 30, .len (.t 29), some (24, false)⟩,
        ⟨some 31, .bin .gtr (.t 30) (.c (.sc (.int .i64 30))), some (24, false)⟩,
        ⟨some 32, .pick (.t 24) (.c (.sc (.bool true))) (.t 31), none⟩] [0, 1, 5, 32])
      (.cond (.t 32)
        (.seq (.reg [⟨some 4, .asg (.c (.sc (.bool false))), none⟩] [4])
        (.retB [4] []))
        .skip))
      (.seq (.reg [⟨some 6, .asg (.c (.sc (.int .i64 0))), none⟩] [0, 1, 5, 6])
      (.block 2
        lp_gatepostref02_Few_0))))
    (.reg [⟨some 15, .mv (.t 5), none⟩,
      ⟨some 16, .bin .add (.t 15) (.c (.sc (.int .i64 1))), none⟩,
      ⟨some 5, .asg (.t 16), none⟩] [0, 1, 5])))
def lp_gatepostref02_Few_1 : ICode := .loop [0, 1, 5] [] lb_gatepostref02_Few_1
theorem lu_gatepostref02_Few_1 {Ω : Type} (T : Nat → Option (Ent Ω)) (st : FS Ω) : denL T lp_gatepostref02_Few_1 st = (reset [0, 1, 5] [] st).bind fun s => andThen (denL T lb_gatepostref02_Few_1 s) (denL T lp_gatepostref02_Few_1) := denL_loop T _ _ _ st
def ir_gatepostref02_Few : IFunc :=
  { n := 71, rets := [(4, none)], gives := false,
    body :=
    (.seq (.reg [⟨some 4, .asg (.c (.sc (.bool false))), none⟩] [0, 1])
    (.seq (.seq (.reg [⟨some 5, .asg (.c (.sc (.int .i64 0))), none⟩] [0, 1, 5])
    (.block 0
      lp_gatepostref02_Few_1))
    (.seq (.reg [⟨some 67, .mv (.t 0), none⟩,
      ⟨some 68, .len (.t 67), none⟩,
      ⟨some 69, .mv (.t 1), none⟩,
      ⟨some 70, .bin .leq (.t 68) (.t 69), none⟩,
      ⟨some 4, .asg (.t 70), none⟩] [4])
    (.retB [4] [])))) }
abbrev f_value_Bag : Nat := 6
def lb_value_Bag_0 : ICode :=
    (.seq (.reg [⟨some 12, .bin .lss (.t 11) (.t 10), none⟩] [0, 2, 9, 10, 11, 12])
    (.seq (.cond (.t 12)
      .skip
      (.exitB [0, 2] [2] 0))
    (.seq (.block 1
      (.seq (.reg [⟨some 13, .iaddr 4 (.t 9) (.t 11), none⟩,
        ⟨some 14, .load (some 4) (.t 13), none⟩,
        ⟨some 5, .zalloc [.sc (.int .i64 0), .sc (.int .i64 0), .sc (.string ⟨#[]⟩), .sl .nil 4 []], none⟩,
        ⟨none, .store (some 4) (.t 5) (.t 14), none⟩] [0, 2, 5, 9, 10, 11])
      (.seq (.reg [⟨some 15, .load (some 4) (.t 5), none⟩,
        ⟨some 16, .call 10 [(.t 15)], none⟩,
        ⟨some 17, .un .not (.t 16), none⟩] [0, 2, 9, 10, 11, 17])
      (.cond (.t 17)
        (.seq (.reg [⟨some 18, .build [.sc (.int .i64 0), .sc (.int .i64 0), .sc (.string ⟨#[]⟩), .sl .nil 4 []] [], none⟩,
          ⟨none, .store (some 4) (.t 2) (.t 18), none⟩,
          ⟨some 3, .asg (.c (.sc (.int .i64 1))), none⟩] [2, 3])
        (.retB [2, 3] [2]))
        .skip))))
    (.reg [⟨some 19, .bin .add (.t 11) (.c (.sc (.int .i64 1))), none⟩,
      ⟨some 11, .mv (.t 19), none⟩] [0, 2, 9, 10, 11]))))
def lp_value_Bag_0 : ICode := .loop [0, 2, 9, 10, 11] [2] lb_value_Bag_0
theorem lu_value_Bag_0 {Ω : Type} (T : Nat → Option (Ent Ω)) (st : FS Ω) : denL T lp_value_Bag_0 st = (reset [0, 2, 9, 10, 11] [2] st).bind fun s => andThen (denL T lb_value_Bag_0 s) (denL T lp_value_Bag_0) := denL_loop T _ _ _ st
def lb_value_Bag_1 : ICode :=
    (.seq (.reg [⟨some 23, .bin .lss (.t 22) (.t 21), none⟩] [0, 2, 20, 21, 22, 23])
    (.seq (.cond (.t 23)
      .skip
      (.exitB [0, 2] [2] 2))
    (.seq (.block 3
      (.seq (.reg [⟨some 24, .iaddr 4 (.t 20) (.t 22), none⟩,
        ⟨some 25, .load (some 4) (.t 24), none⟩,
        ⟨some 7, .zalloc [.sc (.int .i64 0), .sc (.int .i64 0), .sc (.string ⟨#[]⟩), .sl .nil 4 []], none⟩,
        ⟨none, .store (some 4) (.t 7) (.t 25), none⟩] [0, 2, 7, 20, 21, 22])
      (.seq (.reg [⟨some 26, .faddr 0 (.t 7), none⟩,
        ⟨some 27, .loadx [] none (.t 26), none⟩,
        ⟨some 28, .bin .eql (.t 27) (.c (.sc (.int .i64 0))), none⟩,
        ⟨some 29, .mv (.t 28), none⟩,
        ⟨some 30, .faddr 0 (.t 7), some (29, false)⟩,
        ⟨some 31, .loadx [] none (.t 30), some (29, false)⟩,
        ⟨some 32, .bin .eql (.t 31) (.c (.sc (.int .i64 5))), some (29, false)⟩,
        ⟨some 33, .pick (.t 29) (.c (.sc (.bool true))) (.t 32), none⟩,
        ⟨some 34, .mv (.t 33), none⟩,
        ⟨some 35, .faddr 0 (.t 7), some (34, false)⟩,
        ⟨some 36, .loadx [] none (.t 35), some (34, false)⟩,
        ⟨some 37, .mv (.t 0), some (34, false)⟩,
        ⟨some 38, .iaddr 4 (.t 37) (.c (.sc (.int .i64 0))), some (34, false)⟩,
        ⟨some 39, .faddr 0 (.t 38), some (34, false)⟩,
        ⟨some 40, .loadx [] none (.t 39), some (34, false)⟩,
        ⟨some 41, .bin .neq (.t 36) (.t 40), some (34, false)⟩,
        ⟨some 42, .pick (.t 34) (.c (.sc (.bool true))) (.t 41), none⟩] [0, 2, 20, 21, 22, 42])
      (.cond (.t 42)
        (.seq (.reg [⟨some 43, .build [.sc (.int .i64 0), .sc (.int .i64 0), .sc (.string ⟨#[]⟩), .sl .nil 4 []] [], none⟩,
          ⟨none, .store (some 4) (.t 2) (.t 43), none⟩,
          ⟨some 3, .asg (.c (.sc (.int .i64 6))), none⟩] [2, 3])
        (.retB [2, 3] [2]))
        .skip))))
    (.reg [⟨some 44, .bin .add (.t 22) (.c (.sc (.int .i64 1))), none⟩,
      ⟨some 22, .mv (.t 44), none⟩] [0, 2, 20, 21, 22]))))
def lp_value_Bag_1 : ICode := .loop [0, 2, 20, 21, 22] [2] lb_value_Bag_1
theorem lu_value_Bag_1 {Ω : Type} (T : Nat → Option (Ent Ω)) (st : FS Ω) : denL T lp_value_Bag_1 st = (reset [0, 2, 20, 21, 22] [2] st).bind fun s => andThen (denL T lb_value_Bag_1 s) (denL T lp_value_Bag_1) := denL_loop T _ _ _ st
def ir_value_Bag : IFunc :=
  { n := 57, rets := [(2, some (some 4)), (3, none)], gives := false,
    body :=
    (.seq (.reg [⟨some 2, .zalloc [.sc (.int .i64 0), .sc (.int .i64 0), .sc (.string ⟨#[]⟩), .sl .nil 4 []], none⟩,
      ⟨some 3, .asg (.c (.sc (.int .i64 0))), none⟩] [0, 2])
    (.seq (.seq (.reg [⟨some 9, .mv (.t 0), none⟩,
      ⟨some 10, .len (.t 9), none⟩,
      ⟨some 11, .mv (.c (.sc (.int .i64 0))), none⟩] [0, 2, 9, 10, 11])
    (.block 0
      lp_value_Bag_0))
    (.seq (.seq (.reg [⟨some 20, .mv (.t 0), none⟩,
      ⟨some 21, .len (.t 20), none⟩,
      ⟨some 22, .mv (.c (.sc (.int .i64 0))), none⟩] [0, 2, 20, 21, 22])
    (.block 2
      lp_value_Bag_1))
    (.seq (.reg [⟨some 45, .mv (.t 0), none⟩,
      ⟨some 46, .call 13 [(.t 45)], none⟩,
      ⟨some 8, .asg (.t 46), none⟩] [2, 8])
    (.seq (.reg [⟨some 47, .mv (.t 8), none⟩,
      ⟨some 48, .call 14 [(.t 47), (.f 15)], none⟩] [2, 8])
    (.seq (.reg [⟨some 49, .mv (.t 8), none⟩,
      ⟨some 50, .call 16 [(.t 49), (.f 17)], none⟩,
      ⟨some 8, .asg (.t 50), none⟩] [2, 8])
    (.seq (.seq (.reg [⟨some 51, .mv (.t 8), none⟩,
      ⟨some 52, .len (.t 51), none⟩,
      ⟨some 53, .bin .gtr (.t 52) (.c (.sc (.int .i64 16))), none⟩] [2, 8, 53])
    (.cond (.t 53)
      (.seq (.reg [⟨some 54, .build [.sc (.int .i64 0), .sc (.int .i64 0), .sc (.string ⟨#[]⟩), .sl .nil 4 []] [], none⟩,
        ⟨none, .store (some 4) (.t 2) (.t 54), none⟩,
        ⟨some 3, .asg (.c (.sc (.int .i64 13))), none⟩] [2, 3])
      (.retB [2, 3] [2]))
      .skip))
    (.seq (.reg [⟨some 55, .mv (.t 8), none⟩,
      ⟨some 56, .build [.sc (.int .i64 0), .sc (.int .i64 0), .sc (.string ⟨#[]⟩), .sl .nil 4 []] [(0, none, (.c (.sc (.int .i64 5)))), (3, none, (.t 55))], none⟩,
      ⟨none, .store (some 4) (.t 2) (.t 56), none⟩,
      ⟨some 3, .asg (.c (.sc (.int .i64 0))), none⟩] [2, 3])
    (.retB [2, 3] [2]))))))))) }
abbrev f_gatepostref02_Same : Nat := 7
def lb_gatepostref02_Same_0 : ICode :=
    (.seq (.seq (.reg [⟨some 36, .mv (.t 5), none⟩,
      ⟨some 37, .faddr 3 (.t 2), none⟩,
      ⟨some 38, .load none (.t 37), none⟩,
      ⟨some 39, .len (.t 38), none⟩,
      ⟨some 40, .bin .lss (.t 36) (.t 39), none⟩] [2, 3, 5, 40])
    (.cond (.t 40)
      .skip
      (.exitB [] [] 0)))
    (.seq (.block 1
      (.seq (.reg [⟨some 43, .faddr 3 (.t 2), none⟩,
        ⟨some 44, .loadx [6, 7] none (.t 43), none⟩,
        ⟨some 45, .mv (.t 5), none⟩,
        ⟨some 46, .iaddr 4 (.t 44) (.t 45), none⟩,
        ⟨some 47, .loadx [6, 7] (some 4) (.t 46), none⟩,
        ⟨some 48, .faddr 3 (.t 3), none⟩,
        ⟨some 49, .loadx [6, 7] none (.t 48), none⟩,
        ⟨some 50, .mv (.t 5), none⟩,
        ⟨some 51, .iaddr 4 (.t 49) (.t 50), none⟩,
        ⟨some 52, .loadx [6, 7] (some 4) (.t 51), none⟩,
        ⟨some 6, .zalloc [.sc (.int .i64 0), .sc (.int .i64 0), .sc (.string ⟨#[]⟩), .sl .nil 4 []], none⟩,
        ⟨some 7, .zalloc [.sc (.int .i64 0), .sc (.int .i64 0), .sc (.string ⟨#[]⟩), .sl .nil 4 []], none⟩,
        ⟨none, .storek 6 (some 4) (.t 6) (.t 47), none⟩,
        ⟨none, .storek 7 (some 4) (.t 7) (.t 52), none⟩] [2, 3, 5, 6, 7])
      (.seq (.reg [⟨some 53, .faddr 0 (.t 6), none⟩,
        ⟨some 54, .load none (.t 53), none⟩,
        ⟨some 55, .faddr 0 (.t 7), none⟩,
        ⟨some 56, .load none (.t 55), none⟩,
        ⟨some 57, .bin .neq (.t 54) (.t 56), none⟩,
        ⟨some 58, .mv (.t 57), none⟩,
        ⟨some 59, .faddr 1 (.t 6), some (58, false)⟩,
        ⟨some 60, .load none (.t 59), some (58, false)⟩,
        ⟨some 61, .faddr 1 (.t 7), some (58, false)⟩,
        ⟨some 62, .load none (.t 61), some (58, false)⟩,
        ⟨some 63, .bin .neq (.t 60) (.t 62), some (58, false)⟩,
        ⟨some 64, .pick (.t 58) (.c (.sc (.bool true))) (.t 63), none⟩,
        ⟨some 65, .mv (.t 64), none⟩,
        ⟨some 66, .faddr 2 (.t 6), some (65, false)⟩,
        ⟨some 67, .load none (.t 66), some (65, false)⟩,
        ⟨some 68, .faddr 2 (.t 7), some (65, false)⟩,
        ⟨some 69, .load none (.t 68), some (65, false)⟩,
        ⟨some 70, .bin .neq (.t 67) (.t 69), some (65, false)⟩,
        ⟨some 71, .pick (.t 65) (.c (.sc (.bool true))) (.t 70), none⟩,
        ⟨some 72, .mv (.t 71), none⟩,
        ⟨some 73, .faddr 3 (.t 6), some (72, false)⟩,
        ⟨some 74, .load none (.t 73), some (72, false)⟩,
        ⟨some 75, .len (.t 74), some (72, false)⟩,
        ⟨some 76, .bin .gtr (.t 75) (.c (.sc (.int .i64 0))), some (72, false)⟩,
        ⟨some 77, .pick (.t 72) (.c (.sc (.bool true))) (.t 76), none⟩,
        ⟨some 78, .mv (.t 77), none⟩,
        ⟨some 79, .faddr 3 (.t 7), some (78, false)⟩,
        ⟨some 80, .load none (.t 79), some (78, false)⟩,
        ⟨some 81, .len (.t 80), some (78, false)⟩,
        ⟨some 82, .bin .gtr (.t 81) (.c (.sc (.int .i64 0))), some (78, false)⟩,
        ⟨some 83, .pick (.t 78) (.c (.sc (.bool true))) (.t 82), none⟩] [2, 3, 5, 83])
      (.cond (.t 83)
        (.seq (.reg [⟨some 4, .asg (.c (.sc (.bool false))), none⟩] [4])
        (.retB [4] []))
        .skip))))
    (.reg [⟨some 41, .mv (.t 5), none⟩,
      ⟨some 42, .bin .add (.t 41) (.c (.sc (.int .i64 1))), none⟩,
      ⟨some 5, .asg (.t 42), none⟩] [2, 3, 5])))
def lp_gatepostref02_Same_0 : ICode := .loop [2, 3, 5] [2, 3] lb_gatepostref02_Same_0
theorem lu_gatepostref02_Same_0 {Ω : Type} (T : Nat → Option (Ent Ω)) (st : FS Ω) : denL T lp_gatepostref02_Same_0 st = (reset [2, 3, 5] [2, 3] st).bind fun s => andThen (denL T lb_gatepostref02_Same_0 s) (denL T lp_gatepostref02_Same_0) := denL_loop T _ _ _ st
def ir_gatepostref02_Same : IFunc :=
  { n := 84, rets := [(4, none)], gives := false,
    body :=
    (.seq (.reg [⟨some 2, .box (some 4) (.t 0), none⟩,
      ⟨some 3, .box (some 4) (.t 1), none⟩,
      ⟨some 4, .asg (.c (.sc (.bool false))), none⟩] [2, 3])
    (.seq (.seq (.reg [⟨some 8, .faddr 0 (.t 2), none⟩,
      ⟨some 9, .load none (.t 8), none⟩,
      ⟨some 10, .faddr 0 (.t 3), none⟩,
      ⟨some 11, .load none (.t 10), none⟩,
      ⟨some 12, .bin .neq (.t 9) (.t 11), none⟩,
      ⟨some 13, .mv (.t 12), none⟩,
      ⟨some 14, .faddr 1 (.t 2), some (13, false)⟩,
      ⟨some 15, .load none (.t 14), some (13, false)⟩,
      ⟨some 16, .faddr 1 (.t 3), some (13, false)⟩,
      ⟨some 17, .load none (.t 16), some (13, false)⟩,
      ⟨some 18, .bin .neq (.t 15) (.t 17), some (13, false)⟩,
      ⟨some 19, .pick (.t 13) (.c (.sc (.bool true))) (.t 18), none⟩,
      ⟨some 20, .mv (.t 19), none⟩,
      ⟨some 21, .faddr 2 (.t 2), some (20, false)⟩,
      ⟨some 22, .load none (.t 21), some (20, false)⟩,
      ⟨some 23, .faddr 2 (.t 3), some (20, false)⟩,
      ⟨some 24, .load none (.t 23), some (20, false)⟩,
      ⟨some 25, .bin .neq (.t 22) (.t 24), some (20, false)⟩,
      ⟨some 26, .pick (.t 20) (.c (.sc (.bool true))) (.t 25), none⟩,
      ⟨some 27, .mv (.t 26), none⟩,
      ⟨some 28, .faddr 3 (.t 2), some (27, false)⟩,
      ⟨some 29, .load none (.t 28), some (27, false)⟩,
      ⟨some 30, .len (.t 29), some (27, false)⟩,
      ⟨some 31, .faddr 3 (.t 3), some (27, false)⟩,
      ⟨some 32, .load none (.t 31), some (27, false)⟩,
      ⟨some 33, .len (.t 32), some (27, false)⟩,
      ⟨some 34, .bin .neq (.t 30) (.t 33), some (27, false)⟩,
      ⟨some 35, .pick (.t 27) (.c (.sc (.bool true))) (.t 34), none⟩] [2, 3, 35])
    (.cond (.t 35)
      (.seq (.reg [⟨some 4, .asg (.c (.sc (.bool false))), none⟩] [4])
      (.retB [4] []))
      .skip))
    (.seq (.seq (.reg [⟨some 5, .asg (.c (.sc (.int .i64 0))), none⟩] [2, 3, 5])
    (.block 0
      lp_gatepostref02_Same_0))
    (.seq (.reg [⟨some 4, .asg (.c (.sc (.bool true))), none⟩] [4])
    (.retB [4] []))))) }
abbrev f_gatepostref02_Formed : Nat := 8
def lb_gatepostref02_Formed_0 : ICode :=
    (.seq (.seq (.reg [⟨some 23, .mv (.t 3), none⟩,
      ⟨some 24, .faddr 3 (.t 1), none⟩,
      ⟨some 25, .load none (.t 24), none⟩,
      ⟨some 26, .len (.t 25), none⟩,
      ⟨some 27, .bin .lss (.t 23) (.t 26), none⟩] [1, 3, 27])
    (.cond (.t 27)
      .skip
      (.exitB [] [] 0)))
    (.seq (.block 1
      (.seq (.reg [⟨some 30, .faddr 3 (.t 1), none⟩,
        ⟨some 31, .loadx [35, 75] none (.t 30), none⟩,
        ⟨some 32, .mv (.t 3), none⟩,
        ⟨some 33, .iaddr 4 (.t 31) (.t 32), none⟩,
        ⟨some 34, .loadx [35, 75] (some 4) (.t 33), none⟩,
        ⟨some 35, .call 18 [(.t 34)], none⟩,
        ⟨some 36, .un .not (.t 35), none⟩,
        ⟨some 37, .mv (.t 36), none⟩,
        ⟨some 38, .faddr 3 (.t 1), some (37, false)⟩,
        ⟨some 39, .loadx [35, 75] none (.t 38), some (37, false)⟩,
        ⟨some 40, .mv (.t 3), some (37, false)⟩,
        ⟨some 41, .iaddr 4 (.t 39) (.t 40), some (37, false)⟩,
        ⟨some 42, .faddr 0 (.t 41), some (37, false)⟩,
        ⟨some 43, .loadx [35, 75] none (.t 42), some (37, false)⟩,
        ⟨some 44, .bin .eql (.t 43) (.c (.sc (.int .i64 0))), some (37, false)⟩,
        ⟨some 45, .pick (.t 37) (.c (.sc (.bool true))) (.t 44), none⟩,
        ⟨some 46, .mv (.t 45), none⟩,
        ⟨some 47, .faddr 3 (.t 1), some (46, false)⟩,
        ⟨some 48, .loadx [35, 75] none (.t 47), some (46, false)⟩,
        ⟨some 49, .mv (.t 3), some (46, false)⟩,
        ⟨some 50, .iaddr 4 (.t 48) (.t 49), some (46, false)⟩,
        ⟨some 51, .faddr 0 (.t 50), some (46, false)⟩,
        ⟨some 52, .loadx [35, 75] none (.t 51), some (46, false)⟩,
        ⟨some 53, .faddr 3 (.t 1), some (46, false)⟩,
        ⟨some 54, .loadx [35, 75] none (.t 53), some (46, false)⟩,
        ⟨some 55, .iaddr 4 (.t 54) (.c (.sc (.int .i64 0))), some (46, false)⟩,
        ⟨some 56, .faddr 0 (.t 55), some (46, false)⟩,
        ⟨some 57, .loadx [35, 75] none (.t 56), some (46, false)⟩,
        ⟨some 58, .bin .neq (.t 52) (.t 57), some (46, false)⟩,
        ⟨some 59, .pick (.t 46) (.c (.sc (.bool true))) (.t 58), none⟩,
        ⟨some 60, .mv (.t 59), none⟩,
        ⟨some 61, .mv (.t 3), some (60, false)⟩,
        ⟨some 62, .bin .gtr (.t 61) (.c (.sc (.int .i64 0))), some (60, false)⟩,
        ⟨some 63, .mv (.t 62), some (60, false)⟩,
        ⟨some 64, .faddr 3 (.t 1), some (63, true)⟩,
        ⟨some 65, .loadx [35, 75] none (.t 64), some (63, true)⟩,
        ⟨some 66, .mv (.t 3), some (63, true)⟩,
        ⟨some 67, .bin .sub (.t 66) (.c (.sc (.int .i64 1))), some (63, true)⟩,
        ⟨some 68, .iaddr 4 (.t 65) (.t 67), some (63, true)⟩,
        ⟨some 69, .loadx [35, 75] (some 4) (.t 68), some (63, true)⟩,
        ⟨some 70, .faddr 3 (.t 1), some (63, true)⟩,
        ⟨some 71, .loadx [35, 75] none (.t 70), some (63, true)⟩,
        ⟨some 72, .mv (.t 3), some (63, true)⟩,
        ⟨some 73, .iaddr 4 (.t 71) (.t 72), some (63, true)⟩,
        ⟨some 74, .loadx [35, 75] (some 4) (.t 73), some (63, true)⟩,
        ⟨some 75, .call 19 [(.t 69), (.t 74)], some (63, true)⟩,
        ⟨some 76, .bin .geq (.t 75) (.c (.sc (.int .i64 0))), some (63, true)⟩,
        ⟨some 77, .pick (.t 63) (.t 76) (.c (.sc (.bool false))), some (60, false)⟩,
        ⟨some 78, .pick (.t 60) (.c (.sc (.bool true))) (.t 77), none⟩] [1, 3, 78])
      (.cond (.t 78)
        (.seq (.reg [⟨some 2, .asg (.c (.sc (.bool false))), none⟩] [2])
        (.retB [2] []))
        .skip)))
    (.reg [⟨some 28, .mv (.t 3), none⟩,
      ⟨some 29, .bin .add (.t 28) (.c (.sc (.int .i64 1))), none⟩,
      ⟨some 3, .asg (.t 29), none⟩] [1, 3])))
def lp_gatepostref02_Formed_0 : ICode := .loop [1, 3] [1] lb_gatepostref02_Formed_0
theorem lu_gatepostref02_Formed_0 {Ω : Type} (T : Nat → Option (Ent Ω)) (st : FS Ω) : denL T lp_gatepostref02_Formed_0 st = (reset [1, 3] [1] st).bind fun s => andThen (denL T lb_gatepostref02_Formed_0 s) (denL T lp_gatepostref02_Formed_0) := denL_loop T _ _ _ st
def ir_gatepostref02_Formed : IFunc :=
  { n := 79, rets := [(2, none)], gives := false,
    body :=
    (.seq (.reg [⟨some 1, .box (some 4) (.t 0), none⟩,
      ⟨some 2, .asg (.c (.sc (.bool false))), none⟩] [1])
    (.seq (.seq (.reg [⟨some 4, .faddr 0 (.t 1), none⟩,
      ⟨some 5, .load none (.t 4), none⟩,
      ⟨some 6, .bin .neq (.t 5) (.c (.sc (.int .i64 5))), none⟩] [1, 6])
    (.cond (.t 6)
      (.seq (.reg [⟨some 7, .load (some 4) (.t 1), none⟩,
        ⟨some 8, .call 18 [(.t 7)], none⟩,
        ⟨some 2, .asg (.t 8), none⟩] [2])
      (.retB [2] []))
      .skip))
    (.seq (.seq (.reg [⟨some 9, .faddr 1 (.t 1), none⟩,
      ⟨some 10, .load none (.t 9), none⟩,
      ⟨some 11, .bin .neq (.t 10) (.c (.sc (.int .i64 0))), none⟩,
      ⟨some 12, .mv (.t 11), none⟩,
      ⟨some 13, .faddr 2 (.t 1), some (12, false)⟩,
      ⟨some 14, .load none (.t 13), some (12, false)⟩,
      ⟨some 15, .bin .neq (.t 14) (.c (.sc (.string ⟨#[]⟩))), some (12, false)⟩,
      ⟨some 16, .pick (.t 12) (.c (.sc (.bool true))) (.t 15), none⟩,
      ⟨some 17, .mv (.t 16), none⟩,
      ⟨some 18, .faddr 3 (.t 1), some (17, false)⟩,
      ⟨some 19, .load none (.t 18), some (17, false)⟩,
      ⟨some 20, .len (.t 19), some (17, false)⟩,
      ⟨some 21, .bin .gtr (.t 20) (.c (.sc (.int .i64 16))), some (17, false)⟩,
      ⟨some 22, .pick (.t 17) (.c (.sc (.bool true))) (.t 21), none⟩] [1, 22])
    (.cond (.t 22)
      (.seq (.reg [⟨some 2, .asg (.c (.sc (.bool false))), none⟩] [2])
      (.retB [2] []))
      .skip))
    (.seq (.seq (.reg [⟨some 3, .asg (.c (.sc (.int .i64 0))), none⟩] [1, 3])
    (.block 0
      lp_gatepostref02_Formed_0))
    (.seq (.reg [⟨some 2, .asg (.c (.sc (.bool true))), none⟩] [2])
    (.retB [2] [])))))) }
abbrev f_gatepostref02_Bag : Nat := 9
def lb_gatepostref02_Bag_0 : ICode :=
    (.seq (.seq (.reg [⟨some 9, .mv (.t 4), none⟩,
      ⟨some 10, .mv (.t 0), none⟩,
      ⟨some 11, .len (.t 10), none⟩,
      ⟨some 12, .bin .lss (.t 9) (.t 11), none⟩] [0, 2, 4, 12])
    (.cond (.t 12)
      .skip
      (.exitB [0, 2] [2] 0)))
    (.seq (.block 1
      (.seq (.reg [⟨some 15, .mv (.t 0), none⟩,
        ⟨some 16, .mv (.t 4), none⟩,
        ⟨some 17, .iaddr 4 (.t 15) (.t 16), none⟩,
        ⟨some 18, .faddr 0 (.t 17), none⟩,
        ⟨some 19, .loadx [] none (.t 18), none⟩,
        ⟨some 20, .bin .eql (.t 19) (.c (.sc (.int .i64 0))), none⟩,
        ⟨some 21, .mv (.t 20), none⟩,
        ⟨some 22, .mv (.t 0), some (21, false)⟩,
        ⟨some 23, .mv (.t 4), some (21, false)⟩,
        ⟨some 24, .iaddr 4 (.t 22) (.t 23), some (21, false)⟩,
        ⟨some 25, .faddr 0 (.t 24), some (21, false)⟩,
        ⟨some 26, .loadx [] none (.t 25), some (21, false)⟩,
        ⟨some 27, .bin .eql (.t 26) (.c (.sc (.int .i64 5))), some (21, false)⟩,
        ⟨some 28, .pick (.t 21) (.c (.sc (.bool true))) (.t 27), none⟩,
        ⟨some 29, .mv (.t 28), none⟩,
        ⟨some 30, .mv (.t 0), some (29, false)⟩,
        ⟨some 31, .mv (.t 4), some (29, false)⟩,
        ⟨some 32, .iaddr 4 (.t 30) (.t 31), some (29, false)⟩,
        ⟨some 33, .faddr 0 (.t 32), some (29, false)⟩,
        ⟨some 34, .loadx [] none (.t 33), some (29, false)⟩,
        ⟨some 35, .mv (.t 0), some (29, false)⟩,
        ⟨some 36, .iaddr 4 (.t 35) (.c (.sc (.int .i64 0))), some (29, false)⟩,
        ⟨some 37, .faddr 0 (.t 36), some (29, false)⟩,
        ⟨some 38, .loadx [] none (.t 37), some (29, false)⟩,
        ⟨some 39, .bin .neq (.t 34) (.t 38), some (29, false)⟩,
        ⟨some 40, .pick (.t 29) (.c (.sc (.bool true))) (.t 39), none⟩] [0, 2, 4, 40])
      (.cond (.t 40)
        (.seq (.reg [⟨some 41, .build [.sc (.int .i64 0), .sc (.int .i64 0), .sc (.string ⟨#[]⟩), .sl .nil 4 []] [], none⟩,
          ⟨none, .store (some 4) (.t 2) (.t 41), none⟩,
          ⟨some 3, .asg (.c (.sc (.int .i64 6))), none⟩] [2, 3])
        (.retB [2, 3] [2]))
        .skip)))
    (.reg [⟨some 13, .mv (.t 4), none⟩,
      ⟨some 14, .bin .add (.t 13) (.c (.sc (.int .i64 1))), none⟩,
      ⟨some 4, .asg (.t 14), none⟩] [0, 2, 4])))
def lp_gatepostref02_Bag_0 : ICode := .loop [0, 2, 4] [2] lb_gatepostref02_Bag_0
theorem lu_gatepostref02_Bag_0 {Ω : Type} (T : Nat → Option (Ent Ω)) (st : FS Ω) : denL T lp_gatepostref02_Bag_0 st = (reset [0, 2, 4] [2] st).bind fun s => andThen (denL T lb_gatepostref02_Bag_0 s) (denL T lp_gatepostref02_Bag_0) := denL_loop T _ _ _ st
def lb_gatepostref02_Bag_1 : ICode :=
    (.seq (.seq (.reg [⟨some 49, .mv (.t 7), none⟩,
      ⟨some 50, .faddr 3 (.t 5), none⟩,
      ⟨some 51, .loadx [64] none (.t 50), none⟩,
      ⟨some 52, .len (.t 51), none⟩,
      ⟨some 53, .bin .lss (.t 49) (.t 52), none⟩,
      ⟨some 54, .mv (.t 53), none⟩,
      ⟨some 55, .faddr 3 (.t 5), some (54, true)⟩,
      ⟨some 56, .loadx [64] none (.t 55), some (54, true)⟩,
      ⟨some 57, .mv (.t 7), some (54, true)⟩,
      ⟨some 58, .iaddr 4 (.t 56) (.t 57), some (54, true)⟩,
      ⟨some 59, .loadx [64] (some 4) (.t 58), some (54, true)⟩,
      ⟨some 60, .mv (.t 0), some (54, true)⟩,
      ⟨some 61, .mv (.t 6), some (54, true)⟩,
      ⟨some 62, .iaddr 4 (.t 60) (.t 61), some (54, true)⟩,
      ⟨some 63, .loadx [64] (some 4) (.t 62), some (54, true)⟩,
      ⟨some 64, .call 19 [(.t 59), (.t 63)], some (54, true)⟩,
      ⟨some 65, .bin .lss (.t 64) (.c (.sc (.int .i64 0))), some (54, true)⟩,
      ⟨some 66, .pick (.t 54) (.t 65) (.c (.sc (.bool false))), none⟩] [0, 2, 5, 6, 7, 66])
    (.cond (.t 66)
      .skip
      (.exitB [0, 2, 5, 6, 7] [2, 5] 4)))
    (.block 5
      (.reg [⟨some 67, .mv (.t 7), none⟩,
        ⟨some 68, .bin .add (.t 67) (.c (.sc (.int .i64 1))), none⟩,
        ⟨some 7, .asg (.t 68), none⟩] [0, 2, 5, 6, 7])))
def lp_gatepostref02_Bag_1 : ICode := .loop [0, 2, 5, 6, 7] [2, 5] lb_gatepostref02_Bag_1
theorem lu_gatepostref02_Bag_1 {Ω : Type} (T : Nat → Option (Ent Ω)) (st : FS Ω) : denL T lp_gatepostref02_Bag_1 st = (reset [0, 2, 5, 6, 7] [2, 5] st).bind fun s => andThen (denL T lb_gatepostref02_Bag_1 s) (denL T lp_gatepostref02_Bag_1) := denL_loop T _ _ _ st
def lb_gatepostref02_Bag_2 : ICode :=
    (.seq (.seq (.reg [⟨some 43, .mv (.t 6), none⟩,
      ⟨some 44, .mv (.t 0), none⟩,
      ⟨some 45, .len (.t 44), none⟩,
      ⟨some 46, .bin .lss (.t 43) (.t 45), none⟩] [0, 2, 5, 6, 46])
    (.cond (.t 46)
      .skip
      (.exitB [2, 5] [2, 5] 2)))
    (.seq (.block 3
      (.seq (.reg [⟨some 7, .asg (.c (.sc (.int .i64 0))), none⟩] [0, 2, 5, 6, 7])
      (.seq (.block 4
        lp_gatepostref02_Bag_1)
      (.seq (.seq (.reg [⟨some 69, .mv (.t 7), none⟩,
        ⟨some 70, .faddr 3 (.t 5), none⟩,
        ⟨some 71, .loadx [84] none (.t 70), none⟩,
        ⟨some 72, .len (.t 71), none⟩,
        ⟨some 73, .bin .lss (.t 69) (.t 72), none⟩,
        ⟨some 74, .mv (.t 73), none⟩,
        ⟨some 75, .faddr 3 (.t 5), some (74, true)⟩,
        ⟨some 76, .loadx [84] none (.t 75), some (74, true)⟩,
        ⟨some 77, .mv (.t 7), some (74, true)⟩,
        ⟨some 78, .iaddr 4 (.t 76) (.t 77), some (74, true)⟩,
        ⟨some 79, .loadx [84] (some 4) (.t 78), some (74, true)⟩,
        ⟨some 80, .mv (.t 0), some (74, true)⟩,
        ⟨some 81, .mv (.t 6), some (74, true)⟩,
        ⟨some 82, .iaddr 4 (.t 80) (.t 81), some (74, true)⟩,
        ⟨some 83, .loadx [84] (some 4) (.t 82), some (74, true)⟩,
        ⟨some 84, .call 19 [(.t 79), (.t 83)], some (74, true)⟩,
        ⟨some 85, .bin .eql (.t 84) (.c (.sc (.int .i64 0))), some (74, true)⟩,
        ⟨some 86, .pick (.t 74) (.t 85) (.c (.sc (.bool false))), none⟩] [0, 2, 5, 6, 7, 86])
      (.cond (.t 86)
        (.exitB [0, 2, 5, 6] [2, 5] 3)
        .skip))
      (.seq (.reg [⟨some 8, .asg (.c (.sl .nil 4 [])), none⟩] [0, 2, 5, 6, 7, 8])
      (.seq (.reg [⟨some 87, .mv (.t 8), none⟩,
        ⟨some 88, .faddr 3 (.t 5), none⟩,
        ⟨some 89, .load none (.t 88), none⟩,
        ⟨some 90, .mv (.t 7), none⟩,
        ⟨some 91, .slice 4 (.t 89) none (some (.t 90)), none⟩,
        ⟨some 92, .app (some (.slot 8)) 4 56 (.t 87) (.t 91), none⟩,
        ⟨some 8, .asg (.t 92), none⟩] [0, 2, 5, 6, 7, 8])
      (.seq (.reg [⟨some 93, .mv (.t 8), none⟩,
        ⟨some 94, .mv (.t 0), none⟩,
        ⟨some 95, .mv (.t 6), none⟩,
        ⟨some 96, .iaddr 4 (.t 94) (.t 95), none⟩,
        ⟨some 97, .load (some 4) (.t 96), none⟩,
        ⟨some 98, .bslice 4 false [(.t 97)], none⟩,
        ⟨some 99, .app (some (.slot 8)) 4 56 (.t 93) (.t 98), none⟩,
        ⟨some 8, .asg (.t 99), none⟩] [0, 2, 5, 6, 7, 8])
      (.seq (.reg [⟨some 100, .mv (.t 8), none⟩,
        ⟨some 101, .faddr 3 (.t 5), none⟩,
        ⟨some 102, .load none (.t 101), none⟩,
        ⟨some 103, .mv (.t 7), none⟩,
        ⟨some 104, .slice 4 (.t 102) (some (.t 103)) none, none⟩,
        ⟨some 105, .app (some (.slot 8)) 4 56 (.t 100) (.t 104), none⟩,
        ⟨some 8, .asg (.t 105), none⟩] [0, 2, 5, 6, 8])
      (.reg [⟨some 106, .mv (.t 8), none⟩,
        ⟨some 107, .faddr 3 (.t 5), none⟩,
        ⟨none, .store none (.t 107) (.t 106), none⟩] [0, 2, 5, 6])))))))))
    (.reg [⟨some 47, .mv (.t 6), none⟩,
      ⟨some 48, .bin .add (.t 47) (.c (.sc (.int .i64 1))), none⟩,
      ⟨some 6, .asg (.t 48), none⟩] [0, 2, 5, 6])))
def lp_gatepostref02_Bag_2 : ICode := .loop [0, 2, 5, 6] [2, 5] lb_gatepostref02_Bag_2
theorem lu_gatepostref02_Bag_2 {Ω : Type} (T : Nat → Option (Ent Ω)) (st : FS Ω) : denL T lp_gatepostref02_Bag_2 st = (reset [0, 2, 5, 6] [2, 5] st).bind fun s => andThen (denL T lb_gatepostref02_Bag_2 s) (denL T lp_gatepostref02_Bag_2) := denL_loop T _ _ _ st
def ir_gatepostref02_Bag : IFunc :=
  { n := 114, rets := [(2, some (some 4)), (3, none)], gives := false,
    body :=
    (.seq (.reg [⟨some 2, .zalloc [.sc (.int .i64 0), .sc (.int .i64 0), .sc (.string ⟨#[]⟩), .sl .nil 4 []], none⟩,
      ⟨some 3, .asg (.c (.sc (.int .i64 0))), none⟩] [0, 2])
    (.seq (.seq (.reg [⟨some 4, .asg (.c (.sc (.int .i64 0))), none⟩] [0, 2, 4])
    (.block 0
      lp_gatepostref02_Bag_0))
    (.seq (.reg [⟨some 42, .build [.sc (.int .i64 0), .sc (.int .i64 0), .sc (.string ⟨#[]⟩), .sl .nil 4 []] [(0, none, (.c (.sc (.int .i64 5))))], none⟩,
      ⟨some 5, .zalloc [.sc (.int .i64 0), .sc (.int .i64 0), .sc (.string ⟨#[]⟩), .sl .nil 4 []], none⟩,
      ⟨none, .store (some 4) (.t 5) (.t 42), none⟩] [0, 2, 5])
    (.seq (.seq (.reg [⟨some 6, .asg (.c (.sc (.int .i64 0))), none⟩] [0, 2, 5, 6])
    (.block 2
      lp_gatepostref02_Bag_2))
    (.seq (.seq (.reg [⟨some 108, .faddr 3 (.t 5), none⟩,
      ⟨some 109, .load none (.t 108), none⟩,
      ⟨some 110, .len (.t 109), none⟩,
      ⟨some 111, .bin .gtr (.t 110) (.c (.sc (.int .i64 16))), none⟩] [2, 5, 111])
    (.cond (.t 111)
      (.seq (.reg [⟨some 112, .build [.sc (.int .i64 0), .sc (.int .i64 0), .sc (.string ⟨#[]⟩), .sl .nil 4 []] [], none⟩,
        ⟨none, .store (some 4) (.t 2) (.t 112), none⟩,
        ⟨some 3, .asg (.c (.sc (.int .i64 13))), none⟩] [2, 3])
      (.retB [2, 3] [2]))
      .skip))
    (.seq (.reg [⟨some 113, .load (some 4) (.t 5), none⟩,
      ⟨none, .store (some 4) (.t 2) (.t 113), none⟩,
      ⟨some 3, .asg (.c (.sc (.int .i64 0))), none⟩] [2, 3])
    (.retB [2, 3] [2]))))))) }
abbrev f_value_Formed : Nat := 10
def lb_value_Formed_0 : ICode :=
    (.seq (.reg [⟨some 14, .bin .lss (.t 13) (.t 12), none⟩] [1, 11, 12, 13, 14])
    (.seq (.cond (.t 14)
      .skip
      (.exitB [1] [1] 0))
    (.seq (.block 1
      (.seq (.reg [⟨some 15, .mv (.t 13), none⟩,
        ⟨some 16, .iaddr 4 (.t 11) (.t 13), none⟩,
        ⟨some 17, .load (some 4) (.t 16), none⟩,
        ⟨some 4, .zalloc [.sc (.int .i64 0), .sc (.int .i64 0), .sc (.string ⟨#[]⟩), .sl .nil 4 []], none⟩,
        ⟨some 3, .asg (.t 15), none⟩,
        ⟨none, .store (some 4) (.t 4) (.t 17), none⟩] [1, 3, 4, 11, 12, 13])
      (.seq (.reg [⟨some 18, .loadx [19, 47] (some 4) (.t 4), none⟩,
        ⟨some 19, .call 20 [(.t 18)], none⟩,
        ⟨some 20, .un .not (.t 19), none⟩,
        ⟨some 21, .mv (.t 20), none⟩,
        ⟨some 22, .faddr 0 (.t 4), some (21, false)⟩,
        ⟨some 23, .loadx [19, 47] none (.t 22), some (21, false)⟩,
        ⟨some 24, .bin .eql (.t 23) (.c (.sc (.int .i64 0))), some (21, false)⟩,
        ⟨some 25, .pick (.t 21) (.c (.sc (.bool true))) (.t 24), none⟩,
        ⟨some 26, .mv (.t 25), none⟩,
        ⟨some 27, .faddr 0 (.t 4), some (26, false)⟩,
        ⟨some 28, .loadx [19, 47] none (.t 27), some (26, false)⟩,
        ⟨some 29, .faddr 3 (.t 1), some (26, false)⟩,
        ⟨some 30, .loadx [19, 47] none (.t 29), some (26, false)⟩,
        ⟨some 31, .iaddr 4 (.t 30) (.c (.sc (.int .i64 0))), some (26, false)⟩,
        ⟨some 32, .faddr 0 (.t 31), some (26, false)⟩,
        ⟨some 33, .loadx [19, 47] none (.t 32), some (26, false)⟩,
        ⟨some 34, .bin .neq (.t 28) (.t 33), some (26, false)⟩,
        ⟨some 35, .pick (.t 26) (.c (.sc (.bool true))) (.t 34), none⟩,
        ⟨some 36, .mv (.t 35), none⟩,
        ⟨some 37, .mv (.t 3), some (36, false)⟩,
        ⟨some 38, .bin .gtr (.t 37) (.c (.sc (.int .i64 0))), some (36, false)⟩,
        ⟨some 39, .mv (.t 38), some (36, false)⟩,
        ⟨some 40, .faddr 3 (.t 1), some (39, true)⟩,
        ⟨some 41, .loadx [19, 47] none (.t 40), some (39, true)⟩,
        ⟨some 42, .mv (.t 3), some (39, true)⟩,
        ⟨some 43, .bin .sub (.t 42) (.c (.sc (.int .i64 1))), some (39, true)⟩,
        ⟨some 44, .iaddr 4 (.t 41) (.t 43), some (39, true)⟩,
        ⟨some 45, .loadx [19, 47] (some 4) (.t 44), some (39, true)⟩,
        ⟨some 46, .loadx [19, 47] (some 4) (.t 4), some (39, true)⟩,
        ⟨some 47, .call 15 [(.t 45), (.t 46)], some (39, true)⟩,
        ⟨some 48, .bin .geq (.t 47) (.c (.sc (.int .i64 0))), some (39, true)⟩,
        ⟨some 49, .pick (.t 39) (.t 48) (.c (.sc (.bool false))), some (36, false)⟩,
        ⟨some 50, .pick (.t 36) (.c (.sc (.bool true))) (.t 49), none⟩] [1, 11, 12, 13, 50])
      (.cond (.t 50)
        (.seq (.reg [⟨some 2, .asg (.c (.sc (.bool false))), none⟩] [2])
        (.retB [2] []))
        .skip))))
    (.reg [⟨some 51, .bin .add (.t 13) (.c (.sc (.int .i64 1))), none⟩,
      ⟨some 13, .mv (.t 51), none⟩] [1, 11, 12, 13]))))
def lp_value_Formed_0 : ICode := .loop [1, 11, 12, 13] [1] lb_value_Formed_0
theorem lu_value_Formed_0 {Ω : Type} (T : Nat → Option (Ent Ω)) (st : FS Ω) : denL T lp_value_Formed_0 st = (reset [1, 11, 12, 13] [1] st).bind fun s => andThen (denL T lb_value_Formed_0 s) (denL T lp_value_Formed_0) := denL_loop T _ _ _ st
def ir_value_Formed : IFunc :=
  { n := 66, rets := [(2, none)], gives := false,
    body :=
    (.seq (.reg [⟨some 1, .box (some 4) (.t 0), none⟩,
      ⟨some 2, .asg (.c (.sc (.bool false))), none⟩] [1])
    (.seq (.seq (.reg [⟨some 5, .faddr 0 (.t 1), none⟩,
      ⟨some 6, .load none (.t 5), none⟩,
      ⟨some 7, .bin .neq (.t 6) (.c (.sc (.int .i64 5))), none⟩] [1, 7])
    (.cond (.t 7)
      (.seq (.reg [⟨some 8, .load (some 4) (.t 1), none⟩,
        ⟨some 9, .call 20 [(.t 8)], none⟩,
        ⟨some 2, .asg (.t 9), none⟩] [2])
      (.retB [2] []))
      .skip))
    (.seq (.seq (.reg [⟨some 10, .faddr 3 (.t 1), none⟩,
      ⟨some 11, .load none (.t 10), none⟩,
      ⟨some 12, .len (.t 11), none⟩,
      ⟨some 13, .mv (.c (.sc (.int .i64 0))), none⟩] [1, 11, 12, 13])
    (.block 0
      lp_value_Formed_0))
    (.seq (.reg [⟨some 52, .faddr 1 (.t 1), none⟩,
      ⟨some 53, .load none (.t 52), none⟩,
      ⟨some 54, .bin .eql (.t 53) (.c (.sc (.int .i64 0))), none⟩,
      ⟨some 55, .mv (.t 54), none⟩,
      ⟨some 56, .faddr 2 (.t 1), some (55, true)⟩,
      ⟨some 57, .load none (.t 56), some (55, true)⟩,
      ⟨some 58, .bin .eql (.t 57) (.c (.sc (.string ⟨#[]⟩))), some (55, true)⟩,
      ⟨some 59, .pick (.t 55) (.t 58) (.c (.sc (.bool false))), none⟩,
      ⟨some 60, .mv (.t 59), none⟩,
      ⟨some 61, .faddr 3 (.t 1), some (60, true)⟩,
      ⟨some 62, .load none (.t 61), some (60, true)⟩,
      ⟨some 63, .len (.t 62), some (60, true)⟩,
      ⟨some 64, .bin .leq (.t 63) (.c (.sc (.int .i64 16))), some (60, true)⟩,
      ⟨some 65, .pick (.t 60) (.t 64) (.c (.sc (.bool false))), none⟩,
      ⟨some 2, .asg (.t 65), none⟩] [2])
    (.retB [2] []))))) }
abbrev f_value_Add : Nat := 11
def ir_value_Add : IFunc :=
  { n := 45, rets := [(4, some (some 4)), (5, none)], gives := false,
    body :=
    (.seq (.reg [⟨some 2, .box (some 4) (.t 0), none⟩,
      ⟨some 3, .box (some 4) (.t 1), none⟩,
      ⟨some 4, .zalloc [.sc (.int .i64 0), .sc (.int .i64 0), .sc (.string ⟨#[]⟩), .sl .nil 4 []], none⟩,
      ⟨some 5, .asg (.c (.sc (.int .i64 0))), none⟩] [2, 3, 4])
    (.seq (.seq (.reg [⟨some 6, .load (some 4) (.t 2), none⟩,
      ⟨some 7, .call 10 [(.t 6)], none⟩,
      ⟨some 8, .un .not (.t 7), none⟩,
      ⟨some 9, .mv (.t 8), none⟩,
      ⟨some 10, .load (some 4) (.t 3), some (9, false)⟩,
      ⟨some 11, .call 10 [(.t 10)], some (9, false)⟩,
      ⟨some 12, .un .not (.t 11), some (9, false)⟩,
      ⟨some 13, .pick (.t 9) (.c (.sc (.bool true))) (.t 12), none⟩] [2, 3, 4, 13])
    (.cond (.t 13)
      (.seq (.reg [⟨some 14, .build [.sc (.int .i64 0), .sc (.int .i64 0), .sc (.string ⟨#[]⟩), .sl .nil 4 []] [], none⟩,
        ⟨none, .store (some 4) (.t 4) (.t 14), none⟩,
        ⟨some 5, .asg (.c (.sc (.int .i64 1))), none⟩] [4, 5])
      (.retB [4, 5] [4]))
      .skip))
    (.seq (.seq (.reg [⟨some 15, .load (some 4) (.t 2), none⟩,
      ⟨some 16, .load (some 4) (.t 3), none⟩,
      ⟨some 17, .call 21 [(.t 15), (.t 16)], none⟩] [2, 3, 4, 17])
    (.block 0
      (.seq (.reg [⟨some 19, .build [.sc (.int .i64 0), .sc (.int .i64 0)] [(0, none, (.c (.sc (.int .i64 2)))), (1, none, (.c (.sc (.int .i64 2))))], none⟩,
        ⟨some 20, .eqs [.num, .num] false (.t 17) (.t 19), none⟩,
        ⟨some 18, .asg (.t 20), none⟩] [2, 3, 4, 17, 18])
      (.cond (.t 18)
        (.seq (.reg [⟨some 21, .faddr 1 (.t 2), none⟩,
          ⟨some 22, .load none (.t 21), none⟩,
          ⟨some 23, .faddr 1 (.t 3), none⟩,
          ⟨some 24, .load none (.t 23), none⟩,
          ⟨some 25, .call 23 [(.t 22), (.t 24)], none⟩,
          ⟨some 26, .extr (.t 25) 0, none⟩,
          ⟨some 27, .extr (.t 25) 1, none⟩,
          ⟨some 28, .call 22 [(.t 26), (.t 27)], none⟩,
          ⟨some 29, .extr (.t 28) 0, none⟩,
          ⟨some 30, .extr (.t 28) 1, none⟩,
          ⟨none, .store (some 4) (.t 4) (.t 29), none⟩,
          ⟨some 5, .asg (.t 30), none⟩] [4, 5])
        (.retB [4, 5] [4]))
        (.seq (.reg [⟨some 32, .build [.sc (.int .i64 0), .sc (.int .i64 0)] [(0, none, (.c (.sc (.int .i64 4)))), (1, none, (.c (.sc (.int .i64 2))))], none⟩,
          ⟨some 33, .eqs [.num, .num] false (.t 17) (.t 32), none⟩,
          ⟨some 31, .asg (.t 33), none⟩] [2, 3, 4, 31])
        (.cond (.t 31)
          (.seq (.reg [⟨some 34, .faddr 1 (.t 2), none⟩,
            ⟨some 35, .load none (.t 34), none⟩,
            ⟨some 36, .faddr 1 (.t 3), none⟩,
            ⟨some 37, .load none (.t 36), none⟩,
            ⟨some 38, .call 23 [(.t 35), (.t 37)], none⟩,
            ⟨some 39, .extr (.t 38) 0, none⟩,
            ⟨some 40, .extr (.t 38) 1, none⟩,
            ⟨some 41, .call 24 [(.t 39), (.t 40)], none⟩,
            ⟨some 42, .extr (.t 41) 0, none⟩,
            ⟨some 43, .extr (.t 41) 1, none⟩,
            ⟨none, .store (some 4) (.t 4) (.t 42), none⟩,
            ⟨some 5, .asg (.t 43), none⟩] [4, 5])
          (.retB [4, 5] [4]))
          .skip))))))
    (.seq (.reg [⟨some 44, .build [.sc (.int .i64 0), .sc (.int .i64 0), .sc (.string ⟨#[]⟩), .sl .nil 4 []] [], none⟩,
      ⟨none, .store (some 4) (.t 4) (.t 44), none⟩,
      ⟨some 5, .asg (.c (.sc (.int .i64 6))), none⟩] [4, 5])
    (.retB [4, 5] [4]))))) }
abbrev f_value_Number : Nat := 12
def ir_value_Number : IFunc :=
  { n := 5, rets := [(2, some (some 4))], gives := false,
    body :=
    (.seq (.reg [⟨some 2, .zalloc [.sc (.int .i64 0), .sc (.int .i64 0), .sc (.string ⟨#[]⟩), .sl .nil 4 []], none⟩] [0, 2])
    (.seq (.reg [⟨some 3, .mv (.t 0), none⟩,
      ⟨some 4, .build [.sc (.int .i64 0), .sc (.int .i64 0), .sc (.string ⟨#[]⟩), .sl .nil 4 []] [(0, none, (.c (.sc (.int .i64 2)))), (1, none, (.t 3))], none⟩,
      ⟨none, .store (some 4) (.t 2) (.t 4), none⟩] [2])
    (.retB [2] [2]))) }
abbrev f_slices_Clone_api_Value : Nat := 13
def ir_slices_Clone_api_Value : IFunc :=
  { n := 8, rets := [(2, none)], gives := false,
    body :=
    (.seq (.reg [⟨some 2, .asg (.c (.sl .nil 4 [])), none⟩] [0])
    (.seq (.seq (.reg [⟨some 3, .mv (.t 0), none⟩,
      ⟨some 4, .eqnils false (.t 3), none⟩] [0, 4])
    (.cond (.t 4)
      (.seq (.reg [⟨some 2, .asg (.c (.sl .nil 4 [])), none⟩] [2])
      (.retB [2] []))
      .skip))
    (.seq (.reg [⟨some 5, .bslice 4 false [], none⟩,
      ⟨some 6, .mv (.t 0), none⟩,
      ⟨some 7, .app none 4 56 (.t 5) (.t 6), none⟩,
      ⟨some 2, .asg (.t 7), none⟩] [2])
    (.retB [2] [])))) }
abbrev f_value_Order : Nat := 15
def ir_value_Order : IFunc :=
  { n := 31, rets := [(4, none)], gives := false,
    body :=
    (.seq (.reg [⟨some 2, .box (some 4) (.t 0), none⟩,
      ⟨some 3, .box (some 4) (.t 1), none⟩,
      ⟨some 4, .asg (.c (.sc (.int .i64 0))), none⟩] [2, 3])
    (.seq (.seq (.reg [⟨some 6, .faddr 0 (.t 2), none⟩,
      ⟨some 7, .loadx [10, 15, 20, 22] none (.t 6), none⟩,
      ⟨some 8, .faddr 0 (.t 3), none⟩,
      ⟨some 9, .loadx [10, 15, 20, 22] none (.t 8), none⟩,
      ⟨some 10, .call 28 [(.t 7), (.t 9)], none⟩,
      ⟨some 11, .faddr 1 (.t 2), none⟩,
      ⟨some 12, .loadx [10, 15, 20, 22] none (.t 11), none⟩,
      ⟨some 13, .faddr 1 (.t 3), none⟩,
      ⟨some 14, .loadx [10, 15, 20, 22] none (.t 13), none⟩,
      ⟨some 15, .call 29 [(.t 12), (.t 14)], none⟩,
      ⟨some 16, .faddr 2 (.t 2), none⟩,
      ⟨some 17, .loadx [10, 15, 20, 22] none (.t 16), none⟩,
      ⟨some 18, .faddr 2 (.t 3), none⟩,
      ⟨some 19, .loadx [10, 15, 20, 22] none (.t 18), none⟩,
      ⟨some 20, .call 30 [(.t 17), (.t 19)], none⟩,
      ⟨some 21, .bslice 1 true [(.t 10), (.t 15), (.t 20)], none⟩,
      ⟨some 22, .call 27 [(.t 21)], none⟩,
      ⟨some 5, .asg (.t 22), none⟩] [2, 3, 5])
    (.seq (.reg [⟨some 23, .mv (.t 5), none⟩,
      ⟨some 24, .bin .neq (.t 23) (.c (.sc (.int .i64 0))), none⟩] [2, 3, 5, 24])
    (.cond (.t 24)
      (.seq (.reg [⟨some 25, .mv (.t 5), none⟩,
        ⟨some 4, .asg (.t 25), none⟩] [4])
      (.retB [4] []))
      .skip)))
    (.seq (.reg [⟨some 26, .faddr 3 (.t 2), none⟩,
      ⟨some 27, .load none (.t 26), none⟩,
      ⟨some 28, .faddr 3 (.t 3), none⟩,
      ⟨some 29, .load none (.t 28), none⟩,
      ⟨some 30, .call 31 [(.t 27), (.t 29), (.f 15)], none⟩,
      ⟨some 4, .asg (.t 30), none⟩] [4])
    (.retB [4] [])))) }
abbrev f_value_Bag_c1 : Nat := 17
def ir_value_Bag_c1 : IFunc :=
  { n := 9, rets := [(4, none)], gives := false,
    body :=
    (.seq (.reg [⟨some 2, .box (some 4) (.t 0), none⟩,
      ⟨some 3, .box (some 4) (.t 1), none⟩,
      ⟨some 4, .asg (.c (.sc (.bool false))), none⟩] [2, 3])
    (.seq (.reg [⟨some 5, .load (some 4) (.t 2), none⟩,
      ⟨some 6, .load (some 4) (.t 3), none⟩,
      ⟨some 7, .call 15 [(.t 5), (.t 6)], none⟩,
      ⟨some 8, .bin .eql (.t 7) (.c (.sc (.int .i64 0))), none⟩,
      ⟨some 4, .asg (.t 8), none⟩] [4])
    (.retB [4] []))) }
abbrev f_gatepostref02_one : Nat := 18
def ir_gatepostref02_one : IFunc :=
  { n := 70, rets := [(2, none)], gives := false,
    body :=
    (.seq (.reg [⟨some 1, .box (some 4) (.t 0), none⟩,
      ⟨some 2, .asg (.c (.sc (.bool false))), none⟩] [1])
    (.seq (.seq (.reg [⟨some 3, .faddr 3 (.t 1), none⟩,
      ⟨some 4, .load none (.t 3), none⟩,
      ⟨some 5, .len (.t 4), none⟩,
      ⟨some 6, .bin .gtr (.t 5) (.c (.sc (.int .i64 0))), none⟩,
      ⟨some 7, .mv (.t 6), none⟩,
      ⟨some 8, .faddr 0 (.t 1), some (7, false)⟩,
      ⟨some 9, .load none (.t 8), some (7, false)⟩,
      ⟨some 10, .bin .lss (.t 9) (.c (.sc (.int .i64 0))), some (7, false)⟩,
      ⟨some 11, .pick (.t 7) (.c (.sc (.bool true))) (.t 10), none⟩,
      ⟨some 12, .mv (.t 11), none⟩,
      ⟨some 13, .faddr 0 (.t 1), some (12, false)⟩,
      ⟨some 14, .load none (.t 13), some (12, false)⟩,
      ⟨some 15, .bin .gtr (.t 14) (.c (.sc (.int .i64 4))), some (12, false)⟩,
      ⟨some 16, .pick (.t 12) (.c (.sc (.bool true))) (.t 15), none⟩] [1, 16])
    (.cond (.t 16)
      (.seq (.reg [⟨some 2, .asg (.c (.sc (.bool false))), none⟩] [2])
      (.retB [2] []))
      .skip))
    (.seq (.seq (.reg [⟨some 17, .faddr 0 (.t 1), none⟩,
      ⟨some 18, .load none (.t 17), none⟩,
      ⟨some 19, .bin .eql (.t 18) (.c (.sc (.int .i64 3))), none⟩] [1, 19])
    (.cond (.t 19)
      (.seq (.reg [⟨some 20, .faddr 1 (.t 1), none⟩,
        ⟨some 21, .load none (.t 20), none⟩,
        ⟨some 22, .bin .eql (.t 21) (.c (.sc (.int .i64 0))), none⟩,
        ⟨some 23, .mv (.t 22), none⟩,
        ⟨some 24, .faddr 2 (.t 1), some (23, true)⟩,
        ⟨some 25, .load none (.t 24), some (23, true)⟩,
        ⟨some 26, .slen (.t 25), some (23, true)⟩,
        ⟨some 27, .bin .leq (.t 26) (.c (.sc (.int .i64 64))), some (23, true)⟩,
        ⟨some 28, .pick (.t 23) (.t 27) (.c (.sc (.bool false))), none⟩,
        ⟨some 2, .asg (.t 28), none⟩] [2])
      (.retB [2] []))
      .skip))
    (.seq (.seq (.reg [⟨some 29, .faddr 2 (.t 1), none⟩,
      ⟨some 30, .load none (.t 29), none⟩,
      ⟨some 31, .bin .neq (.t 30) (.c (.sc (.string ⟨#[]⟩))), none⟩,
      ⟨some 32, .mv (.t 31), none⟩,
      ⟨some 33, .faddr 0 (.t 1), some (32, false)⟩,
      ⟨some 34, .load none (.t 33), some (32, false)⟩,
      ⟨some 35, .bin .eql (.t 34) (.c (.sc (.int .i64 0))), some (32, false)⟩,
      ⟨some 36, .mv (.t 35), some (32, false)⟩,
      ⟨some 37, .faddr 1 (.t 1), some (36, true)⟩,
      ⟨some 38, .load none (.t 37), some (36, true)⟩,
      ⟨some 39, .bin .neq (.t 38) (.c (.sc (.int .i64 0))), some (36, true)⟩,
      ⟨some 40, .pick (.t 36) (.t 39) (.c (.sc (.bool false))), some (32, false)⟩,
      ⟨some 41, .pick (.t 32) (.c (.sc (.bool true))) (.t 40), none⟩,
      ⟨some 42, .mv (.t 41), none⟩,
      ⟨some 43, .faddr 0 (.t 1), some (42, false)⟩,
      ⟨some 44, .load none (.t 43), some (42, false)⟩,
      ⟨some 45, .bin .eql (.t 44) (.c (.sc (.int .i64 1))), some (42, false)⟩,
      ⟨some 46, .mv (.t 45), some (42, false)⟩,
      ⟨some 47, .faddr 1 (.t 1), some (46, true)⟩,
      ⟨some 48, .load none (.t 47), some (46, true)⟩,
      ⟨some 49, .bin .neq (.t 48) (.c (.sc (.int .i64 0))), some (46, true)⟩,
      ⟨some 50, .pick (.t 46) (.t 49) (.c (.sc (.bool false))), some (42, false)⟩,
      ⟨some 51, .mv (.t 50), some (42, false)⟩,
      ⟨some 52, .faddr 1 (.t 1), some (51, true)⟩,
      ⟨some 53, .load none (.t 52), some (51, true)⟩,
      ⟨some 54, .bin .neq (.t 53) (.c (.sc (.int .i64 1))), some (51, true)⟩,
      ⟨some 55, .pick (.t 51) (.t 54) (.c (.sc (.bool false))), some (42, false)⟩,
      ⟨some 56, .pick (.t 42) (.c (.sc (.bool true))) (.t 55), none⟩] [1, 56])
    (.cond (.t 56)
      (.seq (.reg [⟨some 2, .asg (.c (.sc (.bool false))), none⟩] [2])
      (.retB [2] []))
      .skip))
    (.seq (.reg [⟨some 57, .faddr 0 (.t 1), none⟩,
      ⟨some 58, .load none (.t 57), none⟩,
      ⟨some 59, .bin .neq (.t 58) (.c (.sc (.int .i64 4))), none⟩,
      ⟨some 60, .mv (.t 59), none⟩,
      ⟨some 61, .faddr 1 (.t 1), some (60, false)⟩,
      ⟨some 62, .load none (.t 61), some (60, false)⟩,
      ⟨some 63, .bin .geq (.t 62) (.c (.sc (.int .i64 0))), some (60, false)⟩,
      ⟨some 64, .mv (.t 63), some (60, false)⟩,
      ⟨some 65, .faddr 1 (.t 1), some (64, true)⟩,
      ⟨some 66, .load none (.t 65), some (64, true)⟩,
      ⟨some 67, .bin .leq (.t 66) (.c (.sc (.int .i64 1099511627776))), some (64, true)⟩,
      ⟨some 68, .pick (.t 64) (.t 67) (.c (.sc (.bool false))), some (60, false)⟩,
      ⟨some 69, .pick (.t 60) (.c (.sc (.bool true))) (.t 68), none⟩,
      ⟨some 2, .asg (.t 69), none⟩] [2])
    (.retB [2] [])))))) }
abbrev f_gatepostref02_single : Nat := 19
def ir_gatepostref02_single : IFunc :=
  { n := 28, rets := [(4, none)], gives := false,
    body :=
    (.seq (.reg [⟨some 2, .box (some 4) (.t 0), none⟩,
      ⟨some 3, .box (some 4) (.t 1), none⟩,
      ⟨some 4, .asg (.c (.sc (.int .i64 0))), none⟩] [2, 3])
    (.seq (.seq (.reg [⟨some 5, .faddr 0 (.t 2), none⟩,
      ⟨some 6, .load none (.t 5), none⟩,
      ⟨some 7, .faddr 0 (.t 3), none⟩,
      ⟨some 8, .load none (.t 7), none⟩,
      ⟨some 9, .bin .neq (.t 6) (.t 8), none⟩] [2, 3, 9])
    (.cond (.t 9)
      (.seq (.reg [⟨some 10, .faddr 0 (.t 2), none⟩,
        ⟨some 11, .load none (.t 10), none⟩,
        ⟨some 12, .faddr 0 (.t 3), none⟩,
        ⟨some 13, .load none (.t 12), none⟩,
        ⟨some 14, .call 32 [(.t 11), (.t 13)], none⟩,
        ⟨some 4, .asg (.t 14), none⟩] [4])
      (.retB [4] []))
      .skip))
    (.seq (.seq (.reg [⟨some 15, .faddr 0 (.t 2), none⟩,
      ⟨some 16, .load none (.t 15), none⟩,
      ⟨some 17, .bin .eql (.t 16) (.c (.sc (.int .i64 3))), none⟩] [2, 3, 17])
    (.cond (.t 17)
      (.seq (.reg [⟨some 18, .faddr 2 (.t 2), none⟩,
        ⟨some 19, .load none (.t 18), none⟩,
        ⟨some 20, .faddr 2 (.t 3), none⟩,
        ⟨some 21, .load none (.t 20), none⟩,
        ⟨some 22, .call 33 [(.t 19), (.t 21)], none⟩,
        ⟨some 4, .asg (.t 22), none⟩] [4])
      (.retB [4] []))
      .skip))
    (.seq (.reg [⟨some 23, .faddr 1 (.t 2), none⟩,
      ⟨some 24, .load none (.t 23), none⟩,
      ⟨some 25, .faddr 1 (.t 3), none⟩,
      ⟨some 26, .load none (.t 25), none⟩,
      ⟨some 27, .call 32 [(.t 24), (.t 26)], none⟩,
      ⟨some 4, .asg (.t 27), none⟩] [4])
    (.retB [4] []))))) }
abbrev f_value_plain : Nat := 20
def ir_value_plain : IFunc :=
  { n := 57, rets := [(2, none)], gives := false,
    body :=
    (.seq (.reg [⟨some 1, .box (some 4) (.t 0), none⟩,
      ⟨some 2, .asg (.c (.sc (.bool false))), none⟩] [1])
    (.seq (.seq (.reg [⟨some 3, .faddr 3 (.t 1), none⟩,
      ⟨some 4, .load none (.t 3), none⟩,
      ⟨some 5, .len (.t 4), none⟩,
      ⟨some 6, .bin .gtr (.t 5) (.c (.sc (.int .i64 0))), none⟩,
      ⟨some 7, .mv (.t 6), none⟩,
      ⟨some 8, .faddr 0 (.t 1), some (7, false)⟩,
      ⟨some 9, .load none (.t 8), some (7, false)⟩,
      ⟨some 10, .bin .neq (.t 9) (.c (.sc (.int .i64 3))), some (7, false)⟩,
      ⟨some 11, .mv (.t 10), some (7, false)⟩,
      ⟨some 12, .faddr 2 (.t 1), some (11, true)⟩,
      ⟨some 13, .load none (.t 12), some (11, true)⟩,
      ⟨some 14, .bin .neq (.t 13) (.c (.sc (.string ⟨#[]⟩))), some (11, true)⟩,
      ⟨some 15, .pick (.t 11) (.t 14) (.c (.sc (.bool false))), some (7, false)⟩,
      ⟨some 16, .pick (.t 7) (.c (.sc (.bool true))) (.t 15), none⟩] [1, 16])
    (.cond (.t 16)
      (.seq (.reg [⟨some 2, .asg (.c (.sc (.bool false))), none⟩] [2])
      (.retB [2] []))
      .skip))
    (.seq (.seq (.reg [⟨some 17, .faddr 0 (.t 1), none⟩,
      ⟨some 18, .load none (.t 17), none⟩] [1, 18])
    (.block 0
      (.seq (.reg [⟨some 20, .bin .eql (.t 18) (.c (.sc (.int .i64 0))), none⟩,
        ⟨some 19, .asg (.t 20), none⟩] [1, 18, 19])
      (.cond (.t 19)
        (.seq (.reg [⟨some 21, .faddr 1 (.t 1), none⟩,
          ⟨some 22, .load none (.t 21), none⟩,
          ⟨some 23, .bin .eql (.t 22) (.c (.sc (.int .i64 0))), none⟩,
          ⟨some 2, .asg (.t 23), none⟩] [2])
        (.retB [2] []))
        (.seq (.reg [⟨some 25, .bin .eql (.t 18) (.c (.sc (.int .i64 1))), none⟩,
          ⟨some 24, .asg (.t 25), none⟩] [1, 18, 24])
        (.cond (.t 24)
          (.seq (.reg [⟨some 26, .faddr 1 (.t 1), none⟩,
            ⟨some 27, .load none (.t 26), none⟩,
            ⟨some 28, .bin .eql (.t 27) (.c (.sc (.int .i64 0))), none⟩,
            ⟨some 29, .mv (.t 28), none⟩,
            ⟨some 30, .faddr 1 (.t 1), some (29, false)⟩,
            ⟨some 31, .load none (.t 30), some (29, false)⟩,
            ⟨some 32, .bin .eql (.t 31) (.c (.sc (.int .i64 1))), some (29, false)⟩,
            ⟨some 33, .pick (.t 29) (.c (.sc (.bool true))) (.t 32), none⟩,
            ⟨some 2, .asg (.t 33), none⟩] [2])
          (.retB [2] []))
          (.seq (.reg [⟨some 35, .bin .eql (.t 18) (.c (.sc (.int .i64 2))), none⟩,
            ⟨some 34, .asg (.t 35), none⟩] [1, 18, 34])
          (.cond (.t 34)
            (.seq (.reg [⟨some 2, .asg (.c (.sc (.bool true))), none⟩] [2])
            (.retB [2] []))
            (.seq (.reg [⟨some 37, .bin .eql (.t 18) (.c (.sc (.int .i64 3))), none⟩,
              ⟨some 36, .asg (.t 37), none⟩] [1, 18, 36])
            (.cond (.t 36)
              (.seq (.reg [⟨some 38, .faddr 1 (.t 1), none⟩,
                ⟨some 39, .load none (.t 38), none⟩,
                ⟨some 40, .bin .eql (.t 39) (.c (.sc (.int .i64 0))), none⟩,
                ⟨some 41, .mv (.t 40), none⟩,
                ⟨some 42, .faddr 2 (.t 1), some (41, true)⟩,
                ⟨some 43, .load none (.t 42), some (41, true)⟩,
                ⟨some 44, .slen (.t 43), some (41, true)⟩,
                ⟨some 45, .bin .leq (.t 44) (.c (.sc (.int .i64 64))), some (41, true)⟩,
                ⟨some 46, .pick (.t 41) (.t 45) (.c (.sc (.bool false))), none⟩,
                ⟨some 2, .asg (.t 46), none⟩] [2])
              (.retB [2] []))
              (.seq (.reg [⟨some 48, .bin .eql (.t 18) (.c (.sc (.int .i64 4))), none⟩,
                ⟨some 47, .asg (.t 48), none⟩] [1, 47])
              (.cond (.t 47)
                (.seq (.reg [⟨some 49, .faddr 1 (.t 1), none⟩,
                  ⟨some 50, .load none (.t 49), none⟩,
                  ⟨some 51, .bin .geq (.t 50) (.c (.sc (.int .i64 0))), none⟩,
                  ⟨some 52, .mv (.t 51), none⟩,
                  ⟨some 53, .faddr 1 (.t 1), some (52, true)⟩,
                  ⟨some 54, .load none (.t 53), some (52, true)⟩,
                  ⟨some 55, .bin .leq (.t 54) (.c (.sc (.int .i64 1099511627776))), some (52, true)⟩,
                  ⟨some 56, .pick (.t 52) (.t 55) (.c (.sc (.bool false))), none⟩,
                  ⟨some 2, .asg (.t 56), none⟩] [2])
                (.retB [2] []))
                .skip))))))))))))
    (.seq (.reg [⟨some 2, .asg (.c (.sc (.bool false))), none⟩] [2])
    (.retB [2] []))))) }
abbrev f_value_kinds : Nat := 21
def ir_value_kinds : IFunc :=
  { n := 10, rets := [(4, some (some 2))], gives := false,
    body :=
    (.seq (.reg [⟨some 2, .box (some 4) (.t 0), none⟩,
      ⟨some 3, .box (some 4) (.t 1), none⟩,
      ⟨some 4, .zalloc [.sc (.int .i64 0), .sc (.int .i64 0)], none⟩] [2, 3, 4])
    (.seq (.reg [⟨some 5, .faddr 0 (.t 2), none⟩,
      ⟨some 6, .load none (.t 5), none⟩,
      ⟨some 7, .faddr 0 (.t 3), none⟩,
      ⟨some 8, .load none (.t 7), none⟩,
      ⟨some 9, .build [.sc (.int .i64 0), .sc (.int .i64 0)] [(0, none, (.t 6)), (1, none, (.t 8))], none⟩,
      ⟨none, .store (some 2) (.t 4) (.t 9), none⟩] [4])
    (.retB [4] [4]))) }
abbrev f_value_number : Nat := 22
def ir_value_number : IFunc :=
  { n := 11, rets := [(4, some (some 4)), (5, none)], gives := false,
    body :=
    (.seq (.reg [⟨some 4, .zalloc [.sc (.int .i64 0), .sc (.int .i64 0), .sc (.string ⟨#[]⟩), .sl .nil 4 []], none⟩,
      ⟨some 5, .asg (.c (.sc (.int .i64 0))), none⟩] [0, 1, 4])
    (.seq (.seq (.reg [⟨some 6, .mv (.t 1), none⟩,
      ⟨some 7, .un .not (.t 6), none⟩] [0, 4, 7])
    (.cond (.t 7)
      (.seq (.reg [⟨some 8, .build [.sc (.int .i64 0), .sc (.int .i64 0), .sc (.string ⟨#[]⟩), .sl .nil 4 []] [], none⟩,
        ⟨none, .store (some 4) (.t 4) (.t 8), none⟩,
        ⟨some 5, .asg (.c (.sc (.int .i64 7))), none⟩] [4, 5])
      (.retB [4, 5] [4]))
      .skip))
    (.seq (.reg [⟨some 9, .mv (.t 0), none⟩,
      ⟨some 10, .call 12 [(.t 9)], none⟩,
      ⟨none, .store (some 4) (.t 4) (.t 10), none⟩,
      ⟨some 5, .asg (.c (.sc (.int .i64 0))), none⟩] [4, 5])
    (.retB [4, 5] [4])))) }
abbrev f_value_sum : Nat := 23
def ir_value_sum : IFunc :=
  { n := 23, rets := [(4, none), (5, none)], gives := false,
    body :=
    (.seq (.reg [⟨some 4, .asg (.c (.sc (.int .i64 0))), none⟩,
      ⟨some 5, .asg (.c (.sc (.bool false))), none⟩] [0, 1])
    (.seq (.reg [⟨some 7, .mv (.t 0), none⟩,
      ⟨some 8, .mv (.t 1), none⟩,
      ⟨some 9, .bin .add (.t 7) (.t 8), none⟩,
      ⟨some 6, .asg (.t 9), none⟩] [0, 1, 6])
    (.seq (.reg [⟨some 10, .mv (.t 6), none⟩,
      ⟨some 11, .mv (.t 0), none⟩,
      ⟨some 12, .bin .lss (.t 11) (.c (.sc (.int .i64 0))), none⟩,
      ⟨some 13, .mv (.t 1), none⟩,
      ⟨some 14, .bin .lss (.t 13) (.c (.sc (.int .i64 0))), none⟩,
      ⟨some 15, .beq true (.t 12) (.t 14), none⟩,
      ⟨some 16, .mv (.t 15), none⟩,
      ⟨some 17, .mv (.t 6), some (16, false)⟩,
      ⟨some 18, .bin .lss (.t 17) (.c (.sc (.int .i64 0))), some (16, false)⟩,
      ⟨some 19, .mv (.t 0), some (16, false)⟩,
      ⟨some 20, .bin .lss (.t 19) (.c (.sc (.int .i64 0))), some (16, false)⟩,
      ⟨some 21, .beq false (.t 18) (.t 20), some (16, false)⟩,
      ⟨some 22, .pick (.t 16) (.c (.sc (.bool true))) (.t 21), none⟩,
      ⟨some 4, .asg (.t 10), none⟩,
      ⟨some 5, .asg (.t 22), none⟩] [4, 5])
    (.retB [4, 5] [])))) }
abbrev f_value_time : Nat := 24
def ir_value_time : IFunc :=
  { n := 19, rets := [(4, some (some 4)), (5, none)], gives := false,
    body :=
    (.seq (.reg [⟨some 4, .zalloc [.sc (.int .i64 0), .sc (.int .i64 0), .sc (.string ⟨#[]⟩), .sl .nil 4 []], none⟩,
      ⟨some 5, .asg (.c (.sc (.int .i64 0))), none⟩] [0, 1, 4])
    (.seq (.seq (.reg [⟨some 6, .mv (.t 1), none⟩,
      ⟨some 7, .un .not (.t 6), none⟩,
      ⟨some 8, .mv (.t 7), none⟩,
      ⟨some 9, .mv (.t 0), some (8, false)⟩,
      ⟨some 10, .bin .lss (.t 9) (.c (.sc (.int .i64 0))), some (8, false)⟩,
      ⟨some 11, .pick (.t 8) (.c (.sc (.bool true))) (.t 10), none⟩,
      ⟨some 12, .mv (.t 11), none⟩,
      ⟨some 13, .mv (.t 0), some (12, false)⟩,
      ⟨some 14, .bin .gtr (.t 13) (.c (.sc (.int .i64 1099511627776))), some (12, false)⟩,
      ⟨some 15, .pick (.t 12) (.c (.sc (.bool true))) (.t 14), none⟩] [0, 4, 15])
    (.cond (.t 15)
      (.seq (.reg [⟨some 16, .build [.sc (.int .i64 0), .sc (.int .i64 0), .sc (.string ⟨#[]⟩), .sl .nil 4 []] [], none⟩,
        ⟨none, .store (some 4) (.t 4) (.t 16), none⟩,
        ⟨some 5, .asg (.c (.sc (.int .i64 7))), none⟩] [4, 5])
      (.retB [4, 5] [4]))
      .skip))
    (.seq (.reg [⟨some 17, .mv (.t 0), none⟩,
      ⟨some 18, .build [.sc (.int .i64 0), .sc (.int .i64 0), .sc (.string ⟨#[]⟩), .sl .nil 4 []] [(0, none, (.c (.sc (.int .i64 4)))), (1, none, (.t 17))], none⟩,
      ⟨none, .store (some 4) (.t 4) (.t 18), none⟩,
      ⟨some 5, .asg (.c (.sc (.int .i64 0))), none⟩] [4, 5])
    (.retB [4, 5] [4])))) }
abbrev f_cmp_Or_int : Nat := 27
def lb_cmp_Or_int_0 : ICode :=
    (.seq (.reg [⟨some 9, .bin .lss (.t 8) (.t 7), none⟩] [3, 6, 7, 8, 9])
    (.seq (.cond (.t 9)
      .skip
      (.exitB [3] [] 0))
    (.seq (.block 1
      (.seq (.reg [⟨some 10, .iaddr 1 (.t 6) (.t 8), none⟩,
        ⟨some 11, .load none (.t 10), none⟩,
        ⟨some 5, .asg (.t 11), none⟩] [3, 5, 6, 7, 8])
      (.seq (.reg [⟨some 12, .mv (.t 5), none⟩,
        ⟨some 13, .mv (.t 3), none⟩,
        ⟨some 14, .bin .neq (.t 12) (.t 13), none⟩] [3, 5, 6, 7, 8, 14])
      (.cond (.t 14)
        (.seq (.reg [⟨some 15, .mv (.t 5), none⟩,
          ⟨some 2, .asg (.t 15), none⟩] [2])
        (.retB [2] []))
        .skip))))
    (.reg [⟨some 16, .bin .add (.t 8) (.c (.sc (.int .i64 1))), none⟩,
      ⟨some 8, .mv (.t 16), none⟩] [3, 6, 7, 8]))))
def lp_cmp_Or_int_0 : ICode := .loop [3, 6, 7, 8] [] lb_cmp_Or_int_0
theorem lu_cmp_Or_int_0 {Ω : Type} (T : Nat → Option (Ent Ω)) (st : FS Ω) : denL T lp_cmp_Or_int_0 st = (reset [3, 6, 7, 8] [] st).bind fun s => andThen (denL T lb_cmp_Or_int_0 s) (denL T lp_cmp_Or_int_0) := denL_loop T _ _ _ st
def ir_cmp_Or_int : IFunc :=
  { n := 18, rets := [(2, none)], gives := false,
    body :=
    (.seq (.reg [⟨some 2, .asg (.c (.sc (.int .i64 0))), none⟩] [0])
    (.seq (.reg [⟨some 3, .asg (.c (.sc (.int .i64 0))), none⟩] [0, 3])
    (.seq (.seq (.reg [⟨some 6, .mv (.t 0), none⟩,
      ⟨some 7, .len (.t 6), none⟩,
      ⟨some 8, .mv (.c (.sc (.int .i64 0))), none⟩] [3, 6, 7, 8])
    (.block 0
      lp_cmp_Or_int_0))
    (.seq (.reg [⟨some 17, .mv (.t 3), none⟩,
      ⟨some 2, .asg (.t 17), none⟩] [2])
    (.retB [2] []))))) }
abbrev f_cmp_Compare_int : Nat := 28
def ir_cmp_Compare_int : IFunc :=
  { n := 20, rets := [(4, none)], gives := false,
    body :=
    (.seq (.reg [⟨some 4, .asg (.c (.sc (.int .i64 0))), none⟩] [0, 1])
    (.seq (.reg [⟨some 7, .mv (.t 0), none⟩,
      ⟨some 8, .call 44 [(.t 7)], none⟩,
      ⟨some 5, .asg (.t 8), none⟩] [0, 1, 5])
    (.seq (.reg [⟨some 9, .mv (.t 1), none⟩,
      ⟨some 10, .call 44 [(.t 9)], none⟩,
      ⟨some 6, .asg (.t 10), none⟩] [0, 1, 5, 6])
    (.seq (.seq (.reg [⟨some 11, .mv (.t 5), none⟩] [0, 1, 6, 11])
    (.cond (.t 11)
      (.seq (.seq (.reg [⟨some 12, .mv (.t 6), none⟩] [12])
      (.cond (.t 12)
        (.seq (.reg [⟨some 4, .asg (.c (.sc (.int .i64 0))), none⟩] [4])
        (.retB [4] []))
        .skip))
      (.seq (.reg [⟨some 4, .asg (.c (.sc (.int .i64 (-1)))), none⟩] [4])
      (.retB [4] [])))
      .skip))
    (.seq (.seq (.reg [⟨some 13, .mv (.t 6), none⟩] [0, 1, 13])
    (.cond (.t 13)
      (.seq (.reg [⟨some 4, .asg (.c (.sc (.int .i64 1))), none⟩] [4])
      (.retB [4] []))
      .skip))
    (.seq (.seq (.reg [⟨some 14, .mv (.t 0), none⟩,
      ⟨some 15, .mv (.t 1), none⟩,
      ⟨some 16, .bin .lss (.t 14) (.t 15), none⟩] [0, 1, 16])
    (.cond (.t 16)
      (.seq (.reg [⟨some 4, .asg (.c (.sc (.int .i64 (-1)))), none⟩] [4])
      (.retB [4] []))
      .skip))
    (.seq (.seq (.reg [⟨some 17, .mv (.t 0), none⟩,
      ⟨some 18, .mv (.t 1), none⟩,
      ⟨some 19, .bin .gtr (.t 17) (.t 18), none⟩] [19])
    (.cond (.t 19)
      (.seq (.reg [⟨some 4, .asg (.c (.sc (.int .i64 1))), none⟩] [4])
      (.retB [4] []))
      .skip))
    (.seq (.reg [⟨some 4, .asg (.c (.sc (.int .i64 0))), none⟩] [4])
    (.retB [4] []))))))))) }
abbrev f_cmp_Compare_int64 : Nat := 29
def ir_cmp_Compare_int64 : IFunc :=
  { n := 20, rets := [(4, none)], gives := false,
    body :=
    (.seq (.reg [⟨some 4, .asg (.c (.sc (.int .i64 0))), none⟩] [0, 1])
    (.seq (.reg [⟨some 7, .mv (.t 0), none⟩,
      ⟨some 8, .call 45 [(.t 7)], none⟩,
      ⟨some 5, .asg (.t 8), none⟩] [0, 1, 5])
    (.seq (.reg [⟨some 9, .mv (.t 1), none⟩,
      ⟨some 10, .call 45 [(.t 9)], none⟩,
      ⟨some 6, .asg (.t 10), none⟩] [0, 1, 5, 6])
    (.seq (.seq (.reg [⟨some 11, .mv (.t 5), none⟩] [0, 1, 6, 11])
    (.cond (.t 11)
      (.seq (.seq (.reg [⟨some 12, .mv (.t 6), none⟩] [12])
      (.cond (.t 12)
        (.seq (.reg [⟨some 4, .asg (.c (.sc (.int .i64 0))), none⟩] [4])
        (.retB [4] []))
        .skip))
      (.seq (.reg [⟨some 4, .asg (.c (.sc (.int .i64 (-1)))), none⟩] [4])
      (.retB [4] [])))
      .skip))
    (.seq (.seq (.reg [⟨some 13, .mv (.t 6), none⟩] [0, 1, 13])
    (.cond (.t 13)
      (.seq (.reg [⟨some 4, .asg (.c (.sc (.int .i64 1))), none⟩] [4])
      (.retB [4] []))
      .skip))
    (.seq (.seq (.reg [⟨some 14, .mv (.t 0), none⟩,
      ⟨some 15, .mv (.t 1), none⟩,
      ⟨some 16, .bin .lss (.t 14) (.t 15), none⟩] [0, 1, 16])
    (.cond (.t 16)
      (.seq (.reg [⟨some 4, .asg (.c (.sc (.int .i64 (-1)))), none⟩] [4])
      (.retB [4] []))
      .skip))
    (.seq (.seq (.reg [⟨some 17, .mv (.t 0), none⟩,
      ⟨some 18, .mv (.t 1), none⟩,
      ⟨some 19, .bin .gtr (.t 17) (.t 18), none⟩] [19])
    (.cond (.t 19)
      (.seq (.reg [⟨some 4, .asg (.c (.sc (.int .i64 1))), none⟩] [4])
      (.retB [4] []))
      .skip))
    (.seq (.reg [⟨some 4, .asg (.c (.sc (.int .i64 0))), none⟩] [4])
    (.retB [4] []))))))))) }
abbrev f_strings_Compare : Nat := 30
def ir_strings_Compare : IFunc :=
  { n := 8, rets := [(4, none)], gives := false,
    body :=
    (.seq (.reg [⟨some 4, .asg (.c (.sc (.int .i64 0))), none⟩] [0, 1])
    (.seq (.reg [⟨some 5, .mv (.t 0), none⟩,
      ⟨some 6, .mv (.t 1), none⟩,
      ⟨some 7, .call 46 [(.t 5), (.t 6)], none⟩,
      ⟨some 4, .asg (.t 7), none⟩] [4])
    (.retB [4] []))) }
abbrev f_slices_CompareFunc_api_Value : Nat := 31
def lb_slices_CompareFunc_api_Value_0 : ICode :=
    (.seq (.reg [⟨some 14, .bin .lss (.t 13) (.t 12), none⟩] [0, 1, 2, 11, 12, 13, 14])
    (.seq (.cond (.t 14)
      .skip
      (.exitB [0, 1] [] 0))
    (.seq (.block 1
      (.seq (.reg [⟨some 15, .mv (.t 13), none⟩,
        ⟨some 16, .iaddr 4 (.t 11) (.t 13), none⟩,
        ⟨some 17, .load (some 4) (.t 16), none⟩,
        ⟨some 8, .zalloc [.sc (.int .i64 0), .sc (.int .i64 0), .sc (.string ⟨#[]⟩), .sl .nil 4 []], none⟩,
        ⟨some 7, .asg (.t 15), none⟩,
        ⟨none, .store (some 4) (.t 8) (.t 17), none⟩] [0, 1, 2, 7, 8, 11, 12, 13])
      (.seq (.seq (.reg [⟨some 18, .mv (.t 7), none⟩,
        ⟨some 19, .mv (.t 1), none⟩,
        ⟨some 20, .len (.t 19), none⟩,
        ⟨some 21, .bin .geq (.t 18) (.t 20), none⟩] [0, 1, 2, 7, 8, 11, 12, 13, 21])
      (.cond (.t 21)
        (.seq (.reg [⟨some 6, .asg (.c (.sc (.int .i64 1))), none⟩] [6])
        (.retB [6] []))
        .skip))
      (.seq (.reg [⟨some 22, .mv (.t 1), none⟩,
        ⟨some 23, .mv (.t 7), none⟩,
        ⟨some 24, .iaddr 4 (.t 22) (.t 23), none⟩,
        ⟨some 25, .load (some 4) (.t 24), none⟩,
        ⟨some 9, .zalloc [.sc (.int .i64 0), .sc (.int .i64 0), .sc (.string ⟨#[]⟩), .sl .nil 4 []], none⟩,
        ⟨none, .store (some 4) (.t 9) (.t 25), none⟩] [0, 1, 2, 8, 9, 11, 12, 13])
      (.seq (.reg [⟨some 26, .mv (.t 2), none⟩,
        ⟨some 27, .load (some 4) (.t 8), none⟩,
        ⟨some 28, .load (some 4) (.t 9), none⟩,
        ⟨some 29, .callvx (.t 26) [(.t 27), (.t 28)], none⟩,
        ⟨some 10, .asg (.t 29), none⟩] [0, 1, 2, 10, 11, 12, 13])
      (.seq (.reg [⟨some 30, .mv (.t 10), none⟩,
        ⟨some 31, .bin .neq (.t 30) (.c (.sc (.int .i64 0))), none⟩] [0, 1, 2, 10, 11, 12, 13, 31])
      (.cond (.t 31)
        (.seq (.reg [⟨some 32, .mv (.t 10), none⟩,
          ⟨some 6, .asg (.t 32), none⟩] [6])
        (.retB [6] []))
        .skip)))))))
    (.reg [⟨some 33, .bin .add (.t 13) (.c (.sc (.int .i64 1))), none⟩,
      ⟨some 13, .mv (.t 33), none⟩] [0, 1, 2, 11, 12, 13]))))
def lp_slices_CompareFunc_api_Value_0 : ICode := .loop [0, 1, 2, 11, 12, 13] [] lb_slices_CompareFunc_api_Value_0
theorem lu_slices_CompareFunc_api_Value_0 {Ω : Type} (T : Nat → Option (Ent Ω)) (st : FS Ω) : denL T lp_slices_CompareFunc_api_Value_0 st = (reset [0, 1, 2, 11, 12, 13] [] st).bind fun s => andThen (denL T lb_slices_CompareFunc_api_Value_0 s) (denL T lp_slices_CompareFunc_api_Value_0) := denL_loop T _ _ _ st
def ir_slices_CompareFunc_api_Value : IFunc :=
  { n := 39, rets := [(6, none)], gives := false,
    body :=
    (.seq (.reg [⟨some 6, .asg (.c (.sc (.int .i64 0))), none⟩] [0, 1, 2])
    (.seq (.seq (.reg [⟨some 11, .mv (.t 0), none⟩,
      ⟨some 12, .len (.t 11), none⟩,
      ⟨some 13, .mv (.c (.sc (.int .i64 0))), none⟩] [0, 1, 2, 11, 12, 13])
    (.block 0
      lp_slices_CompareFunc_api_Value_0))
    (.seq (.seq (.reg [⟨some 34, .mv (.t 0), none⟩,
      ⟨some 35, .len (.t 34), none⟩,
      ⟨some 36, .mv (.t 1), none⟩,
      ⟨some 37, .len (.t 36), none⟩,
      ⟨some 38, .bin .lss (.t 35) (.t 37), none⟩] [38])
    (.cond (.t 38)
      (.seq (.reg [⟨some 6, .asg (.c (.sc (.int .i64 (-1)))), none⟩] [6])
      (.retB [6] []))
      .skip))
    (.seq (.reg [⟨some 6, .asg (.c (.sc (.int .i64 0))), none⟩] [6])
    (.retB [6] []))))) }
abbrev f_gatepostref02_numbers : Nat := 32
def ir_gatepostref02_numbers : IFunc :=
  { n := 11, rets := [(4, none)], gives := false,
    body :=
    (.seq (.reg [⟨some 4, .asg (.c (.sc (.int .i64 0))), none⟩] [0, 1])
    (.seq (.seq (.reg [⟨some 5, .mv (.t 0), none⟩,
      ⟨some 6, .mv (.t 1), none⟩,
      ⟨some 7, .bin .lss (.t 5) (.t 6), none⟩] [0, 1, 7])
    (.cond (.t 7)
      (.seq (.reg [⟨some 4, .asg (.c (.sc (.int .i64 (-1)))), none⟩] [4])
      (.retB [4] []))
      .skip))
    (.seq (.seq (.reg [⟨some 8, .mv (.t 0), none⟩,
      ⟨some 9, .mv (.t 1), none⟩,
      ⟨some 10, .bin .gtr (.t 8) (.t 9), none⟩] [10])
    (.cond (.t 10)
      (.seq (.reg [⟨some 4, .asg (.c (.sc (.int .i64 1))), none⟩] [4])
      (.retB [4] []))
      .skip))
    (.seq (.reg [⟨some 4, .asg (.c (.sc (.int .i64 0))), none⟩] [4])
    (.retB [4] []))))) }
abbrev f_gatepostref02_Texts : Nat := 33
def lb_gatepostref02_Texts_0 : ICode :=
    (.seq (.seq (.reg [⟨some 6, .mv (.t 5), none⟩,
      ⟨some 7, .mv (.t 0), none⟩,
      ⟨some 8, .slen (.t 7), none⟩,
      ⟨some 9, .bin .lss (.t 6) (.t 8), none⟩,
      ⟨some 10, .mv (.t 9), none⟩,
      ⟨some 11, .mv (.t 5), some (10, true)⟩,
      ⟨some 12, .mv (.t 1), some (10, true)⟩,
      ⟨some 13, .slen (.t 12), some (10, true)⟩,
      ⟨some 14, .bin .lss (.t 11) (.t 13), some (10, true)⟩,
      ⟨some 15, .pick (.t 10) (.t 14) (.c (.sc (.bool false))), none⟩] [0, 1, 5, 15])
    (.cond (.t 15)
      .skip
      (.exitB [0, 1] [] 0)))
    (.seq (.block 1
      (.seq (.seq (.reg [⟨some 18, .mv (.t 0), none⟩,
        ⟨some 19, .mv (.t 5), none⟩,
        ⟨some 20, .istr (.t 18) (.t 19), none⟩,
        ⟨some 21, .mv (.t 1), none⟩,
        ⟨some 22, .mv (.t 5), none⟩,
        ⟨some 23, .istr (.t 21) (.t 22), none⟩,
        ⟨some 24, .bin .lss (.t 20) (.t 23), none⟩] [0, 1, 5, 24])
      (.cond (.t 24)
        (.seq (.reg [⟨some 4, .asg (.c (.sc (.int .i64 (-1)))), none⟩] [4])
        (.retB [4] []))
        .skip))
      (.seq (.reg [⟨some 25, .mv (.t 0), none⟩,
        ⟨some 26, .mv (.t 5), none⟩,
        ⟨some 27, .istr (.t 25) (.t 26), none⟩,
        ⟨some 28, .mv (.t 1), none⟩,
        ⟨some 29, .mv (.t 5), none⟩,
        ⟨some 30, .istr (.t 28) (.t 29), none⟩,
        ⟨some 31, .bin .gtr (.t 27) (.t 30), none⟩] [0, 1, 5, 31])
      (.cond (.t 31)
        (.seq (.reg [⟨some 4, .asg (.c (.sc (.int .i64 1))), none⟩] [4])
        (.retB [4] []))
        .skip))))
    (.reg [⟨some 16, .mv (.t 5), none⟩,
      ⟨some 17, .bin .add (.t 16) (.c (.sc (.int .i64 1))), none⟩,
      ⟨some 5, .asg (.t 17), none⟩] [0, 1, 5])))
def lp_gatepostref02_Texts_0 : ICode := .loop [0, 1, 5] [] lb_gatepostref02_Texts_0
theorem lu_gatepostref02_Texts_0 {Ω : Type} (T : Nat → Option (Ent Ω)) (st : FS Ω) : denL T lp_gatepostref02_Texts_0 st = (reset [0, 1, 5] [] st).bind fun s => andThen (denL T lb_gatepostref02_Texts_0 s) (denL T lp_gatepostref02_Texts_0) := denL_loop T _ _ _ st
def ir_gatepostref02_Texts : IFunc :=
  { n := 42, rets := [(4, none)], gives := false,
    body :=
    (.seq (.reg [⟨some 4, .asg (.c (.sc (.int .i64 0))), none⟩] [0, 1])
    (.seq (.seq (.reg [⟨some 5, .asg (.c (.sc (.int .i64 0))), none⟩] [0, 1, 5])
    (.block 0
      lp_gatepostref02_Texts_0))
    (.seq (.seq (.reg [⟨some 32, .mv (.t 0), none⟩,
      ⟨some 33, .slen (.t 32), none⟩,
      ⟨some 34, .mv (.t 1), none⟩,
      ⟨some 35, .slen (.t 34), none⟩,
      ⟨some 36, .bin .lss (.t 33) (.t 35), none⟩] [0, 1, 36])
    (.cond (.t 36)
      (.seq (.reg [⟨some 4, .asg (.c (.sc (.int .i64 (-1)))), none⟩] [4])
      (.retB [4] []))
      .skip))
    (.seq (.seq (.reg [⟨some 37, .mv (.t 0), none⟩,
      ⟨some 38, .slen (.t 37), none⟩,
      ⟨some 39, .mv (.t 1), none⟩,
      ⟨some 40, .slen (.t 39), none⟩,
      ⟨some 41, .bin .gtr (.t 38) (.t 40), none⟩] [41])
    (.cond (.t 41)
      (.seq (.reg [⟨some 4, .asg (.c (.sc (.int .i64 1))), none⟩] [4])
      (.retB [4] []))
      .skip))
    (.seq (.reg [⟨some 4, .asg (.c (.sc (.int .i64 0))), none⟩] [4])
    (.retB [4] [])))))) }
abbrev f_cmp_isNaN_int : Nat := 44
def ir_cmp_isNaN_int : IFunc :=
  { n := 6, rets := [(2, none)], gives := false,
    body :=
    (.seq (.reg [⟨some 2, .asg (.c (.sc (.bool false))), none⟩] [0])
    (.seq (.reg [⟨some 3, .mv (.t 0), none⟩,
      ⟨some 4, .mv (.t 0), none⟩,
      ⟨some 5, .bin .neq (.t 3) (.t 4), none⟩,
      ⟨some 2, .asg (.t 5), none⟩] [2])
    (.retB [2] []))) }
abbrev f_cmp_isNaN_int64 : Nat := 45
def ir_cmp_isNaN_int64 : IFunc :=
  { n := 6, rets := [(2, none)], gives := false,
    body :=
    (.seq (.reg [⟨some 2, .asg (.c (.sc (.bool false))), none⟩] [0])
    (.seq (.reg [⟨some 3, .mv (.t 0), none⟩,
      ⟨some 4, .mv (.t 0), none⟩,
      ⟨some 5, .bin .neq (.t 3) (.t 4), none⟩,
      ⟨some 2, .asg (.t 5), none⟩] [2])
    (.retB [2] []))) }
abbrev f_bytealg_CompareString : Nat := 46
def ir_bytealg_CompareString : IFunc :=
  { n := 8, rets := [(4, none)], gives := false,
    body :=
    (.seq (.reg [⟨some 4, .asg (.c (.sc (.int .i64 0))), none⟩] [0, 1])
    (.seq (.reg [⟨some 5, .mv (.t 0), none⟩,
      ⟨some 6, .mv (.t 1), none⟩,
      ⟨some 7, .call 52 [(.t 5), (.t 6)], none⟩,
      ⟨some 4, .asg (.t 7), none⟩] [4])
    (.retB [4] []))) }
theorem chk_gatepostlaw02_ValueBags : FnChk Go.Proofs.Try.prog noRO f_gatepostlaw02_ValueBags ir_gatepostlaw02_ValueBags := .of Go.Proofs.Try.func3 (by kernel_rfl)
theorem chk_gatepostlaw02_awake : FnChk Go.Proofs.Try.prog noRO f_gatepostlaw02_awake ir_gatepostlaw02_awake := .of Go.Proofs.Try.func4 (by kernel_rfl)
theorem chk_gatepostref02_Few : FnChk Go.Proofs.Try.prog noRO f_gatepostref02_Few ir_gatepostref02_Few := .of Go.Proofs.Try.func5 (by kernel_rfl)
theorem chk_value_Bag : FnChk Go.Proofs.Try.prog noRO f_value_Bag ir_value_Bag := .of Go.Proofs.Try.func6 (by kernel_rfl)
theorem chk_gatepostref02_Same : FnChk Go.Proofs.Try.prog noRO f_gatepostref02_Same ir_gatepostref02_Same := .of Go.Proofs.Try.func7 (by kernel_rfl)
theorem chk_gatepostref02_Formed : FnChk Go.Proofs.Try.prog noRO f_gatepostref02_Formed ir_gatepostref02_Formed := .of Go.Proofs.Try.func8 (by kernel_rfl)
theorem chk_gatepostref02_Bag : FnChk Go.Proofs.Try.prog noRO f_gatepostref02_Bag ir_gatepostref02_Bag := .of Go.Proofs.Try.func9 (by kernel_rfl)
theorem chk_value_Formed : FnChk Go.Proofs.Try.prog noRO f_value_Formed ir_value_Formed := .of Go.Proofs.Try.func10 (by kernel_rfl)
theorem chk_value_Add : FnChk Go.Proofs.Try.prog noRO f_value_Add ir_value_Add := .of Go.Proofs.Try.func11 (by kernel_rfl)
theorem chk_value_Number : FnChk Go.Proofs.Try.prog noRO f_value_Number ir_value_Number := .of Go.Proofs.Try.func12 (by kernel_rfl)
theorem chk_slices_Clone_api_Value : FnChk Go.Proofs.Try.prog noRO f_slices_Clone_api_Value ir_slices_Clone_api_Value := .of Go.Proofs.Try.func13 (by kernel_rfl)
theorem chk_value_Order : FnChk Go.Proofs.Try.prog noRO f_value_Order ir_value_Order := .of Go.Proofs.Try.func15 (by kernel_rfl)
theorem chk_value_Bag_c1 : FnChk Go.Proofs.Try.prog noRO f_value_Bag_c1 ir_value_Bag_c1 := .of Go.Proofs.Try.func17 (by kernel_rfl)
theorem chk_gatepostref02_one : FnChk Go.Proofs.Try.prog noRO f_gatepostref02_one ir_gatepostref02_one := .of Go.Proofs.Try.func18 (by kernel_rfl)
theorem chk_gatepostref02_single : FnChk Go.Proofs.Try.prog noRO f_gatepostref02_single ir_gatepostref02_single := .of Go.Proofs.Try.func19 (by kernel_rfl)
theorem chk_value_plain : FnChk Go.Proofs.Try.prog noRO f_value_plain ir_value_plain := .of Go.Proofs.Try.func20 (by kernel_rfl)
theorem chk_value_kinds : FnChk Go.Proofs.Try.prog noRO f_value_kinds ir_value_kinds := .of Go.Proofs.Try.func21 (by kernel_rfl)
theorem chk_value_number : FnChk Go.Proofs.Try.prog noRO f_value_number ir_value_number := .of Go.Proofs.Try.func22 (by kernel_rfl)
theorem chk_value_sum : FnChk Go.Proofs.Try.prog noRO f_value_sum ir_value_sum := .of Go.Proofs.Try.func23 (by kernel_rfl)
theorem chk_value_time : FnChk Go.Proofs.Try.prog noRO f_value_time ir_value_time := .of Go.Proofs.Try.func24 (by kernel_rfl)
theorem chk_cmp_Or_int : FnChk Go.Proofs.Try.prog noRO f_cmp_Or_int ir_cmp_Or_int := .of Go.Proofs.Try.func27 (by kernel_rfl)
theorem chk_cmp_Compare_int : FnChk Go.Proofs.Try.prog noRO f_cmp_Compare_int ir_cmp_Compare_int := .of Go.Proofs.Try.func28 (by kernel_rfl)
theorem chk_cmp_Compare_int64 : FnChk Go.Proofs.Try.prog noRO f_cmp_Compare_int64 ir_cmp_Compare_int64 := .of Go.Proofs.Try.func29 (by kernel_rfl)
theorem chk_strings_Compare : FnChk Go.Proofs.Try.prog noRO f_strings_Compare ir_strings_Compare := .of Go.Proofs.Try.func30 (by kernel_rfl)
theorem chk_slices_CompareFunc_api_Value : FnChk Go.Proofs.Try.prog noRO f_slices_CompareFunc_api_Value ir_slices_CompareFunc_api_Value := .of Go.Proofs.Try.func31 (by kernel_rfl)
theorem chk_gatepostref02_numbers : FnChk Go.Proofs.Try.prog noRO f_gatepostref02_numbers ir_gatepostref02_numbers := .of Go.Proofs.Try.func32 (by kernel_rfl)
theorem chk_gatepostref02_Texts : FnChk Go.Proofs.Try.prog noRO f_gatepostref02_Texts ir_gatepostref02_Texts := .of Go.Proofs.Try.func33 (by kernel_rfl)
theorem chk_cmp_isNaN_int : FnChk Go.Proofs.Try.prog noRO f_cmp_isNaN_int ir_cmp_isNaN_int := .of Go.Proofs.Try.func44 (by kernel_rfl)
theorem chk_cmp_isNaN_int64 : FnChk Go.Proofs.Try.prog noRO f_cmp_isNaN_int64 ir_cmp_isNaN_int64 := .of Go.Proofs.Try.func45 (by kernel_rfl)
theorem chk_bytealg_CompareString : FnChk Go.Proofs.Try.prog noRO f_bytealg_CompareString ir_bytealg_CompareString := .of Go.Proofs.Try.func46 (by kernel_rfl)
end Go.Fw.Ir
end
