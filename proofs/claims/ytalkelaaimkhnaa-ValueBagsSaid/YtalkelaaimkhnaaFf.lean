/- Part 6 of 11 of what the statement leans on. Proved: gatepostlaw02.ValueBags returns true for every input, and the input reads behind the call as it read before; condition: none but the row's own cells. -/
import Derived.Test.YtalkelaaimkhnaaFe
import Derived.Laws.Rows
import Derived.Laws.CopyRow
set_option linter.all false
section
/- What one operation does, VI: the other pure operations; all of them. -/
namespace Go.Fw
variable {Ω : Type} {O : OpqSem Ω} {N : Nat} {P : Program}

/-- A bound: none, and its default; or a number that lies in its range. -/
def BoundIs (x : Option Value) (d top r : Nat) : Prop := (x = none ∧ r = d) ∨ ∃ k i, x = some (.int k i) ∧ 0 ≤ i ∧ i ≤ (top : Int) ∧ r = i.toNat

theorem run_sliceBounds (w : World) (b : Bool) (len cap h l : Nat) (lo hi : Option Value) (hhi : BoundIs hi len cap h) (hlo : BoundIs lo 0 h l) :
    (Instr.sliceBounds b len cap lo hi none).run P w = .ok (l, h, cap) w := by
  rcases hhi with ⟨rfl, rfl⟩ | ⟨k, i, rfl, h0, h1, rfl⟩ <;> rcases hlo with ⟨rfl, rfl⟩ | ⟨k', i', rfl, h0', h1', rfl⟩
  · simp [Instr.sliceBounds]
  · simp [Instr.sliceBounds, run_sliceBound_in w k' i' _ _ h0' h1']
  · simp [Instr.sliceBounds, run_sliceBound_in w k i _ _ h0 h1]
  · simp only [Instr.sliceBounds, Sem.run_bind, Sem.run_pure, Result.andThen_ok, run_sliceBound_in w k i _ _ h0 h1, run_sliceBound_in w k' i' _ _ h0' h1']

theorem boundIs_of {st : FS Ω} {a : Act} {E : Env} {τ : Nat → Tag} (hI : Inv O N st a E τ) {top top' d : Nat} (htop : top ≤ top') {lo : Option Opd} {x : Option Operand} (hk : chkOO x lo = true) {r : Nat}
    (h : sliceBound d top (lo.map st.rd) = some r) : BoundIs (x.map a.eval) d top' r ∧ (d ≤ top → r ≤ top) := by
  rcases sliceBound_ok hI hk h with ⟨_, rfl, rfl⟩ | ⟨k, i, h1, h2, h3, rfl⟩
  · exact ⟨.inl ⟨rfl, rfl⟩, id⟩
  · exact ⟨.inr ⟨k, i, h1, h2, by omega, rfl⟩, fun _ => by omega⟩

section
variable {st : FS Ω} {a : Act} {E : Env} {τ : Nat → Tag} (hI : Inv O N st a E τ) {go : Oper}
include hI

theorem y_slice {t e : TypeId} {z : Nat} {inf : TypeInfo} {x : Operand} {lo hi : Option Operand} {x' : Opd} {lo' hi' : Option Opd} (hop : go.op = .slice t x lo hi none) (ht : P.underlying t = some (.slice e))
    (hi0 : P.info? e = some inf) (hz : inf.size = z) (hx : chkO x x' = true) (hlo : chkOO lo lo' = true) (hhi : chkOO hi hi' = true) {p : PV} (h : sliceP z (st.rd x') (lo'.map st.rd) (hi'.map st.rd) = some p) : POK P st a E go p := by
  have rx := chkO_RV hI hx
  generalize st.rd x' = px at h rx
  unfold sliceP at h
  split at h
  · rename_i f z' es
    split at h <;> try cases h
    rename_i hzz
    obtain rfl := Nat.eq_of_beq_eq_true hzz
    simp only [Option.bind_eq_some_iff, Option.map_eq_some_iff] at h
    obtain ⟨hh, h1, ll, h2, rfl⟩ := h
    subst hz
    obtain ⟨_, hhle⟩ := boundIs_of hI (Nat.le_refl _) hhi h1
    have hhle := hhle (Nat.le_refl _)
    obtain ⟨b2, hlle⟩ := boundIs_of hI (Nat.le_refl _) hlo h2
    have hlle := hlle (Nat.zero_le _)
    have key : ∀ (q : Option Addr) (c : Nat), es.length ≤ c → a.eval x = .slice q es.length c →
        Yields P a go E.w (.slice (if c = ll then q else q.map (·.add (ll * inf.size))) (hh - ll) (c - ll)) := by
      intro q c hc ex
      refine yields_of (s := Instr.sliceAt t (a.eval x) (lo.map a.eval) (hi.map a.eval) ((none : Option Operand).map a.eval)) (by simp [execOp, hop]) ?_
      rw [ex]
      obtain ⟨b1, _⟩ := boundIs_of hI hc hhi h1
      simp [Instr.sliceAt, Instr.slice, underlying, ht, sizeOf, typeInfo, hi0, run_sliceBounds E.w true es.length c hh ll _ _ b1 b2]
    rcases rx.sl_inv.sl_inv with ⟨ex, e0⟩ | ⟨b, o, cap, ex, hf, hl, he, hc⟩ | ⟨ad, cap, ex, e0, hf⟩
    rotate_right
    · subst e0
      simp at hhle
      subst hhle
      obtain rfl : ll = 0 := by omega
      have := key (some ad) cap (Nat.zero_le _) ex
      refine ⟨_, this, .pure ?_, rfl, rfl⟩
      simp only [Nat.sub_self, List.take_nil, List.drop_nil, Nat.zero_mul, Option.map_some, Addr.add, if_true, ite_self, Nat.sub_zero]
      exact .mt _ _ _ (by simp)
    · subst e0
      simp at hhle
      subst hhle
      obtain rfl : ll = 0 := by omega
      have := key none 0 (Nat.le_refl _) ex
      refine ⟨_, this, ?_, rfl, rfl⟩
      simp only [if_true, Nat.sub_self, List.take_nil, List.drop_nil]
      exact .pure (.nil _ _)
    · have := key (some ⟨b, o, none⟩) cap hl ex
      refine ⟨_, this, .pure ?_, rfl, rfl⟩
      have hlen : ((es.take hh).drop ll).length = hh - ll := by simp; omega
      have hel : ∀ e ∈ (es.take hh).drop ll, okEl inf.size e := fun e h => he e (List.mem_of_mem_take (List.mem_of_mem_drop h))
      rw [← hlen]
      split
      · rename_i hcl
        have hnil : (es.take hh).drop ll = [] := by apply List.eq_nil_of_length_eq_zero; rw [hlen]; omega
        rw [hnil]
        exact .sl (by simp) (by simp) (by simp) (.nil _ _)
      · rw [Option.map_some, addr_add]
        exact .sl (by simp) (by rw [hlen]; omega) hel (RC.sub he hc ll hh hlle hhle)
  · cases h

theorem y_sslice {t : TypeId} {x : Operand} {lo hi : Option Operand} {x' : Opd} {lo' hi' : Option Opd} (hop : go.op = .slice t x lo hi none) (ht : P.underlying t = some .string)
    (hx : chkO x x' = true) (hlo : chkOO lo lo' = true) (hhi : chkOO hi hi' = true) {p : PV} (h : ssliceP (st.rd x') (lo'.map st.rd) (hi'.map st.rd) = some p) : POK P st a E go p := by
  have rx := chkO_RV hI hx
  generalize st.rd x' = px at h rx
  unfold ssliceP at h
  split at h
  · rename_i s
    have ex := rx.sc_inv
    simp only [Option.bind_eq_some_iff, Option.map_eq_some_iff] at h
    obtain ⟨hh, h1, ll, h2, rfl⟩ := h
    obtain ⟨b1, _⟩ := boundIs_of hI (Nat.le_refl _) hhi h1
    obtain ⟨b2, _⟩ := boundIs_of hI (Nat.le_refl _) hlo h2
    refine ⟨.string (s.extract ll hh), yields_of (s := Instr.sliceAt t (a.eval x) (lo.map a.eval) (hi.map a.eval) ((none : Option Operand).map a.eval)) (by simp [execOp, hop]) ?_, .pure (.sc _), rfl, rfl⟩
    rw [ex]
    simp [Instr.sliceAt, Instr.slice, underlying, ht, run_sliceBounds E.w false s.size s.size hh ll _ _ b1 b2]
  · cases h

theorem y_nilchk {x : Operand} {x' : Opd} (hop : go.op = .nilCheck x) (hx : chkO x x' = true) {p : PV} (h : nilchkP (st.rd x') = some p) : POK P st a E go p := by
  have rx := chkO_RV hI hx
  have ox := chkO_own hI hx
  generalize st.rd x' = px at h rx ox
  unfold nilchkP at h
  split at h <;> try cases h
  · exact ⟨a.eval x, by rw [rx.own_inv]; simp [Yields, execOp, hop, rx.own_inv], rx, ox, rfl⟩
  · exact ⟨a.eval x, by rw [rx.ptr_inv.1]; simp [Yields, execOp, hop, rx.ptr_inv.1], rx, ox, rfl⟩
  · obtain ⟨b, o, e, _⟩ := rx.elp_inv
    exact ⟨a.eval x, by rw [e]; simp [Yields, execOp, hop, e], rx, ox, rfl⟩
  · obtain ⟨va, vb, e, _⟩ := rx.clo_inv
    exact ⟨a.eval x, by rw [e]; simp [Yields, execOp, hop, e], rx, ox, rfl⟩

theorem y_mkfn {f : FuncId} {xs ys : Array Operand} {xs' ys' : List Opd} (hop : go.op = .makeFunc (.func f) xs ys) (hx : chkOs xs.toList xs' = true) (hy : chkOs ys.toList ys' = true) :
    POK P st a E go (.clo f (canons (xs'.map st.rd)) (canons (ys'.map st.rd))) := by
  refine ⟨.func (.func f) ⟨xs.toList.map a.eval⟩ ⟨ys.toList.map a.eval⟩, ?_, .clo (chkOs_RVs hI hx).canons (chkOs_RVs hI hy).canons, ?_, rfl⟩
  · refine yields_of (s := Instr.makeFunc (.func f) (xs.map a.eval) (ys.map a.eval)) (by simp [execOp, hop]) ?_
    simp [Instr.makeFunc]
    constructor <;> (apply Array.toList_inj.1; simp)
  · simp only [ownSub, Bool.and_eq_true, ownSubs_canons]
    exact ⟨chkOs_own hI hx, chkOs_own hI hy⟩

theorem y_extr {x : Operand} {x' : Opd} {i : Nat} (hop : go.op = .extract x i) (hx : chkO x x' = true) {p : PV} (h : extrP i (st.rd x') = some p) : POK P st a E go p := by
  have rx := chkO_RV hI hx
  have ox := chkO_own hI hx
  generalize st.rd x' = px at h rx ox
  unfold extrP at h
  split at h
  · obtain ⟨vs, e, hv⟩ := rx.tup_inv
    simp only [Option.map_eq_some_iff] at h
    obtain ⟨q, hq, rfl⟩ := h
    obtain ⟨v, h1, h2⟩ := hv.get hq
    refine ⟨v, yields_of (s := Instr.extract (a.eval x) i) (by simp [execOp, hop]) (by rw [e]; simp [Instr.extract, h1]), h2.dem, ?_, ?_⟩
    · have := ownSubs_get (by simpa [ownSub] using ox) hq
      cases q with
      | sl f z es => cases f <;> rfl
      | _ => exact this
    · cases q with
      | sl f z es => cases f <;> rfl
      | _ => rfl
  · cases h

omit hI in
theorem run_builtin_len {args : Array Operand} {ts : Array TypeId} {x : Operand} (hop : go.op = .call { callee := .builtin .len, args := args, argTypes := ts }) (ha : args.toList = [x]) {v r : Value}
    (hv : a.eval x = v) (hr : (Builtin.len_ ts go.type #[v]).run P E.w = .ok r E.w) : Yields P a go E.w r := by
  have : args = #[x] := by apply Array.toList_inj.1; simpa using ha
  subst this
  simp [Yields, execOp, hop, resolve, invoke, Go.builtin, hv, hr]

theorem y_len {args : Array Operand} {ts : Array TypeId} {x : Operand} {x' : Opd} {t : TypeId} (hop : go.op = .call { callee := .builtin .len, args := args, argTypes := ts }) (ha : args.toList = [x]) (ht : ts[0]? = some t) (hs : isSl P t = true)
    (hx : chkO x x' = true) {p : PV} (h : lenP (st.rd x') = some p) : POK P st a E go p := by
  have rx := chkO_RV hI hx
  obtain ⟨e, hs⟩ := isSl_of hs
  generalize st.rd x' = px at h rx
  unfold lenP at h
  split at h
  · rename_i f z es
    simp only [Option.some.injEq] at h; subst h
    refine ⟨.int .i64 (nInt es.length), ?_, .pure (.sc _), rfl, rfl⟩
    rcases rx.sl_inv.sl_inv with ⟨ex, e0⟩ | ⟨b, o, cap, ex, _⟩ | ⟨_, _, ex, e0, _⟩
    rotate_right
    · subst e0
      exact run_builtin_len hop ha ex (by simp [Builtin.len_, ht, underlying, hs, goInt, nInt_def])
    · subst e0
      exact run_builtin_len hop ha ex (by simp [Builtin.len_, ht, underlying, hs, goInt, nInt_def])
    · exact run_builtin_len hop ha ex (by simp [Builtin.len_, ht, underlying, hs, goInt, nInt_def])
  · cases h

theorem y_slen {args : Array Operand} {ts : Array TypeId} {x : Operand} {x' : Opd} {t : TypeId} (hop : go.op = .call { callee := .builtin .len, args := args, argTypes := ts }) (ha : args.toList = [x]) (ht : ts[0]? = some t) (hs : isStr P t = true)
    (hx : chkO x x' = true) {p : PV} (h : slenP (st.rd x') = some p) : POK P st a E go p := by
  have rx := chkO_RV hI hx
  have hs := isStr_of hs
  generalize st.rd x' = px at h rx
  unfold slenP at h
  split at h
  · rename_i s
    simp only [Option.some.injEq] at h; subst h
    exact ⟨.int .i64 (nInt s.size), run_builtin_len hop ha rx.sc_inv (by simp [Builtin.len_, ht, underlying, hs, goInt, nInt_def]), .pure (.sc _), rfl, rfl⟩
  · cases h

theorem y_mm {args : Array Operand} {ts : Array TypeId} {mx : Bool} {x y : Operand} {x' y' : Opd} (hop : go.op = .call { callee := .builtin (if mx then .max else .min), args := args, argTypes := ts }) (ha : args.toList = [x, y])
    (hx : chkO x x' = true) (hy : chkO y y' = true) {p : PV} (h : mmP mx (st.rd x') (st.rd y') = some p) : POK P st a E go p := by
  have rx := chkO_RV hI hx
  have ry := chkO_RV hI hy
  have : args = #[x, y] := by apply Array.toList_inj.1; simpa using ha
  subst this
  generalize st.rd x' = px at h rx
  generalize st.rd y' = py at h ry
  unfold mmP at h
  split at h
  · rename_i k u k' v
    have ex := rx.sc_inv
    have ey := ry.sc_inv
    split at h <;> try cases h
    rename_i hk
    obtain rfl := sameK_eq hk
    refine ⟨_, ?_, .pure (.sc _), rfl, rfl⟩
    cases mx
    · simp only [Bool.false_eq_true, if_false] at hop ⊢
      simp [Yields, execOp, hop, resolve, invoke, Go.builtin, ex, ey, Builtin.min_, Builtin.min2]
      omega
    · simp only [if_true] at hop ⊢
      simp [Yields, execOp, hop, resolve, invoke, Go.builtin, ex, ey, Builtin.max_, Builtin.max2]
      omega
  · cases h

theorem build_own {fs : Array Field} : ∀ (qs : List (Nat × Option Nat × Opd)) (ps : List (Nat × Operand)) (cs ds : List PV), chkParts P fs ps qs = true → ownSubs (keys st.L) cs = true →
        buildParts (qs.map fun p => (p.1, p.2.1, st.rd p.2.2)) cs = some ds → ownSubs (keys st.L) ds = true := by
  intro qs
  induction qs with
  | nil => intro ps cs ds _ hc h; simp only [List.map_nil, buildParts, Option.some.injEq] at h; subst h; exact hc
  | cons q qs ih =>
    intro ps cs ds hk hc h
    cases ps with
    | nil => simp [chkParts] at hk
    | cons r ps =>
      obtain ⟨i, x⟩ := r
      obtain ⟨off, n, y⟩ := q
      simp only [chkParts, Bool.and_eq_true] at hk
      simp only [List.map_cons, buildParts] at h
      cases hcc : cellsOf n (canon (st.rd y)) with
      | none => simp [hcc] at h
      | some c =>
        simp only [hcc] at h
        split at h
        · refine ih ps _ ds hk.2 (setCells_own off ?_ hc) h
          have hy := chkO_own hI hk.1.2
          rw [← ownSub_canon] at hy
          cases n with
          | none =>
            simp only [cellsOf] at hcc
            split at hcc
            · simp only [Option.some.injEq] at hcc; subst hcc; simp [ownSubs, hy]
            · cases hcc
          | some n =>
            generalize canon (st.rd y) = q at hcc hy
            cases q <;> simp only [cellsOf] at hcc <;> try cases hcc
            split at hcc <;> try cases hcc
            simpa [ownSub] using hy
        · cases h

omit hI in
theorem chkVs_own0 {st : FS Ω} : ∀ (vs : List Value) (cs : List PV), chkVs vs cs = true → ownSubs (keys st.L) cs = true := by
  intro vs
  induction vs with
  | nil => intro cs h; cases cs with
    | nil => rfl
    | cons _ _ => simp [chkVs] at h
  | cons v vs ih => intro cs h; cases cs with
    | nil => simp [chkVs] at h
    | cons c cs =>
      simp only [chkVs, Bool.and_eq_true] at h
      simp only [ownSubs, Bool.and_eq_true]
      exact ⟨ownSub_mono (fun k hk => by cases hk) _ (chkV_flag h.1).2, ih cs h.2⟩

omit hI in
theorem fill_ext {f g : Nat → Option (Nat × Nat)} (h : ∀ i a, f i = some a → g i = some a) : ∀ (l : List (Nat × Value)) (cs : Array Value) {r : Array Value}, Instr.fill f cs l = some r → Instr.fill g cs l = some r
  | [], _, _, e => e
  | (i, v) :: l, cs, r, e => by
    simp only [Instr.fill] at e ⊢
    cases hf : f i with
    | none => rw [hf] at e; cases e
    | some a =>
      rw [hf] at e
      rw [h i a hf]
      simp only at e ⊢
      split at e
      · cases e
      · rename_i hc
        rw [if_neg hc]
        exact fill_ext h l _ e

theorem y_build {t : TypeId} {ps : Array (Nat × Operand)} {zero : List PV} {qs : List (Nat × Option Nat × Opd)} {fs : Array Field} {inf : TypeInfo} {zv : Value} (hop : go.op = .build t ps)
    (ht : P.underlying t = some (.struct fs)) (hi : P.info? t = some inf) (hz : inf.zero = some zv) (hzz : chkVs zv.cells.toList zero = true) (hk : chkParts P fs ps.toList qs = true)
    (hsz : ∀ (i : Nat) (f : Field), fs[i]? = some f → ∃ inf, P.info? f.type = some inf) {p : PV}
    (h : (buildParts (qs.map fun p => (p.1, p.2.1, st.rd p.2.2)) (dems zero)).map .agg = some p) : POK P st a E go p := by
  simp only [Option.map_eq_some_iff] at h
  obtain ⟨ds, hd, rfl⟩ := h
  have hpl : ∀ (l : List Field) (w : World), (∀ f ∈ l, ∃ inf, P.info? f.type = some inf) → ∃ pl : List (Nat × Nat), (l.mapM fun f => (do pure (f.offset, ← sizeOf f.type) : Sem (Nat × Nat))).run P w = .ok pl w ∧
      ∀ (i : Nat) (f : Field), l[i]? = some f → ∃ inf, P.info? f.type = some inf ∧ pl[i]? = some (f.offset, inf.size) := by
    intro l
    induction l with
    | nil => intro w _; exact ⟨[], by simp, by simp⟩
    | cons f l ih =>
      intro w hl
      obtain ⟨inf, hinf⟩ := hl f List.mem_cons_self
      obtain ⟨pl, h1, h2⟩ := ih w (fun x hx => hl x (List.mem_cons_of_mem _ hx))
      refine ⟨(f.offset, inf.size) :: pl, ?_, ?_⟩
      · rw [List.mapM_cons]
        simp only [Sem.run_bind, run_sizeOf' hinf, Result.andThen_ok, Sem.run_pure, h1]
      · intro i g hg
        cases i with
        | zero => simp at hg; subst hg; exact ⟨inf, hinf, rfl⟩
        | succ i => simpa using h2 i g (by simpa using hg)
  obtain ⟨pl, hr, hp⟩ := hpl fs.toList E.w (fun f hf => by
    obtain ⟨i, hi', rfl⟩ := List.getElem_of_mem hf
    exact hsz i _ (by rw [Array.getElem?_eq_getElem (by simpa using hi')]; simp))
  have hz0 : RVs E (dems zero) zv.cells.toList := (RVs.of_RPs (chkVs_RPs hzz)).dems
  obtain ⟨us, hf, hus⟩ := fill_parts (P := P) (E := E) (fs := fs) (places := ⟨pl⟩) (by
      intro i f hf
      have := hp i f (by simpa using hf)
      simpa using this) ps.toList qs st.rd a.eval _ ds _ (fun x y h => chkO_RV hI h) hk hz0 hd
  refine ⟨.agg ⟨us⟩, yields_of (s := Instr.build t (ps.map fun (i, x) => (i, a.eval x))) (by simp [execOp, hop]) ?_, .agg hus, ?_, rfl⟩
  · have e1 : (zeroValue t).run P E.w = .ok zv E.w := by simp [zeroValue, typeInfo, hi, hz]
    have e2 : (fs.mapM fun f => (do pure (f.offset, ← sizeOf f.type) : Sem (Nat × Nat))).run P E.w = .ok ⟨pl⟩ E.w := by
      rw [Array.mapM_eq_mapM_toList]
      simp only [Sem.run_map, hr, Result.andThen_ok]
    simp only [Instr.build, Sem.run_bind, e1, Result.andThen_ok, run_underlying' ht, e2]
    have e3 : (ps.map fun (i, x) => (i, a.eval x)).toList = ps.toList.map fun p => (p.1, a.eval p.2) := by simp
    rw [e3]
    rw [show (⟨zv.cells.toList⟩ : Array Value) = zv.cells from rfl] at hf
    rw [hf]
    rfl
  · simp only [ownSub]
    refine build_own hI qs ps.toList _ ds hk ?_ hd
    rw [ownSubs_dems]
    exact chkVs_own0 _ _ hzz

theorem y_buildA {t e : TypeId} {len : Nat} {ps : Array (Nat × Operand)} {zero : List PV} {qs : List (Nat × Option Nat × Opd)} {inf ie : TypeInfo} {zv : Value} (hop : go.op = .build t ps)
    (ht : P.underlying t = some (.array len e)) (hie : P.info? e = some ie) (hi : P.info? t = some inf) (hz : inf.zero = some zv) (hzz : chkVs zv.cells.toList zero = true) (hk : chkParts P (arrFields e ie.size len) ps.toList qs = true) {p : PV}
    (h : (buildParts (qs.map fun p => (p.1, p.2.1, st.rd p.2.2)) (dems zero)).map .agg = some p) : POK P st a E go p := by
  simp only [Option.map_eq_some_iff] at h
  obtain ⟨ds, hd, rfl⟩ := h
  have hz0 : RVs E (dems zero) zv.cells.toList := (RVs.of_RPs (chkVs_RPs hzz)).dems
  obtain ⟨us, hf, hus⟩ := fill_parts (P := P) (E := E) (fs := arrFields e ie.size len) (places := ⟨(List.range len).map fun i => (i * ie.size, ie.size)⟩) (by
      intro i f hf
      obtain ⟨hlt, rfl⟩ := arrFields_get hf
      refine ⟨ie, hie, ?_⟩
      simp [hlt, arrField]) ps.toList qs st.rd a.eval _ ds _ (fun x y h => chkO_RV hI h) hk hz0 hd
  refine ⟨.agg ⟨us⟩, yields_of (s := Instr.build t (ps.map fun (i, x) => (i, a.eval x))) (by simp [execOp, hop]) ?_, .agg hus, ?_, rfl⟩
  · have e1 : (zeroValue t).run P E.w = .ok zv E.w := by simp [zeroValue, typeInfo, hi, hz]
    simp only [Instr.build, Sem.run_bind, e1, Result.andThen_ok, run_underlying' ht, run_sizeOf' hie]
    have e3 : (ps.map fun (i, x) => (i, a.eval x)).toList = ps.toList.map fun p => (p.1, a.eval p.2) := by simp
    rw [e3]
    rw [show (⟨zv.cells.toList⟩ : Array Value) = zv.cells from rfl] at hf
    rw [fill_ext (g := fun i => some (i * ie.size, ie.size)) (fun i x hx => by
      simp only [List.getElem?_toArray, List.getElem?_map, Option.map_eq_some_iff] at hx
      obtain ⟨j, hj, rfl⟩ := hx
      obtain ⟨h1, h2⟩ := List.getElem?_eq_some_iff.1 hj
      simp at h2
      rw [h2]) _ _ hf]
    rfl
  · simp only [ownSub]
    refine build_own hI qs ps.toList _ ds hk ?_ hd
    rw [ownSubs_dems]
    exact chkVs_own0 _ _ hzz

/-- A pure operation, but the copy of a slot. -/
theorem pure_ok {ir : IOp} (hk : chkPure P go.op ir = true) (hmv : ∀ x, ir ≠ .mv (.t x)) {p : PV} (h : pureVal st.rd ir = some p) : POK P st a E go p := by
  generalize hop : go.op = op at hk
  unfold chkPure at hk
  split at hk
  · rename_i x y
    have hy : ∀ t, y ≠ .t t := fun t e => hmv t (by rw [e])
    have e : pureVal st.rd (.mv y) = some (st.rd y) := by
      cases y with
      | t n => exact absurd rfl (hy n)
      | _ => rfl
    rw [e] at h; injection h with h; subst h
    exact y_mvc hI hop hk hy
  · simp only [Bool.and_eq_true] at hk
    exact y_pick hI hop hk.1.1 hk.1.2 hk.2 h
  · split at hk
    · rename_i fs i ht hi
      split at hk
      · rename_i z hz
        simp only [Bool.and_eq_true] at hk
        refine y_build hI hop ht hi hz hk.1.1 hk.1.2 ?_ h
        intro j f hj
        have := Array.all_eq_true.1 hk.2
        obtain ⟨hlt, rfl⟩ := Array.getElem?_eq_some_iff.1 hj
        exact Option.isSome_iff_exists.1 (this j hlt)
      · cases hk
    · rename_i len e i ht hi
      split at hk
      · rename_i z ie hz hie
        simp only [Bool.and_eq_true] at hk
        exact y_buildA hI hop ht hie hi hz hk.1 hk.2 h
      · cases hk
    · cases hk
  · simp only [Bool.and_eq_true] at hk
    exact y_bin hI hop hk.1.1 hk.1.2 hk.2 h
  · simp only [Bool.and_eq_true] at hk
    obtain ⟨⟨⟨h1, h2⟩, h3⟩, h4⟩ := hk
    refine y_beq hI hop h1 ?_ h3 h4 h
    split at h2
    · assumption
    · cases h2
  · simp only [Bool.and_eq_true, Bool.not_eq_true'] at hk
    obtain ⟨⟨⟨⟨⟨⟨h1, h2⟩, h3⟩, h4⟩, h5⟩, h6⟩, h7⟩ := hk
    refine y_eqs hI hop h1 h2 ?_ h4 h5 h6 h7 h
    split at h3
    · exact .inl ⟨_, ‹_›⟩
    · obtain ⟨i, hi⟩ := Option.isSome_iff_exists.1 h3
      exact .inr ⟨_, _, i, ‹_›, hi⟩
    · cases h3
  · simp only [Bool.and_eq_true] at hk
    obtain ⟨⟨⟨h1, h2⟩, h3⟩, h4⟩ := hk
    split at h4
    · refine y_eqnil hI hop h1 ?_ h3 h
      split at h2
      · exact ⟨_, ‹_›⟩
      · cases h2
    · cases h4
  · simp only [Bool.and_eq_true] at hk
    obtain ⟨⟨⟨h1, h2⟩, h3⟩, h4⟩ := hk
    split at h4
    · exact y_eqnils hI hop h1 h2 h3 h
    · cases h4
  · simp only [Bool.and_eq_true] at hk
    exact y_un hI hop hk.1 hk.2 h
  · simp only [Bool.and_eq_true] at hk
    obtain ⟨h1, h2⟩ := hk
    split at h1
    · rename_i hs ht
      exact y_cvi hI hop ⟨_, hs⟩ ht h1 h2 h
    · cases h1
  · simp only [Bool.and_eq_true] at hk
    obtain ⟨⟨h1, h2⟩, h3⟩ := hk
    split at h1
    · exact y_same hI hop ⟨_, ‹_›⟩ (isStr_of h2) h3 h
    · cases h1
  · simp only [Bool.and_eq_true] at hk
    obtain ⟨h1, h2⟩ := hk
    split at h1
    · rename_i fs hs
      split at h1
      · rename_i fd hf
        simp only [Bool.and_eq_true] at h1
        obtain ⟨ho, hi⟩ := h1
        split at hi
        · rename_i i hi'
          exact y_faddr hI hop hs hf (Nat.eq_of_beq_eq_true ho) hi' (fun e => by rw [e] at hi; cases hi) h2 h
        · cases hi
      · cases h1
    · cases h1
  · simp only [Bool.and_eq_true] at hk
    obtain ⟨h1, h2⟩ := hk
    split at h1
    · rename_i fs hs
      split at h1
      · rename_i fd hf
        simp only [Bool.and_eq_true] at h1
        exact y_fld hI hop hs hf (Nat.eq_of_beq_eq_true h1.1) h1.2 h2 h
      · cases h1
    · cases h1
  · simp only [Bool.and_eq_true] at hk
    obtain ⟨⟨h1, h2⟩, h3⟩ := hk
    obtain ⟨e, i, ht, hi, hz⟩ := isSlice_of h1
    exact y_iaddr hI hop ht hi hz h2 h3 h
  · simp only [Bool.and_eq_true] at hk
    obtain ⟨⟨h1, h2⟩, h3⟩ := hk
    split at h1
    · rename_i n e ht
      simp only [Bool.and_eq_true] at h1
      obtain ⟨h1, h4⟩ := h1
      split at h4
      · rename_i i hi
        rw [Nat.eq_of_beq_eq_true h1] at ht
        exact y_aaddr hI hop ht hi (Nat.eq_of_beq_eq_true h4) h2 h3 h
      · cases h4
    · cases h1
  · simp only [Bool.and_eq_true] at hk
    exact y_istr hI hop (isStr_of hk.1.1) hk.1.2 hk.2 h
  · simp only [Bool.and_eq_true] at hk
    obtain ⟨⟨h1, h2⟩, h3⟩ := hk
    split at h1
    · rename_i m e ht
      simp only [Bool.and_eq_true] at h1
      obtain ⟨⟨h1, h5⟩, h4⟩ := h1
      split at h4
      · rename_i i hi
        rw [Nat.eq_of_beq_eq_true h1] at ht
        exact y_iarr hI hop ht h5 hi (Nat.eq_of_beq_eq_true h4) h2 h3 h
      · cases h4
    · cases h1
  · simp only [Bool.and_eq_true] at hk
    obtain ⟨⟨⟨h1, h2⟩, h3⟩, h4⟩ := hk
    obtain ⟨e, i, ht, hi, hz⟩ := isSlice_of h1
    exact y_slice hI hop ht hi hz h2 h3 h4 h
  · simp only [Bool.and_eq_true] at hk
    obtain ⟨⟨⟨h1, h2⟩, h3⟩, h4⟩ := hk
    exact y_sslice hI hop (isStr_of h1) h2 h3 h4 h
  · exact y_nilchk hI hop hk h
  · simp only [Bool.and_eq_true] at hk
    obtain ⟨⟨h1, h2⟩, h3⟩ := hk
    rw [Nat.eq_of_beq_eq_true h1] at hop
    simp only [pureVal, Option.some.injEq] at h
    subst h
    exact y_mkfn hI hop h2 h3
  · simp only [Bool.and_eq_true] at hk
    obtain ⟨h1, h2⟩ := hk
    rw [Nat.eq_of_beq_eq_true h2] at hop
    exact y_extr hI hop h1 h
  · simp only [Bool.and_eq_true] at hk
    obtain ⟨h1, h2⟩ := hk
    split at h1
    · rename_i x ha
      split at h2
      · exact y_len hI hop ha ‹_› h2 h1 h
      · cases h2
    · cases h1
  · simp only [Bool.and_eq_true] at hk
    obtain ⟨h1, h2⟩ := hk
    split at h1
    · rename_i x ha
      split at h2
      · exact y_slen hI hop ha ‹_› h2 h1 h
      · cases h2
    · cases h1
  · split at hk
    · rename_i x y ha
      simp only [Bool.and_eq_true] at hk
      exact y_mm (mx := true) hI hop ha hk.1 hk.2 h
    · cases hk
  · split at hk
    · rename_i x y ha
      simp only [Bool.and_eq_true] at hk
      exact y_mm (mx := false) hI hop ha hk.1 hk.2 h
    · cases hk
  · cases hk
end
end Go.Fw
end
section
/- What one operation does, VII: boxes, loads, stores. -/
namespace Go.Fw
variable {Ω : Type} {O : OpqSem Ω} {N : Nat} {P : Program}

theorem heap_new (w : World) (o : Obj) : (w.alloc o).heap[w.heap.size]? = some o := heap_alloc_new w o
theorem heap_old (w : World) (o : Obj) {b : Nat} (h : b < w.heap.size) : (w.alloc o).heap[b]? = w.heap[b]? := heap_alloc_old w o b h
theorem size_alloc (w : World) (o : Obj) : (w.alloc o).heap.size = w.heap.size + 1 := by
  show (w.heap.push o).size = _
  simp

theorem calm_alloc {E : Env} {τ : Nat → Tag} (hf : ∀ b, E.w.heap.size ≤ b → E.σ b = 0 ∧ τ b = .frn) (o : Obj) (s : Nat) (g : Tag) :
    Calm E { E with w := E.w.alloc o, σ := fun b => if b = E.w.heap.size then s else E.σ b } τ (fun b => if b = E.w.heap.size then g else τ b) := by
  have hn : ∀ b, b < E.w.heap.size → ¬ b = E.w.heap.size := fun b h => by omega
  have hold : ∀ b, b < E.w.heap.size → (E.w.alloc o).heap[b]? = E.w.heap[b]? := fun b h => heap_old E.w o h
  constructor
  · refine ⟨by show _ ≤ (E.w.alloc o).heap.size; rw [size_alloc]; omega, ⟨?_, ?_⟩, ?_, rfl, rfl, rfl, Nat.le_refl _⟩
    · intro b
      show E.σ b ≤ if b = E.w.heap.size then s else E.σ b
      split
      · rename_i h; rw [h, (hf _ (Nat.le_refl _)).1]; omega
      · exact Nat.le_refl _
    · intro b o' ho
      have hb : b < E.w.heap.size := by
        rcases Nat.lt_or_ge b E.w.heap.size with h | h
        · exact h
        · rw [(hf b h).1] at ho; omega
      exact World.cell?_of_block (w := E.w) (hold b hb)
    · intro b hb hτ
      exact ⟨hold b hb, by show (if b = E.w.heap.size then g else τ b) = _; rw [if_neg (hn b hb)]; exact hτ, by show (if b = E.w.heap.size then s else E.σ b) = _; rw [if_neg (hn b hb)]⟩
  · rfl
  · rfl
  · intro d k; rfl
  · intro b hb _
    exact ⟨hold b hb, by show (if b = E.w.heap.size then g else τ b) = _; rw [if_neg (hn b hb)], by show (if b = E.w.heap.size then s else E.σ b) = _; rw [if_neg (hn b hb)]⟩
  · intro b hb
    have hb : E.w.heap.size + 1 ≤ b := by rw [← size_alloc E.w o]; exact hb
    show (if b = E.w.heap.size then s else E.σ b) = 0 ∧ (if b = E.w.heap.size then g else τ b) = .frn
    rw [if_neg (by omega), if_neg (by omega)]
    exact hf b (by omega)

/-- From one state to the next within a frame. -/
structure Step (E E' : Env) (τ τ' : Nat → Tag) : Prop where
  ext : FExt E.w E.σ τ E'.w E'.σ τ'
  me : E'.me = E.me
  fr : E'.fr = E.fr
  μ : ∀ d k, d < E.me → E'.μ d k = E.μ d k

theorem Step.refl (E : Env) (τ : Nat → Tag) : Step E E τ τ := ⟨.refl _ _ _, rfl, rfl, fun _ _ _ => rfl⟩
theorem Step.trans {E E' E'' : Env} {τ τ' τ'' : Nat → Tag} (h : Step E E' τ τ') (k : Step E' E'' τ' τ'') : Step E E'' τ τ'' :=
  ⟨h.ext.trans k.ext, k.me.trans h.me, k.fr.trans h.fr, fun d j hd => (k.μ d j (by rw [h.me]; exact hd)).trans (h.μ d j hd)⟩
theorem Calm.step {E E' : Env} {τ τ' : Nat → Tag} (h : Calm E E' τ τ') : Step E E' τ τ' := ⟨h.ext, h.me, h.fr, fun d k _ => h.μ d k⟩

theorem keys_none {α : Type} {l : List (Nat × α)} {d : Nat} (h : look l d = none) : hasN (keys l) d = false := by
  cases e : hasN (keys l) d with
  | false => rfl
  | true => obtain ⟨c, hc⟩ := (hasN_keys l d).1 e; rw [h] at hc; cases hc

/-- A block becomes a box of the frame's own. -/
theorem Inv.newBox {st : FS Ω} {a : Act} {E : Env} {τ : Nat → Tag} (hI : Inv O N st a E τ) {d nb : Nat} (hd : d < N) (hL : look st.L d = none) {c : Cel Ω} {p : PV} {v : Value}
    (hc : CelRel O { E with μ := fun e k => if e = E.me ∧ k = d then nb else E.μ e k } τ E.me d c)
    (hno : ∀ cs : List PV, c = .box cs → ∀ (off z : Nat) (es : List (List PV)), cs[off]? ≠ some (PV.sl .own z es))
    (hp : RV { E with μ := fun e k => if e = E.me ∧ k = d then nb else E.μ e k } p v) (hpo : ownSub [d] p = true) (hpf : noFlag p = true) :
    Inv O N { st with sl := ins st.sl d p, L := ins st.L d c } (a.put (some d) v) { E with μ := fun e k => if e = E.me ∧ k = d then nb else E.μ e k } τ := by
  have hdn : d < a.tmps.size := Nat.lt_of_lt_of_le hd hI.size
  have hg := getS_ins st.sl d p
  have ht := tmps_put a d v hdn
  have hl := look_ins st.L d c
  have hkn := keys_none hL
  have hμ : ∀ k, hasN (keys st.L) k = true → (if E.me = E.me ∧ k = d then nb else E.μ E.me k) = E.μ E.me k := by
    intro k hk; rw [if_neg]; rintro ⟨_, rfl⟩; rw [hkn] at hk; cases hk
  have hμ' : ∀ e k, e < E.me → (if e = E.me ∧ k = d then nb else E.μ e k) = E.μ e k := by
    intro e k he; rw [if_neg]; rintro ⟨h, _⟩; omega
  have hmove : ∀ {q : PV} {u : Value}, RV E q u → ownSub (keys st.L) q = true → RV { E with μ := fun e k => if e = E.me ∧ k = d then nb else E.μ e k } q u := fun h1 h2 =>
    RV.move (E := E) (E' := { E with μ := fun e k => if e = E.me ∧ k = d then nb else E.μ e k }) (.refl _ _) hμ hμ' rfl h1 h2
  have hcel : ∀ e k (c : Cel Ω), (e < E.me ∨ (e = E.me ∧ k ≠ d)) → CelRel O E τ e k c → CelRel O { E with μ := fun e k => if e = E.me ∧ k = d then nb else E.μ e k } τ e k c := by
    intro e k c hek h
    have hne : (if e = E.me ∧ k = d then nb else E.μ e k) = E.μ e k := by
      rw [if_neg]; rintro ⟨h1, h2⟩; rcases hek with h | ⟨_, h⟩
      · omega
      · exact h h2
    cases c with
    | box cs =>
      obtain ⟨h1, h2, h3, vs, ty, h4, h5, h6⟩ := h
      refine ⟨by show τ (if _ then _ else _) = _; rw [hne]; exact h1, by show E.σ (if _ then _ else _) = _; rw [hne]; exact h2, h3, vs, ty, by show E.w.heap[(if _ then _ else _)]? = _; rw [hne]; exact h4, ?_, h6⟩
      refine RVs.move (E := { E with me := e }) (E' := { E with μ := fun e k => if e = E.me ∧ k = d then nb else E.μ e k, me := e }) (D := []) (.refl _ _) (fun k hk => by cases hk) ?_ rfl h5 h3
      intro e' k' he'
      show (if _ then _ else _) = _
      rw [if_neg]; rintro ⟨h, _⟩
      have : e' < e := he'
      rcases hek with h' | ⟨h', _⟩ <;> omega
    | opq x =>
      obtain ⟨foot, hx, hf⟩ := h
      exact ⟨foot, by show O.holds _ _ _ (if _ then _ else _) _; rw [hne]; exact hx, hf⟩
  constructor
  · exact hI.me
  · exact hI.defers
  · rw [size_put]; exact hI.size
  · intro t
    show RV _ (getS (ins st.sl d p) t) _
    rw [hg, ht]
    by_cases h : t = d
    · rw [if_pos h, if_pos h]; exact hp
    · rw [if_neg h, if_neg h]; exact hmove (hI.slots t) (hI.wfs t)
  · intro e F hF k c' hc'
    have he : e < st.S.length := (List.getElem?_eq_some_iff.1 hF).1
    exact hcel e k c' (.inl (by rw [hI.me]; exact he)) (hI.frames e F hF k c' hc')
  · intro k c' hc'
    have hc' : look (ins st.L d c) k = some c' := hc'
    rw [hl] at hc'
    by_cases h : k = d
    · rw [if_pos h] at hc'; injection hc' with hc'; subst hc' h; exact hc
    · rw [if_neg h] at hc'; exact hcel E.me k c' (.inr ⟨rfl, h⟩) (hI.mine k c' hc')
  · intro t
    show ownSub (keys (ins st.L d c)) (getS (ins st.sl d p) t) = true
    rw [hg]
    by_cases h : t = d
    · rw [if_pos h]
      refine ownSub_mono ?_ p hpo
      intro k hk
      rw [hasN_ins]
      simp only [hasN, Bool.or_false] at hk
      exact .inl (Nat.eq_of_beq_eq_true hk)
    · rw [if_neg h]
      exact ownSub_mono (fun k hk => (hasN_ins st.L d c k).2 (.inr hk)) _ (hI.wfs t)
  · intro t z es hq
    have hq : getS (ins st.sl d p) t = .sl .own z es := hq
    rw [hg] at hq
    rw [ht]
    by_cases h : t = d
    · rw [if_pos h] at hq; rw [hq] at hpf; cases hpf
    · rw [if_neg h] at hq ⊢; exact hI.rights t z es hq
  · intro hdirty t x z es hq hx
    have hq : getS (ins st.sl d p) t = .sl (.al (.slot x)) z es := hq
    have hx : isOwn (getS (ins st.sl d p) x) = true := hx
    rw [hg] at hq hx
    rw [ht, ht]
    by_cases h : t = d
    · rw [if_pos h] at hq; rw [hq] at hpf; cases hpf
    · rw [if_neg h] at hq ⊢
      by_cases h2 : x = d
      · rw [if_pos h2] at hx
        cases p with
        | sl f _ _ => cases f <;> first | (cases hpf; done) | (cases hx; done)
        | _ => cases hx
      · rw [if_neg h2] at hx ⊢; exact hI.alSlot hdirty t x z es hq hx
  · intro hdirty t k off z es cs z' es' hq hk hcs
    have hq : getS (ins st.sl d p) t = .sl (.al (.cell k off)) z es := hq
    have hk : look (ins st.L d c) k = some (.box cs) := hk
    rw [hg] at hq
    rw [hl] at hk
    rw [ht]
    by_cases h : t = d
    · rw [if_pos h] at hq; rw [hq] at hpf; cases hpf
    · rw [if_neg h] at hq ⊢
      by_cases h2 : k = d
      · rw [if_pos h2] at hk; injection hk with hk; exact absurd hcs (hno cs hk off z' es')
      · rw [if_neg h2] at hk
        have := hI.alCell hdirty t k off z es cs z' es' hq hk hcs
        show E.w.cell? ⟨(if E.me = E.me ∧ k = d then nb else E.μ E.me k), off, none⟩ = _
        rw [if_neg (fun h => h2 h.2)]; exact this
  · intro hdirty t e k off z es F cs z' es' hq hF hk hcs
    have hq : getS (ins st.sl d p) t = .sl (.al (.gcell e k off)) z es := hq
    rw [hg] at hq
    rw [ht]
    by_cases h : t = d
    · rw [if_pos h] at hq; rw [hq] at hpf; cases hpf
    · rw [if_neg h] at hq ⊢
      have := hI.alOut hdirty t e k off z es F cs z' es' hq hF hk hcs
      have he : e < st.S.length := (List.getElem?_eq_some_iff.1 hF).1
      show E.w.cell? ⟨(if e = E.me ∧ k = d then nb else E.μ e k), off, none⟩ = _
      rw [hμ' e k (by rw [hI.me]; exact he)]; exact this
  · exact hI.fresh
  · intro t x z es hq
    have hq : getS (ins st.sl d p) t = .sl (.al (.slot x)) z es := hq
    rw [hg] at hq
    by_cases h : t = d
    · rw [if_pos h] at hq; rw [hq] at hpf; cases hpf
    · rw [if_neg h] at hq; exact look_ins_some d p (hI.alP t x z es hq)

theorem dems_no : ∀ {cs : List PV} {off z : Nat} {es : List (List PV)}, (dems cs)[off]? ≠ some (.sl .own z es)
  | [], _, _, _ => by simp [dems]
  | p :: ps, 0, z, es => by
    simp only [dems, List.getElem?_cons_zero, ne_eq, Option.some.injEq]
    cases p with
    | sl f _ _ => cases f <;> simp [dem]
    | _ => simp [dem]
  | p :: ps, off + 1, z, es => by simp only [dems, List.getElem?_cons_succ]; exact dems_no

/-- The answer of an operation: what it leaves. -/
def OpOK (P : Program) (O : OpqSem Ω) (N : Nat) (st' : FS Ω) (a : Act) (E : Env) (τ : Nat → Tag) (go : Oper) : Prop :=
  ∀ (K : Act → World → Prop) (Q : Exit → Act → World → Prop), (∀ a' E' τ', Inv O N st' a' E' τ' → Step E E' τ τ' → K a' E'.w) → go.wp P a E.w K Q

theorem opOK_value {st' : FS Ω} {a : Act} {E E' : Env} {τ τ' : Nat → Tag} {go : Oper} {v : Value} (h : (execOp a.eval go).run P E.w = .ok (.value v) E'.w) (hI : Inv O N st' (a.put go.dst v) E' τ') (hs : Step E E' τ τ') :
    OpOK P O N st' a E τ go := by
  intro K Q hK
  unfold Oper.wp
  rw [h]
  exact hK _ E' τ' hI hs
theorem opOK_skip {st' : FS Ω} {a : Act} {E E' : Env} {τ τ' : Nat → Tag} {go : Oper} (h : (execOp a.eval go).run P E.w = .ok .skip E'.w) (hI : Inv O N st' (a.put go.dst Go.undef) E' τ') (hs : Step E E' τ τ') :
    OpOK P O N st' a E τ go := by
  intro K Q hK
  unfold Oper.wp
  rw [h]
  exact hK _ E' τ' hI hs

theorem o_box {st st' : FS Ω} {a : Act} {E : Env} {τ : Nat → Tag} (hI : Inv O N st a E τ) {go : Oper} {t : TypeId} {x : Operand} {y : Opd} {n : Option Nat} {d : Nat} (hop : go.op = .box t x) (hdst : go.dst = some d) (hd : d < N)
    (hx : chkO x y = true) {cs : List PV} (hc : cellsOf n (st.rd y) = some cs) (hL : look st.L d = none) (ho : ownSubs [] cs = true)
    (hst : st' = { st with sl := ins st.sl d (.own d 0), L := ins st.L d (.box (dems cs)) }) : OpOK P O N st' a E τ go := by
  obtain ⟨⟨vs, hvs, hcells⟩, _⟩ := cellsOf_ok hc (chkO_RV hI hx)
  have hC := calm_alloc hI.fresh (.cells ⟨vs⟩ t) 0 (.box E.me d)
  have hI1 := hI.calm hC
  subst hst
  refine opOK_value (E' := { E with w := E.w.alloc (.cells ⟨vs⟩ t), σ := fun b => if b = E.w.heap.size then 0 else E.σ b, μ := fun e k => if e = E.me ∧ k = d then E.w.heap.size else E.μ e k })
    (τ' := fun b => if b = E.w.heap.size then .box E.me d else τ b) (v := .pointer (some ⟨E.w.heap.size, 0, none⟩)) ?_ ?_ ?_
  · simp only [execOp, hop, Instr.box, newVar, newRow, hcells]
    rfl
  · rw [hdst]
    refine hI1.newBox hd hL (nb := E.w.heap.size) ?_ ?_ ?_ ?_ rfl
    · refine ⟨?_, ?_, ?_, vs, t, ?_, ?_, ?_⟩
      · simp
      · simp
      · rw [ownSubs_dems]; exact ho
      · simp only [and_self, if_true]; exact heap_new _ _
      · refine RVs.move (E := E) (E' := { E with w := E.w.alloc (.cells ⟨vs⟩ t), σ := fun b => if b = E.w.heap.size then 0 else E.σ b, μ := fun e k => if e = E.me ∧ k = d then E.w.heap.size else E.μ e k, me := E.me }) (D := []) hC.ext.sext (fun k hk => by cases hk) ?_ rfl hvs.dems (by rw [ownSubs_dems]; exact ho)
        intro e k he
        show (if _ then _ else _) = _
        rw [if_neg]; rintro ⟨h, _⟩; omega
      · intro off z es h; exact absurd h dems_no
    · rintro cs' h; injection h with h; subst h; intro off z es; exact dems_no
    · have := RV.own (E := { E with w := E.w.alloc (.cells ⟨vs⟩ t), σ := fun b => if b = E.w.heap.size then 0 else E.σ b, μ := fun e k => if e = E.me ∧ k = d then E.w.heap.size else E.μ e k }) d 0
      simpa using this
    · simp [ownSub, hasN]
  · exact ⟨hC.ext, rfl, rfl, fun e k he => by show (if _ then _ else _) = _; rw [if_neg]; rintro ⟨h, _⟩; omega⟩
end Go.Fw
end
section
/- What one operation does, VIII: new boxes, loads, copies. -/
namespace Go.Fw
variable {Ω : Type} {O : OpqSem Ω} {N : Nat} {P : Program}

theorem opOK_yields {st' : FS Ω} {a : Act} {E : Env} {τ : Nat → Tag} {go : Oper} {v : Value} (h : Yields P a go E.w v) (hI : Inv O N st' (a.put go.dst v) E τ) : OpOK P O N st' a E τ go :=
  opOK_value h hI (.refl E τ)

theorem chkVs_own : ∀ {vs : List Value} {cs : List PV}, chkVs vs cs = true → ownSubs [] cs = true
  | [], [], _ => rfl
  | v :: vs, c :: cs, h => by
    simp only [chkVs, Bool.and_eq_true] at h
    simp only [ownSubs, Bool.and_eq_true]
    exact ⟨(chkV_flag h.1).2, chkVs_own h.2⟩
  | [], _ :: _, h => by cases h
  | _ :: _, [], h => by cases h

theorem o_alloc {st st' : FS Ω} {a : Act} {E : Env} {τ : Nat → Tag} (hI : Inv O N st a E τ) {go : Oper} {t : TypeId} {d : Nat} (hop : go.op = .alloc t) (hdst : go.dst = some d) (hd : d < N)
    {i : TypeInfo} {z : Value} (hi : P.info? t = some i) (hz : i.zero = some z) {cs : List PV} (hc : chkVs z.cells.toList cs = true) (hL : look st.L d = none)
    (hst : st' = { st with sl := ins st.sl d (.own d 0), L := ins st.L d (.box (dems cs)) }) : OpOK P O N st' a E τ go := by
  have ho := chkVs_own hc
  generalize hvs : z.cells.toList = vs at hc
  have hC := calm_alloc hI.fresh (.cells ⟨vs⟩ t) 0 (.box E.me d)
  have hI1 := hI.calm hC
  subst hst
  refine opOK_value (E' := { E with w := E.w.alloc (.cells ⟨vs⟩ t), σ := fun b => if b = E.w.heap.size then 0 else E.σ b, μ := fun e k => if e = E.me ∧ k = d then E.w.heap.size else E.μ e k })
    (τ' := fun b => if b = E.w.heap.size then .box E.me d else τ b) (v := .pointer (some ⟨E.w.heap.size, 0, none⟩)) ?_ ?_ ?_
  · have hvs' : z.cells = ⟨vs⟩ := by rw [← hvs]
    simp [execOp, hop, Instr.alloc, zeroValue, typeInfo, hi, hz, newVar, newRow, hvs']
  · rw [hdst]
    refine hI1.newBox hd hL (nb := E.w.heap.size) ?_ ?_ ?_ ?_ rfl
    · refine ⟨?_, ?_, ?_, vs, t, ?_, ?_, ?_⟩
      · simp
      · simp
      · rw [ownSubs_dems]; exact ho
      · simp only [and_self, if_true]; exact heap_new _ _
      · exact (RVs.of_RPs (chkVs_RPs hc)).dems
      · intro off z es h; exact absurd h dems_no
    · rintro cs' h; injection h with h; subst h; intro off z es; exact dems_no
    · have := RV.own (E := { E with w := E.w.alloc (.cells ⟨vs⟩ t), σ := fun b => if b = E.w.heap.size then 0 else E.σ b, μ := fun e k => if e = E.me ∧ k = d then E.w.heap.size else E.μ e k }) d 0
      simpa using this
    · simp [ownSub, hasN]
  · exact ⟨hC.ext, rfl, rfl, fun e k he => by show (if _ then _ else _) = _; rw [if_neg]; rintro ⟨h, _⟩; omega⟩

/-- Where a box's cells lie. -/
theorem box_ok {st : FS Ω} {a : Act} {E : Env} {τ : Nat → Tag} (hI : Inv O N st a E τ) {p : PV} {v : Value} (hv : RV E p v) {cs : List PV} {off : Nat} {src : Nat → Src}
    (h : st.box? p = some (cs, off, src)) : ∃ d k, v = .pointer (some ⟨E.μ d k, off, none⟩) ∧ d ≤ E.me ∧ CelRel O E τ d k (.box cs) ∧
      ((p = .own k off ∧ d = E.me ∧ src = .cell k ∧ look st.L k = some (.box cs)) ∨ (p = .ptr d k off ∧ src = .gcell d k ∧ d < E.me ∧ ∃ F, st.S[d]? = some F ∧ look F k = some (.box cs))) := by
  cases p with
  | own k o =>
    simp only [FS.box?] at h
    split at h
    · rename_i cs' hl
      simp only [Option.some.injEq, Prod.mk.injEq] at h
      obtain ⟨rfl, rfl, rfl⟩ := h
      exact ⟨E.me, k, hv.own_inv, Nat.le_refl _, hI.mine k _ hl, .inl ⟨rfl, rfl, rfl, hl⟩⟩
    · cases h
  | ptr d k o =>
    simp only [FS.box?] at h
    split at h
    · rename_i F hF
      split at h
      · rename_i cs' hl
        simp only [Option.some.injEq, Prod.mk.injEq] at h
        obtain ⟨rfl, rfl, rfl⟩ := h
        obtain ⟨hv1, hd⟩ := hv.ptr_inv
        exact ⟨d, k, hv1, Nat.le_of_lt hd, hI.frames d F hF k _ hl, .inr ⟨rfl, rfl, hd, F, hF, hl⟩⟩
      · cases h
    · cases h
  | _ => cases h

theorem RV.loaded {E : Env} {s : Src} {p : PV} {v : Value} (h : RV E p v) : RV E (loaded s p) v := by
  cases p with
  | sl f z es =>
    cases f with
    | own => exact .pure (h.sl_inv.reflag (by simp))
    | _ => exact h.dem
  | _ => exact h.dem
theorem ownSub_loaded {D : List Nat} {s : Src} {p : PV} : ownSub D (loaded s p) = ownSub D p := by
  cases p with
  | sl f z es => cases f <;> rfl
  | _ => rfl
theorem ownSub_dem {D : List Nat} {p : PV} : ownSub D (dem p) = ownSub D p := by
  cases p with
  | sl f z es => cases f <;> rfl
  | _ => rfl
theorem noFlag_dem (p : PV) : noFlag (dem p) = true := by
  cases p with
  | sl f z es => cases f <;> rfl
  | _ => rfl
theorem loaded_cases (s : Src) (p : PV) : noFlag (loaded s p) = true ∨ ∃ z es, p = .sl .own z es ∧ loaded s p = .sl (.al s) z es := by
  cases p with
  | sl f z es =>
    cases f with
    | own => exact .inr ⟨z, es, rfl, rfl⟩
    | _ => exact .inl rfl
  | _ => exact .inl rfl

theorem run_loadCells' {w : World} {b o : Nat} {vs : List Value} {n : Nat} (h : ∀ j v, vs[j]? = some v → w.cell? ⟨b, o + j, none⟩ = some v) (hn : vs.length = n) :
    (loadCells ⟨b, o, none⟩ n).run P w = .ok ⟨vs⟩ w := by
  subst hn
  have := run_loadCells_list (P := P) w ⟨b, o, none⟩ vs (fun j v hv => by rw [addr_add]; exact h j v hv)
  simpa using this

/-- Cells in a row, read. -/
theorem RC.all {w : World} {σ : Seal} {b : Nat} : ∀ {o : Nat} {ps : List PV}, RC w σ b o ps → ∃ vs, RPs w σ ps vs ∧ ∀ j v, vs[j]? = some v → w.cell? ⟨b, o + j, none⟩ = some v
  | _, _, .nil b o => ⟨[], .nil, fun j v h => by simp at h⟩
  | o, _, .cons (v := v) ho hc hp hs => by
    obtain ⟨vs, h1, h2⟩ := hs.all
    refine ⟨v :: vs, .cons hp h1, ?_⟩
    intro j u hj
    cases j with
    | zero => simp at hj; subst hj; exact hc
    | succ j =>
      have := h2 j u (by simpa using hj)
      rw [← this]; congr 2; omega

theorem RC.sub' {w : World} {σ : Seal} {b : Nat} {o : Nat} {ps : List PV} (h : RC w σ b o ps) (l n : Nat) : RC w σ b (o + (ps.take l).length) ((ps.drop l).take n) := by
  have e := List.take_append_drop l ps
  rw [← e] at h
  have h2 := h.append_inv.2
  have e2 := List.take_append_drop n (ps.drop l)
  rw [← e2] at h2
  exact h2.append_inv.1

mutual
theorem RP.pf {w : World} {σ : Seal} : ∀ {p : PV} {v : Value}, RP w σ p v → pf p = true
  | _, _, .undef v => rfl
  | _, _, .sc v => rfl
  | _, _, .agg hs => by simp only [Go.Fw.pf]; exact RPs.pfs hs
  | _, _, .tup hs => by simp only [Go.Fw.pf]; exact RPs.pfs hs
  | _, _, .nil f z => rfl
  | _, _, .mt _ _ _ _ => rfl
  | _, _, .sl _ _ _ _ => rfl
  | _, _, .clo ha hb => by simp only [Go.Fw.pf, Bool.and_eq_true]; exact ⟨RPs.pfs ha, RPs.pfs hb⟩
theorem RPs.pfs {w : World} {σ : Seal} : ∀ {ps : List PV} {vs : List Value}, RPs w σ ps vs → pfs ps = true
  | _, _, .nil => rfl
  | _, _, .cons hp hs => by simp only [Go.Fw.pfs, Bool.and_eq_true]; exact ⟨RP.pf hp, RPs.pfs hs⟩
end
mutual
theorem ownSub_pf {D : List Nat} : ∀ p : PV, pf p = true → ownSub D p = true
  | .agg cs, h => by simp only [pf] at h; simp only [ownSub]; exact ownSubs_pfs cs h
  | .tup cs, h => by simp only [pf] at h; simp only [ownSub]; exact ownSubs_pfs cs h
  | .clo _ a b, h => by
    simp only [pf, Bool.and_eq_true] at h
    simp only [ownSub, Bool.and_eq_true]
    exact ⟨ownSubs_pfs a h.1, ownSubs_pfs b h.2⟩
  | .own .., h => by simp [pf] at h
  | .fresh _, h => by simp [pf] at h
  | .undef, _ | .sc _, _ | .sl .., _ | .ptr .., _ | .elp .., _ => rfl
theorem ownSubs_pfs {D : List Nat} : ∀ ps : List PV, pfs ps = true → ownSubs D ps = true
  | [], _ => rfl
  | p :: ps, h => by
    simp only [pfs, Bool.and_eq_true] at h
    simp only [ownSubs, Bool.and_eq_true]
    exact ⟨ownSub_pf p h.1, ownSubs_pfs ps h.2⟩
end

theorem o_load {st st' : FS Ω} {a : Act} {E : Env} {τ : Nat → Tag} (hI : Inv O N st a E τ) {go : Oper} {t : TypeId} {x : Operand} {y : Opd} {n : Option Nat} (hop : go.op = .load t x)
    (hd : ∀ d, go.dst = some d → d < N) (hn : isN (shapeOf P t) n = true) (hx : chkO x y = true) {p : PV} (h : st.loadV n (st.rd y) = some p) (hst : st' = st.put go.dst p) : OpOK P O N st' a E τ go := by
  have hv := chkO_RV hI hx
  have hrun : ∀ {ad : Addr} {v : Value}, a.eval x = .pointer (some ad) → (loadVar t ad).run P E.w = .ok v E.w → Yields P a go E.w v := by
    intro ad v he hl
    refine yields_of (s := Instr.loadAt t (a.eval x)) (by simp only [execOp, hop]) ?_
    rw [he]
    simp [Instr.loadAt, Instr.sureAddr, hl]
  have hN := isN_eq hn
  subst hst
  generalize hq : st.rd y = q at h hv
  by_cases hel : ∃ z es i off, q = .elp z es i off
  · obtain ⟨z, es, i, off, rfl⟩ := hel
    obtain ⟨b, o, he, hi, hok, hrc⟩ := hv.elp_inv
    simp only [FS.loadV] at h
    split at h
    · rename_i cs hcs
      have hel := RC.elem hok hrc hcs
      have hno : noFlag p = true := part_flag h
      have hcell : ∃ v, (loadVar t ⟨b, o + i * z + off, none⟩).run P E.w = .ok v E.w ∧ RV E p v ∧ ownSub [] p = true := by
        obtain ⟨vs, hvs, hall⟩ := hel.all
        have hpo : ownSub [] p = true := by
          refine part_own ?_ h
          exact ownSubs_pfs _ hvs.pfs
        cases n with
        | none =>
          obtain ⟨_, _, _, _, _, ha, _⟩ := shape_none E.w hN
          simp only [Go.Fw.part, Option.map_eq_some_iff] at h
          obtain ⟨q, hq, rfl⟩ := h
          obtain ⟨v, hv1, hv2⟩ := hel.cell hq
          exact ⟨v, by simp [loadVar, ha, hv1], (RV.pure hv2).dem, hpo⟩
        | some n =>
          obtain ⟨_, _, _, _, _, ha, hs⟩ := shape_some E.w hN
          simp only [Go.Fw.part] at h
          split at h
          · rename_i hle
            simp only [Option.some.injEq] at h
            subst h
            obtain ⟨us, hus, hall⟩ := (hel.sub' off n).all
            have hle := Nat.le_of_ble_eq_true hle
            have hlen : us.length = n := by rw [hus.length]; simp; omega
            have htl : (cs.take off).length = off := by simp; omega
            rw [htl] at hall
            refine ⟨.agg ⟨us⟩, ?_, .agg (RVs.of_RPs hus).canons, hpo⟩
            have := run_loadCells' (P := P) hall hlen
            simp [loadVar, ha, hs, this]
          · cases h
      obtain ⟨v, h1, h2, h3⟩ := hcell
      exact opOK_yields (hrun he h1) (hI.putPlain hd h2 (ownSub_mono (fun k hk => by cases hk) _ h3) hno)
    · cases h
  · have hbox : ∃ cs off src, st.box? q = some (cs, off, src) ∧ ((n = none ∧ (cs[off]?).map (loaded (src off)) = some p) ∨ ∃ m, n = some m ∧ Go.Fw.part (some m) off cs = some p) := by
      cases q with
      | elp z es i off => exact absurd ⟨z, es, i, off, rfl⟩ hel
      | _ =>
        simp only [FS.loadV] at h
        split at h
        · rename_i cs off src hb
          refine ⟨cs, off, src, hb, ?_⟩
          cases n with
          | none => exact .inl ⟨rfl, h⟩
          | some m => exact .inr ⟨m, rfl, h⟩
        · cases h
    obtain ⟨cs, off, src, hb, hp⟩ := hbox
    obtain ⟨d, k, he, hdme, hc, hcase⟩ := box_ok hI hv hb
    obtain ⟨_, _, ho, vs, ty, hh, hvs, _⟩ := hc
    have hcellj : ∀ j v, vs[j]? = some v → E.w.cell? ⟨E.μ d k, j, none⟩ = some v := by
      intro j v hj
      rw [cell_of_row E.w _ j ⟨vs⟩ ty (0, 0) hh]
      simpa using hj
    rcases hp with ⟨rfl, hp⟩ | ⟨n, rfl, hp⟩
    · obtain ⟨_, _, _, _, _, ha, _⟩ := shape_none E.w hN
      simp only [Option.map_eq_some_iff] at hp
      obtain ⟨u, hu, rfl⟩ := hp
      obtain ⟨v, hv1, hv2⟩ := hvs.get hu
      have hc1 := hcellj off v hv1
      have huo := ownSubs_get ho hu
      have hvu : RV E u v := RV.inner hdme hv2 huo
      have hy : Yields P a go E.w v := hrun he (by simp [loadVar, ha, hc1])
      refine opOK_yields hy ?_
      have hown : ownSub (keys st.L) (loaded (src off) u) = true := by rw [ownSub_loaded]; exact ownSub_mono (fun k hk => by cases hk) _ huo
      rcases loaded_cases (src off) u with hno | ⟨z, es, rfl, hl⟩
      · exact hI.putPlain hd hvu.loaded hown hno
      · refine hI.put hd hvu.loaded hown (by rw [hl]; rfl) ?_ ?_ ?_ ?_
        · intro _ x z' es' hx
          rw [hl] at hx
          rcases hcase with ⟨_, _, rfl, _⟩ | ⟨_, rfl, _⟩ <;> cases hx
        · intro _ k' off' z' es' cs' z'' es'' hx hl' _
          rw [hl] at hx
          rcases hcase with ⟨_, rfl, rfl, _⟩ | ⟨_, rfl, _⟩
          · injection hx with hx; injection hx with hx; injection hx with h1 h2; subst h1 h2; exact hc1
          · cases hx
        · intro _ d' k' off' z' es' F cs' z'' es'' hx hF hl' _
          rw [hl] at hx
          rcases hcase with ⟨_, rfl, rfl, _⟩ | ⟨_, rfl, _⟩
          · cases hx
          · injection hx with hx; injection hx with hx; injection hx with h1 h2 h3; subst h1 h2 h3; exact hc1
        · intro x z' es' hx
          rw [hl] at hx
          rcases hcase with ⟨_, _, rfl, _⟩ | ⟨_, rfl, _⟩ <;> cases hx
    · obtain ⟨_, _, _, _, _, ha, hs⟩ := shape_some E.w hN
      have hno : noFlag p = true := part_flag hp
      have hpo : ownSub [] p = true := part_own ho hp
      simp only [Go.Fw.part] at hp
      split at hp
      · rename_i hle
        have hle := Nat.le_of_ble_eq_true hle
        simp only [Option.some.injEq] at hp
        have hlen : ((vs.drop off).take n).length = n := by have := hvs.length; simp; omega
        have hall : ∀ j v, ((vs.drop off).take n)[j]? = some v → E.w.cell? ⟨E.μ d k, off + j, none⟩ = some v := by
          intro j v hj
          refine hcellj (off + j) v ?_
          rw [List.getElem?_take] at hj
          split at hj
          · rw [List.getElem?_drop] at hj; exact hj
          · cases hj
        have hl := run_loadCells' (P := P) hall hlen
        have hrel : RV E p (.agg ⟨(vs.drop off).take n⟩) := by
          have h1 : RV { E with me := d } p (.agg ⟨(vs.drop off).take n⟩) := by rw [← hp]; exact .agg ((hvs.drop off).take n).canons
          exact RV.inner hdme h1 hpo
        refine opOK_yields (v := .agg ⟨(vs.drop off).take n⟩) (hrun he (by simp [loadVar, ha, hs, hl])) ?_
        exact hI.putPlain hd hrel (ownSub_mono (fun k hk => by cases hk) _ hpo) hno
      · cases hp

/-- A slot is copied. -/
theorem o_mv {st st' : FS Ω} {a : Act} {E : Env} {τ : Nat → Tag} (hI : Inv O N st a E τ) {go : Oper} {t t' : Nat} (hop : go.op = .move (.tmp t)) (htt : t = t')
    (hd : ∀ d, go.dst = some d → d < N) (hst : st' = st.put go.dst (aliased (.slot t') (st.rd (.t t')))) : OpOK P O N st' a E τ go := by
  subst htt hst
  have hv := hI.slots t
  have hw := hI.wfs t
  refine opOK_yields (v := a.tmps.getD t Go.undef) ?_ ?_
  · simp only [Yields, execOp, hop]; rfl
  · show Inv O N (st.put go.dst (aliased (.slot t) (getS st.sl t))) _ _ _
    generalize hp : getS st.sl t = p at hv hw
    have ho : ownSub (keys st.L) (aliased (.slot t) p) = true := by
      cases p with
      | sl f z es => cases f <;> rfl
      | _ => exact hw
    refine hI.put hd hv.aliased ho ?_ ?_ ?_ ?_ ?_
    · cases p with
      | sl f z es => cases f <;> rfl
      | _ => rfl
    · intro hdirty x z es hx hown
      cases p with
      | sl f z' es' =>
        cases f with
        | own => simp only [aliased] at hx; injection hx with hx; injection hx with hx; injection hx with hx; rw [← hx]
        | al s =>
          simp only [aliased] at hx
          rw [← hp] at hx
          exact hI.alSlot hdirty t x z es hx hown
        | _ => cases hx
      | _ => cases hx
    · intro hdirty k off z es cs z' es' hx hl hcs
      cases p with
      | sl f z' es' =>
        cases f with
        | own => simp only [aliased] at hx; injection hx with hx; injection hx with hx; cases hx
        | al s =>
          simp only [aliased] at hx
          rw [← hp] at hx
          exact hI.alCell hdirty t k off z es cs _ _ hx hl hcs
        | _ => cases hx
      | _ => cases hx
    · intro hdirty d k off z es F cs z' es' hx hF hl hcs
      cases p with
      | sl f z' es' =>
        cases f with
        | own => simp only [aliased] at hx; injection hx with hx; injection hx with hx; cases hx
        | al s =>
          simp only [aliased] at hx
          rw [← hp] at hx
          exact hI.alOut hdirty t d k off z es F cs _ _ hx hF hl hcs
        | _ => cases hx
      | _ => cases hx
    · intro x z es hx
      cases p with
      | sl f z' es' =>
        cases f with
        | own =>
          simp only [aliased] at hx
          injection hx with hx; injection hx with hx; injection hx with hx
          subst hx
          unfold getS at hp
          cases hq : look st.sl t with
          | none => rw [hq] at hp; cases hp
          | some u => exact ⟨u, rfl⟩
        | al s =>
          simp only [aliased] at hx
          rw [← hp] at hx
          exact hI.alP t x z es hx
        | _ => cases hx
      | _ => cases hx
end Go.Fw
end
section
/- What one operation does, IX: rights that move, stores. -/
namespace Go.Fw
variable {Ω : Type} {O : OpqSem Ω} {N : Nat} {P : Program}

/-- As 'Calm', but that what bears a tag of 'X' may change. -/
structure CalmX (X : Tag → Prop) (E E' : Env) (τ τ' : Nat → Tag) : Prop where
  ext : FExt E.w E.σ τ E'.w E'.σ τ'
  me : E'.me = E.me
  fr : E'.fr = E.fr
  μ : ∀ d k, E'.μ d k = E.μ d k
  held : ∀ b, b < E.w.heap.size → τ b ≠ .frn → ¬ X (τ b) → E'.w.heap[b]? = E.w.heap[b]? ∧ τ' b = τ b ∧ E'.σ b = E.σ b
  fresh : ∀ b, E'.w.heap.size ≤ b → E'.σ b = 0 ∧ τ' b = .frn

theorem CalmX.step {X : Tag → Prop} {E E' : Env} {τ τ' : Nat → Tag} (h : CalmX X E E' τ τ') : Step E E' τ τ' := ⟨h.ext, h.me, h.fr, fun d k _ => h.μ d k⟩

theorem Right.calmX {X : Tag → Prop} {E E' : Env} {τ τ' : Nat → Tag} (hC : CalmX X E E' τ τ') {g : Tag} (hg : g ≠ .frn) (hX : ¬ X g) {z : Nat} {es : List (List PV)} {v : Value}
    (h : Right E.w E.σ τ g z es v) : Right E'.w E'.σ τ' g z es v := by
  rcases h with h | ⟨b, cap, c, ty, hv, hτ, hσ, hh, hc⟩
  · exact .inl h
  · have hb := lt_of_some hh
    obtain ⟨h1, h2, h3⟩ := hC.held b hb (by rw [hτ]; exact hg) (by rw [hτ]; exact hX)
    exact .inr ⟨b, cap, c, ty, hv, h2.trans hτ, h3.trans hσ, h1.trans hh, hc⟩

theorem CelRel.calmX {X : Tag → Prop} {E E' : Env} {τ τ' : Nat → Tag} (hC : CalmX X E E' τ τ') {d k : Nat} {c : Cel Ω} (hb : ¬ X (.box d k)) (ho : ¬ X (.opq d k))
    (hX : ∀ cs, c = .box cs → ∀ off z es, cs[off]? = some (PV.sl .own z es) → ¬ X (.cell d k off)) (h : CelRel O E τ d k c) : CelRel O E' τ' d k c := by
  cases c with
  | box cs =>
    obtain ⟨h1, h2, h3, vs, ty, h4, h5, h6⟩ := h
    have hlt := lt_of_some h4
    obtain ⟨k1, k2, k3⟩ := hC.held _ hlt (by rw [h1]; intro h; cases h) (by rw [h1]; exact hb)
    refine ⟨by rw [hC.μ]; exact k2.trans h1, by rw [hC.μ]; exact k3.trans h2, h3, vs, ty, by rw [hC.μ]; exact k1.trans h4, ?_, ?_⟩
    · exact RVs.mono (E := { E with me := d }) (E' := { E' with me := d }) hC.ext.sext (fun d k _ => hC.μ d k) rfl hC.fr h5
    · intro off z es ho
      obtain ⟨v, hv, hr⟩ := h6 off z es ho
      exact ⟨v, hv, hr.calmX hC (by intro h; cases h) (hX cs rfl off z es ho)⟩
  | opq x =>
    obtain ⟨foot, hx, hf⟩ := h
    have hk : ∀ b, foot b → E'.w.heap[b]? = E.w.heap[b]? ∧ τ' b = τ b ∧ E'.σ b = E.σ b := fun b hb =>
      hC.held b (O.there hx hb) (by rw [(hf b hb).1]; intro h; cases h) (by rw [(hf b hb).1]; exact ho)
    refine ⟨foot, ?_, fun b hb => ?_⟩
    · rw [hC.μ]; exact O.keep hx hC.ext.sext (fun b hb => (hk b hb).1)
    · obtain ⟨_, k2, k3⟩ := hk b hb
      exact ⟨k2.trans (hf b hb).1, k3.trans (hf b hb).2⟩

/-- Nothing of the frame leans on a tag of 'X'. -/
structure Free (X : Tag → Prop) (st : FS Ω) (me : Nat) : Prop where
  slot : ∀ t, X (.slot t) → isOwn (getS st.sl t) = false
  mine : ∀ k cs, look st.L k = some (.box cs) → ∀ (off z : Nat) (es : List (List PV)), cs[off]? = some (PV.sl .own z es) → ¬ X (.cell me k off)
  outer : ∀ d F, st.S[d]? = some F → ∀ k cs, look F k = some (.box cs) → ∀ (off z : Nat) (es : List (List PV)), cs[off]? = some (PV.sl .own z es) → ¬ X (.cell d k off)
  box : ∀ d k, ¬ X (.box d k)
  opq : ∀ d k, ¬ X (.opq d k)

theorem Inv.calmX {X : Tag → Prop} {st : FS Ω} {a : Act} {E E' : Env} {τ τ' : Nat → Tag} (hI : Inv O N st a E τ) (hF : Free X st E.me) (hC : CalmX X E E' τ τ') : Inv O N st a E' τ' := by
  have hme := hC.me
  constructor
  · rw [hme]; exact hI.me
  · exact hI.defers
  · exact hI.size
  · intro t; exact RV.mono hC.ext.sext (fun d k _ => hC.μ d k) hme hC.fr (hI.slots t)
  · intro d F hS k c hc
    exact (hI.frames d F hS k c hc).calmX hC (hF.box _ _) (hF.opq _ _) (fun cs e off z es ho => hF.outer d F hS k cs (by rw [← e]; exact hc) off z es ho)
  · intro k c hc
    have h := (hI.mine k c hc).calmX hC (hF.box _ _) (hF.opq _ _) (fun cs e off z es ho => hF.mine k cs (by rw [← e]; exact hc) off z es ho)
    rw [hme]; exact h
  · exact hI.wfs
  · intro t z es hp
    refine (hI.rights t z es hp).calmX hC (by intro h; cases h) (fun hX => ?_)
    have := hF.slot t hX
    rw [hp] at this; cases this
  · exact hI.alSlot
  · intro hdirty t k off z es cs z' es' hp hl hcs
    have h := hI.alCell hdirty t k off z es cs z' es' hp hl hcs
    have hb := block_lt_of_cell h
    rw [hme, hC.μ]
    obtain ⟨h1, _, _, vs, ty, h4, _⟩ := hI.mine k _ hl
    obtain ⟨k1, _, _⟩ := hC.held _ hb (by rw [h1]; intro h; cases h) (by rw [h1]; exact hF.box _ _)
    rw [World.cell?_of_block (w := E.w) k1]; exact h
  · intro hdirty t d k off z es F cs z' es' hp hS hl hcs
    have h := hI.alOut hdirty t d k off z es F cs z' es' hp hS hl hcs
    have hb := block_lt_of_cell h
    rw [hC.μ]
    obtain ⟨h1, _, _, vs, ty, h4, _⟩ := hI.frames d F hS k _ hl
    obtain ⟨k1, _, _⟩ := hC.held _ hb (by rw [h1]; intro h; cases h) (by rw [h1]; exact hF.box _ _)
    rw [World.cell?_of_block (w := E.w) k1]; exact h
  · exact hC.fresh
  · exact hI.alP

theorem Inv.toDirty {st : FS Ω} {a : Act} {E : Env} {τ : Nat → Tag} (hI : Inv O N st a E τ) : Inv O N { st with dirty := true } a E τ :=
  ⟨hI.me, hI.defers, hI.size, hI.slots, hI.frames, hI.mine, hI.wfs, hI.rights, (fun h => by cases h), (fun h => by cases h), (fun h => by cases h), hI.fresh, hI.alP⟩

/-- A slot's right ends. -/
theorem Inv.demote {st : FS Ω} {a : Act} {E : Env} {τ : Nat → Tag} (hI : Inv O N st a E τ) {t : Nat} {z : Nat} {es : List (List PV)} {f : Fl} (ht : getS st.sl t = .sl f z es) :
    Inv O N { st with sl := ins st.sl t (.sl .no z es) } a E τ := by
  have hg := getS_ins st.sl t (.sl .no z es)
  constructor
  · exact hI.me
  · exact hI.defers
  · exact hI.size
  · intro x
    show RV E (getS (ins st.sl t (.sl .no z es)) x) _
    rw [hg]
    by_cases h : x = t
    · rw [if_pos h]
      have := hI.slots t
      rw [ht] at this
      rw [h]
      exact .pure (this.sl_inv.reflag (by simp))
    · rw [if_neg h]; exact hI.slots x
  · exact hI.frames
  · exact hI.mine
  · intro x
    show ownSub _ (getS (ins st.sl t (.sl .no z es)) x) = true
    rw [hg]
    by_cases h : x = t
    · rw [if_pos h]; rfl
    · rw [if_neg h]; exact hI.wfs x
  · intro x z' es' hp
    have hp : getS (ins st.sl t (.sl .no z es)) x = _ := hp
    rw [hg] at hp
    by_cases h : x = t
    · rw [if_pos h] at hp; cases hp
    · rw [if_neg h] at hp; exact hI.rights x z' es' hp
  · intro hdirty x y z' es' hp ho
    have hp : getS (ins st.sl t (.sl .no z es)) x = _ := hp
    have ho : isOwn (getS (ins st.sl t (.sl .no z es)) y) = true := ho
    rw [hg] at hp ho
    by_cases h : x = t
    · rw [if_pos h] at hp; cases hp
    · rw [if_neg h] at hp
      by_cases h2 : y = t
      · rw [if_pos h2] at ho; cases ho
      · rw [if_neg h2] at ho; exact hI.alSlot hdirty x y z' es' hp ho
  · intro hdirty x k off z' es' cs z'' es'' hp hl hcs
    have hp : getS (ins st.sl t (.sl .no z es)) x = _ := hp
    rw [hg] at hp
    by_cases h : x = t
    · rw [if_pos h] at hp; cases hp
    · rw [if_neg h] at hp; exact hI.alCell hdirty x k off z' es' cs z'' es'' hp hl hcs
  · intro hdirty x d k off z' es' F cs z'' es'' hp hF hl hcs
    have hp : getS (ins st.sl t (.sl .no z es)) x = _ := hp
    rw [hg] at hp
    by_cases h : x = t
    · rw [if_pos h] at hp; cases hp
    · rw [if_neg h] at hp; exact hI.alOut hdirty x d k off z' es' F cs z'' es'' hp hF hl hcs
  · exact hI.fresh
  · intro x y z' es' hp
    have hp : getS (ins st.sl t (.sl .no z es)) x = _ := hp
    rw [hg] at hp
    by_cases h : x = t
    · rw [if_pos h] at hp; cases hp
    · rw [if_neg h] at hp; exact look_ins_some t _ (hI.alP x y z' es' hp)

def retag (τ : Nat → Tag) (t : Nat) (g : Tag) : Nat → Tag := fun b => if τ b = .slot t then g else τ b

theorem calmX_retag {E : Env} {τ : Nat → Tag} (hf : ∀ b, E.w.heap.size ≤ b → E.σ b = 0 ∧ τ b = .frn) (t : Nat) (g : Tag) : CalmX (· = .slot t) E E τ (retag τ t g) := by
  refine ⟨⟨Nat.le_refl _, .refl _ _, fun b _ h => ⟨rfl, ?_, rfl⟩, rfl, rfl, rfl, Nat.le_refl _⟩, rfl, rfl, fun _ _ => rfl, fun b _ _ hX => ⟨rfl, if_neg hX, rfl⟩, fun b hb => ⟨(hf b hb).1, ?_⟩⟩
  · unfold retag; rw [h, if_neg (by intro h; cases h)]
  · unfold retag; rw [(hf b hb).2, if_neg (by intro h; cases h)]

theorem free_slot {st : FS Ω} {me t : Nat} (h : isOwn (getS st.sl t) = false) : Free (· = .slot t) st me :=
  ⟨fun x hx => by injection hx with hx; rw [hx]; exact h, (fun _ _ _ _ _ _ _ h => by cases h), (fun _ _ _ _ _ _ _ _ _ _ h => by cases h), (fun _ _ h => by cases h), (fun _ _ h => by cases h)⟩

/-- A right leaves its slot. -/
theorem Inv.lose {st : FS Ω} {a : Act} {E : Env} {τ : Nat → Tag} (hI : Inv O N st a E τ) {t : Nat} {z : Nat} {es : List (List PV)} (ht : getS st.sl t = .sl .own z es) (g : Tag) :
    Inv O N { st with sl := ins st.sl t (.sl .no z es) } a E (retag τ t g) ∧ Step E E τ (retag τ t g) ∧ Right E.w E.σ (retag τ t g) g z es (a.tmps.getD t Go.undef) := by
  have hC := calmX_retag (E := E) (τ := τ) hI.fresh t g
  refine ⟨(hI.demote ht).calmX (X := (· = .slot t)) (free_slot ?_) hC, hC.step, ?_⟩
  · show isOwn (getS (ins st.sl t (.sl .no z es)) t) = false
    rw [getS_ins, if_pos rfl]; rfl
  · rcases hI.rights t z es ht with h | ⟨b, cap, c, ty, hv, hτ, hσ, hh, hc⟩
    · exact .inl h
    · exact .inr ⟨b, cap, c, ty, hv, if_pos hτ, hσ, hh, hc⟩

theorem chkO_own_t {x : Operand} {y : Opd} {st : FS Ω} (h : chkO x y = true) (ho : isOwn (st.rd y) = true) : ∃ t, x = .tmp t ∧ y = .t t := by
  unfold chkO at h
  split at h
  · rw [Nat.eq_of_beq_eq_true h]; exact ⟨_, rfl, rfl⟩
  · cases ho
  · have := (chkV_flag h).1
    rename_i p
    have ho : isOwn p = true := ho
    cases p with
    | sl f z es => cases f <;> first | cases ho; done | cases this
    | _ => cases ho
  · cases h

theorem isOwn_eq {p : PV} (h : isOwn p = true) : ∃ z es, p = .sl .own z es := by
  cases p with
  | sl f z es => cases f <;> first | exact ⟨z, es, rfl⟩ | cases h
  | _ => cases h

theorem moved_plain {p : PV} (h : isOwn p = false) : noFlag (moved p) = true ∧ ∀ D, ownSub D (moved p) = ownSub D p := by
  cases p with
  | sl f z es => cases f <;> first | exact ⟨rfl, fun _ => rfl⟩ | cases h
  | _ => exact ⟨rfl, fun _ => rfl⟩

theorem lose_own {st : FS Ω} {t : Nat} {z : Nat} {es : List (List PV)} (h : getS st.sl t = .sl .own z es) : st.lose (.t t) = { st with sl := ins st.sl t (.sl .no z es) } := by
  unfold FS.lose; simp only [h]

theorem o_asg {st : FS Ω} {a : Act} {E : Env} {τ : Nat → Tag} (hI : Inv O N st a E τ) {go : Oper} {x : Operand} {y : Opd} (hop : go.op = .assign x) (hx : chkO x y = true) (hd : ∀ d, go.dst = some d → d < N) :
    OpOK P O N { (if isOwn (st.rd y) then st.lose y else st).put go.dst (moved (st.rd y)) with dirty := true } a E τ go := by
  have hrun : (execOp a.eval go).run P E.w = .ok (.value (a.eval x)) E.w := by simp only [execOp, hop]; rfl
  cases ho : isOwn (st.rd y) with
  | false =>
    simp only [Bool.false_eq_true, if_false]
    obtain ⟨h1, h2⟩ := moved_plain ho
    have h := (hI.putPlain hd (chkO_RV hI hx).moved (by rw [h2]; exact chkO_own hI hx) h1).toDirty
    exact opOK_value hrun h (.refl E τ)
  | true =>
    simp only [if_true]
    obtain ⟨t, rfl, rfl⟩ := chkO_own_t hx ho
    obtain ⟨z, es, hz⟩ := isOwn_eq ho
    have hz' : getS st.sl t = .sl .own z es := hz
    rw [hz, lose_own hz']
    cases hdst : go.dst with
    | none =>
      refine opOK_value (E' := E) (τ' := τ) (v := a.eval (.tmp t)) hrun ?_ (.refl E τ)
      rw [hdst]
      exact (hI.demote hz').toDirty
    | some d =>
      obtain ⟨h1, h2, h3⟩ := hI.lose hz' (.slot d)
      refine opOK_value (E' := E) (v := a.eval (.tmp t)) hrun ?_ h2
      rw [hdst]
      have hv := hI.slots t
      rw [hz'] at hv
      exact h1.toDirty.putOwn (hd d hdst) hv h3 (fun h => by cases h)
end Go.Fw
end
section
/- What one operation does, X: stores. -/
namespace Go.Fw
variable {Ω : Type} {O : OpqSem Ω} {N : Nat} {P : Program}

/-- Where the frame's box lies: its own, or an outer frame's; and the frame behind a change of it. -/
def BoxAt (st st' : FS Ω) (me d k : Nat) (cs cs' : List PV) : Prop :=
  (d = me ∧ look st.L k = some (.box cs) ∧ st' = { st with L := ins st.L k (.box cs') }) ∨
  (∃ F, d < me ∧ st.S[d]? = some F ∧ look F k = some (.box cs) ∧ st' = { st with S := st.S.set d (ins F k (.box cs')) })

theorem calmX_setRow {E : Env} {τ : Nat → Tag} (hf : ∀ b, E.w.heap.size ≤ b → E.σ b = 0 ∧ τ b = .frn) {g : Nat} {T : Tag} (hT : T ≠ .frn) (hg : τ g = T) (hs : E.σ g = 0) (cs : Array Value) :
    CalmX (· = T) E { E with w := E.w.setRow g cs } τ τ := by
  refine ⟨⟨Nat.le_of_eq (setRow_size _ _ _).symm, ⟨fun _ => Nat.le_refl _, ?_⟩, ?_, rfl, rfl, rfl, Nat.le_refl _⟩, rfl, rfl, fun _ _ => rfl, ?_, ?_⟩
  · intro b o ho
    refine cell_setRow_other _ _ _ _ ?_
    rintro rfl
    rw [hs] at ho; omega
  · intro b hb hτ
    refine ⟨setRow_other _ _ _ _ ?_, hτ, rfl⟩
    rintro rfl
    rw [hg] at hτ; exact hT hτ
  · intro b hb hτ hX
    refine ⟨setRow_other _ _ _ _ ?_, rfl, rfl⟩
    rintro rfl
    exact hX hg
  · intro b hb
    exact hf b (by rw [← setRow_size E.w g cs]; exact hb)

/-- A box is written. -/
theorem Inv.setBox {st st' : FS Ω} {a : Act} {E : Env} {τ : Nat → Tag} (hI : Inv O N st a E τ) (hdirty : st.dirty = true) {d k : Nat} {cs cs' : List PV} (hB : BoxAt st st' E.me d k cs cs') {vs' : List Value}
    (hrel : RVs { E with me := d } cs' vs') (ho : ownSubs [] cs' = true) (hr : ∀ off z es, cs'[off]? = some (PV.sl .own z es) → ∃ v, vs'[off]? = some v ∧ Right E.w E.σ τ (.cell d k off) z es v) :
    Inv O N st' a { E with w := E.w.setRow (E.μ d k) ⟨vs'⟩ } τ ∧ Step E { E with w := E.w.setRow (E.μ d k) ⟨vs'⟩ } τ τ := by
  have hc : CelRel O E τ d k (.box cs) := by
    rcases hB with ⟨rfl, hl, _⟩ | ⟨F, _, hF, hl, _⟩
    · exact hI.mine k _ hl
    · exact hI.frames d F hF k _ hl
  obtain ⟨h1, h2, _, vs, ty, h4, _, _⟩ := hc
  have hC := calmX_setRow (E := E) (τ := τ) hI.fresh (T := .box d k) (by intro h; cases h) h1 h2 ⟨vs'⟩
  refine ⟨?_, hC.step⟩
  have hnew : CelRel O { E with w := E.w.setRow (E.μ d k) ⟨vs'⟩ } τ d k (.box cs') := by
    refine ⟨h1, h2, ho, vs', ty, setRow_heap E.w _ _ _ _ _ h4, ?_, ?_⟩
    · exact RVs.mono (E := { E with me := d }) (E' := { E with w := E.w.setRow (E.μ d k) ⟨vs'⟩, me := d }) hC.ext.sext (fun _ _ _ => rfl) rfl rfl hrel
    · intro off z es he
      obtain ⟨v, hv, hR⟩ := hr off z es he
      exact ⟨v, hv, hR.calmX hC (by intro h; cases h) (by intro h; cases h)⟩
  have hold : ∀ {d' k' : Nat} {c : Cel Ω}, (d', k') ≠ (d, k) → CelRel O E τ d' k' c → CelRel O { E with w := E.w.setRow (E.μ d k) ⟨vs'⟩ } τ d' k' c := by
    intro d' k' c hne h
    refine h.calmX hC ?_ ?_ ?_
    · intro h; injection h with h1 h2; exact hne (by rw [h1, h2])
    · intro h; cases h
    · intro _ _ _ _ _ _ h; cases h
  have hdirty' : st'.dirty = true := by rcases hB with ⟨_, _, rfl⟩ | ⟨F, _, _, _, rfl⟩ <;> exact hdirty
  have hsl : st'.sl = st.sl := by rcases hB with ⟨_, _, rfl⟩ | ⟨F, _, _, _, rfl⟩ <;> rfl
  constructor
  · rcases hB with ⟨_, _, rfl⟩ | ⟨F, _, _, _, rfl⟩
    · exact hI.me
    · show E.me = (st.S.set d _).length
      rw [List.length_set]; exact hI.me
  · exact hI.defers
  · exact hI.size
  · intro t
    rw [hsl]
    exact RV.mono (E := E) (E' := { E with w := E.w.setRow (E.μ d k) ⟨vs'⟩ }) hC.ext.sext (fun _ _ _ => rfl) rfl rfl (hI.slots t)
  · intro d' F' hF' k' c hc
    rcases hB with ⟨rfl, _, rfl⟩ | ⟨F, hd, hF, _, rfl⟩
    · have hd' : d' < E.me := by rw [hI.me]; exact (List.getElem?_eq_some_iff.1 hF').1
      exact hold (fun h => by injection h with h; omega) (hI.frames d' F' hF' k' c hc)
    · have hF' : (st.S.set d (ins F k (.box cs')))[d']? = some F' := hF'
      rw [List.getElem?_set] at hF'
      by_cases hdd : d = d'
      · rw [if_pos hdd] at hF'
        split at hF'
        · injection hF' with hF'
          subst hF' hdd
          rw [look_ins] at hc
          by_cases hk : k' = k
          · rw [if_pos hk] at hc; injection hc with hc; subst hc hk; exact hnew
          · rw [if_neg hk] at hc
            exact hold (fun h => by injection h with _ h; exact hk h) (hI.frames d F hF k' c hc)
        · cases hF'
      · rw [if_neg hdd] at hF'
        exact hold (fun h => by injection h with h; exact hdd h.symm) (hI.frames d' F' hF' k' c hc)
  · intro k' c hc
    rcases hB with ⟨rfl, _, rfl⟩ | ⟨F, hd, hF, _, rfl⟩
    · have hc : look (ins st.L k (.box cs')) k' = some c := hc
      rw [look_ins] at hc
      by_cases hk : k' = k
      · rw [if_pos hk] at hc; injection hc with hc; subst hc hk; exact hnew
      · rw [if_neg hk] at hc
        exact hold (fun h => by injection h with _ h; exact hk h) (hI.mine k' c hc)
    · exact hold (fun h => by injection h with h _; exact absurd hd (by rw [← h]; exact Nat.lt_irrefl _)) (hI.mine k' c hc)
  · intro t
    rcases hB with ⟨rfl, _, rfl⟩ | ⟨F, hd, hF, _, rfl⟩
    · exact ownSub_mono (fun j hj => (hasN_ins st.L k _ j).2 (.inr hj)) _ (hI.wfs t)
    · exact hI.wfs t
  · intro t z es hp
    rw [hsl] at hp
    exact (hI.rights t z es hp).calmX hC (by intro h; cases h) (by intro h; cases h)
  · intro h; rw [hdirty'] at h; cases h
  · intro h; rw [hdirty'] at h; cases h
  · intro h; rw [hdirty'] at h; cases h
  · exact hC.fresh
  · rw [hsl]; exact hI.alP

theorem setVals_eq : ∀ (vs : List Value) (off : Nat) (ws : List Value), off + vs.length ≤ ws.length → setVals off vs ws = ws.take off ++ vs ++ ws.drop (off + vs.length)
  | [], off, ws, _ => by simp [setVals]
  | v :: vs, off, ws, h => by
    have h : off + 1 + vs.length ≤ (ws.set off v).length := by simp at h ⊢; omega
    rw [setVals, setVals_eq vs (off + 1) (ws.set off v) h]
    have := list_seg_step ws off v vs (by simp at h; omega)
    simp only [List.length_cons]
    rw [show off + (vs.length + 1) = off + 1 + vs.length by omega] 
    simpa [Nat.add_assoc, Nat.add_comm, Nat.add_left_comm] using this

theorem setCells_get : ∀ (vs : List PV) (off : Nat) (cs : List PV) (i : Nat) (p : PV), (setCells off vs cs)[i]? = some p → (∃ j, i = off + j ∧ vs[j]? = some p) ∨ ((∀ j, j < vs.length → i ≠ off + j) ∧ cs[i]? = some p)
  | [], off, cs, i, p, h => .inr ⟨fun j hj => absurd hj (Nat.not_lt_zero j), h⟩
  | v :: vs, off, cs, i, p, h => by
    rcases setCells_get vs (off + 1) (cs.set off v) i p h with ⟨j, rfl, hj⟩ | ⟨hj, hp⟩
    · exact .inl ⟨j + 1, by omega, by simpa using hj⟩
    · rw [List.getElem?_set] at hp
      by_cases hi : off = i
      · rw [if_pos hi] at hp
        split at hp
        · exact .inl ⟨0, by omega, by simpa using hp⟩
        · cases hp
      · rw [if_neg hi] at hp
        refine .inr ⟨fun j hj' => ?_, hp⟩
        cases j with
        | zero => omega
        | succ j =>
          have := hj j (by simpa using hj')
          omega
theorem setVals_get : ∀ (vs : List Value) (off : Nat) (cs : List Value) (i : Nat), (∀ j, j < vs.length → i ≠ off + j) → (setVals off vs cs)[i]? = cs[i]?
  | [], _, _, _, _ => rfl
  | v :: vs, off, cs, i, h => by
    rw [setVals, setVals_get vs (off + 1) (cs.set off v) i (fun j hj => by have := h (j + 1) (by simpa using hj); omega)]
    have := h 0 (by simp)
    rw [List.getElem?_set, if_neg (by omega)]
theorem setVals_get_in : ∀ (vs : List Value) (off : Nat) (cs : List Value) (j : Nat), j < vs.length → off + vs.length ≤ cs.length → (setVals off vs cs)[off + j]? = vs[j]?
  | [], _, _, _, h, _ => by simp at h
  | v :: vs, off, cs, 0, _, hl => by
    simp only [List.length_cons] at hl
    rw [setVals, setVals_get vs (off + 1) _ _ (fun j _ => by omega), Nat.add_zero, List.getElem?_set, if_pos rfl, if_pos (by omega)]; rfl
  | v :: vs, off, cs, j + 1, h, hl => by
    simp only [List.length_cons] at hl
    rw [setVals, show off + (j + 1) = off + 1 + j by omega, setVals_get_in vs (off + 1) (cs.set off v) j (by simpa using h) (by simp; omega)]; rfl

theorem cellsOK_one {E : Env} : ∀ {ps : List PV} {vs : List Value}, cellsOK ps = true → RVs E ps vs → ∀ v ∈ vs, v.oneCell' = true
  | [], _, _, .nil, v, hv => by cases hv
  | p :: ps, _, h, .cons hp hs, v, hv => by
    simp only [cellsOK, Bool.and_eq_true] at h
    cases hv with
    | head => exact (cellOK_one h.1 hp).1
    | tail _ hv => exact cellsOK_one h.2 hs v hv

theorem run_storeAt {w : World} {t : TypeId} {v : Value} {b off : Nat} {us vs : List Value} {ty : TypeId} (hv : v.cells = ⟨us⟩) (hs : (sizeOf t).run P w = .ok us.length w) (hh : w.heap[b]? = some (.cells ⟨vs⟩ ty (0, 0)))
    (hl : off + us.length ≤ vs.length) (h1 : ∀ v ∈ us, v.oneCell' = true) : (Instr.storeAt t (.pointer (some ⟨b, off, none⟩)) v).run P w = .ok () (w.setRow b ⟨setVals off us vs⟩) := by
  have h := run_storeCells_at (P := P) b off ty us 0 ⟨vs⟩ w hh (by simpa using hl) h1
  simp only [Nat.add_zero] at h
  rw [setVals_eq us off vs hl]
  simp [Instr.storeAt, Instr.sureAddr, storeVar, hv, hs, h]

theorem shape_size {w : World} {t : TypeId} {n : Option Nat} (h : isN (shapeOf P t) n = true) : (sizeOf t).run P w = .ok (n.getD 1) w := by
  have h := isN_eq h
  cases n with
  | none => obtain ⟨_, _, _, _, _, _, h⟩ := shape_none w h; exact h
  | some n => obtain ⟨_, _, _, _, _, _, h⟩ := shape_some w h; exact h

theorem box_at {st : FS Ω} {a : Act} {E : Env} {τ : Nat → Tag} (hI : Inv O N st a E τ) {p : PV} {v : Value} (hv : RV E p v) {cs : List PV} {off : Nat} {src : Nat → Src}
    (h : st.box? p = some (cs, off, src)) {st1 st2 : FS Ω} (hL : st1.L = st.L) (hS : st1.S = st.S) {cs' : List PV} (hs : st1.setBox p cs' = some st2) :
    ∃ d k, v = .pointer (some ⟨E.μ d k, off, none⟩) ∧ d ≤ E.me ∧ CelRel O E τ d k (.box cs) ∧ BoxAt st1 st2 E.me d k cs cs' ∧ ((d = E.me ∧ ∃ k o, p = .own k o) ∨ (d < E.me ∧ ∃ e k o, p = .ptr e k o)) := by
  obtain ⟨d, k, h1, h2, h3, h4⟩ := box_ok hI hv h
  refine ⟨d, k, h1, h2, h3, ?_⟩
  rcases h4 with ⟨rfl, rfl, _, hl⟩ | ⟨rfl, _, hd, F, hF, hl⟩
  · simp only [FS.setBox, Option.some.injEq] at hs
    exact ⟨.inl ⟨rfl, by rw [hL]; exact hl, hs.symm⟩, .inl ⟨rfl, k, off, rfl⟩⟩
  · have hF' : st1.S[d]? = some F := by rw [hS]; exact hF
    simp only [FS.setBox, hF', Option.some.injEq] at hs
    exact ⟨.inr ⟨F, hd, hF', hl, hs.symm⟩, .inr ⟨hd, d, k, off, rfl⟩⟩

theorem lose_LS (st : FS Ω) (x : Opd) : (st.lose x).L = st.L ∧ (st.lose x).S = st.S ∧ (st.lose x).dirty = st.dirty := by
  unfold FS.lose
  split
  · split <;> exact ⟨rfl, rfl, rfl⟩
  · exact ⟨rfl, rfl, rfl⟩

theorem setBox_dirty {st st' : FS Ω} {p : PV} {cs : List PV} (h : st.setBox p cs = some st') : ({ st with dirty := true } : FS Ω).setBox p cs = some { st' with dirty := true } := by
  cases p with
  | own k o => simp only [FS.setBox, Option.some.injEq] at h ⊢; rw [← h]
  | ptr d k o =>
    simp only [FS.setBox] at h ⊢
    split at h
    · simp only [Option.some.injEq] at h; rw [← h]
    · cases h
  | _ => cases h

theorem BoxAt.dirty {st st' : FS Ω} {me d k : Nat} {cs cs' : List PV} (h : BoxAt st st' me d k cs cs') : BoxAt { st with dirty := true } { st' with dirty := true } me d k cs cs' := by
  rcases h with ⟨h1, h2, rfl⟩ | ⟨F, h1, h2, h3, rfl⟩
  · exact .inl ⟨h1, h2, rfl⟩
  · exact .inr ⟨F, h1, h2, h3, rfl⟩
theorem BoxAt.cel {st st' : FS Ω} {a : Act} {E : Env} {τ : Nat → Tag} (hI : Inv O N st a E τ) {d k : Nat} {cs cs' : List PV} (h : BoxAt st st' E.me d k cs cs') : CelRel O E τ d k (.box cs) := by
  rcases h with ⟨rfl, hl, _⟩ | ⟨F, _, hF, hl, _⟩
  · exact hI.mine k _ hl
  · exact hI.frames d F hF k _ hl

theorem store_core {st1 st2 : FS Ω} {a : Act} {E : Env} {τ τ1 : Nat → Tag} (hI : Inv O N st1 a E τ1) (hst : Step E E τ τ1) {go : Oper} {t : TypeId} {x y : Operand} (hop : go.op = .store t x y) (hdst : go.dst = none)
    {n : Option Nat} (hn : isN (shapeOf P t) n = true) {d k off : Nat} (he : a.eval x = .pointer (some ⟨E.μ d k, off, none⟩)) {cs new : List PV} {us : List Value} (hcells : (a.eval y).cells = ⟨us⟩) (hlen : us.length = n.getD 1)
    (h1 : ∀ v ∈ us, v.oneCell' = true) (hl : off + us.length ≤ cs.length) (hnew : RVs { E with me := d } new us) (hno : ownSubs [] new = true)
    (hR : ∀ j z es, new[j]? = some (PV.sl .own z es) → ∃ v, us[j]? = some v ∧ Right E.w E.σ τ1 (.cell d k (off + j)) z es v) (hB : BoxAt st1 st2 E.me d k cs (setCells off new cs)) :
    OpOK P O N { st2 with dirty := true } a E τ go := by
  obtain ⟨_, _, ho, vs, ty, hh, hvs, hr⟩ := hB.cel hI
  have hvl := hvs.length
  have hnl := hnew.length
  have hrun : (execOp a.eval go).run P E.w = .ok .skip (E.w.setRow (E.μ d k) ⟨setVals off us vs⟩) := by
    have := run_storeAt (P := P) (w := E.w) (t := t) (v := a.eval y) (off := off) hcells (by rw [hlen]; exact shape_size hn) hh (by omega) h1
    simp [execOp, hop, he, this]
  obtain ⟨h2, h3⟩ := hI.toDirty.setBox rfl hB.dirty (setCells_RVs off hnew hvs) (setCells_own off hno ho) (by
    intro off' z es hg
    rcases setCells_get new off cs off' _ hg with ⟨j, rfl, hj⟩ | ⟨hj, hp⟩
    · obtain ⟨v, hv, hRv⟩ := hR j z es hj
      refine ⟨v, ?_, hRv⟩
      have hjl : j < us.length := (List.getElem?_eq_some_iff.1 hv).1
      rw [setVals_get_in us off vs j hjl (by omega)]; exact hv
    · obtain ⟨v, hv, hRv⟩ := hr off' z es hp
      refine ⟨v, ?_, hRv⟩
      rw [setVals_get us off vs off' (fun j hjl => hj j (by omega))]; exact hv)
  refine opOK_skip (E' := { E with w := E.w.setRow (E.μ d k) ⟨setVals off us vs⟩ }) (τ' := τ1) hrun ?_ (hst.trans h3)
  rw [hdst]
  exact h2

theorem dems_get : ∀ {cs : List PV} {j z : Nat} {es : List (List PV)}, (dems cs)[j]? ≠ some (.sl .own z es) := dems_no

theorem o_store {st st2 : FS Ω} {a : Act} {E : Env} {τ : Nat → Tag} (hI : Inv O N st a E τ) {go : Oper} {t : TypeId} {x y : Operand} {x' y' : Opd} {n : Option Nat} (hop : go.op = .store t x y) (hdst : go.dst = none)
    (hn : isN (shapeOf P t) n = true) (hx : chkO x x' = true) (hy : chkO y y' = true) {cs vs : List PV} {off : Nat} {src : Nat → Src} (hb : st.box? (st.rd x') = some (cs, off, src)) (hc : cellsOf n (st.rd y') = some vs)
    (hl : off + vs.length ≤ cs.length) (hso : storeOK (st.rd x') vs = true) (hok : cellsOK vs = true)
    (h2 : (if n.isNone && isOwn (st.rd y') then st.lose y' else st).setBox (st.rd x') (setCells off (if n.isNone then [moved (st.rd y')] else dems vs) cs) = some st2) :
    OpOK P O N { st2 with dirty := true } a E τ go := by
  obtain ⟨⟨us, hus, hcells⟩, hlen⟩ := cellsOf_ok hc (chkO_RV hI hy)
  have hvx := chkO_RV hI hx
  have hul := hus.length
  have h1 := cellsOK_one hok hus
  -- the new cells, seen from the box's frame
  have hown : ∀ {ps : List PV}, storeOK (st.rd x') ps = true → ownSubs [] ps = true := by
    intro ps h
    generalize st.rd x' = q at h
    cases q <;> first | exact h | exact ownSubs_pfs _ h
  have hrel : ∀ {d : Nat} {ps : List PV}, ((d = E.me ∧ ∃ k o, st.rd x' = .own k o) ∨ (d < E.me ∧ ∃ e k o, st.rd x' = .ptr e k o)) → storeOK (st.rd x') ps = true → RVs E ps us → RVs { E with me := d } ps us := by
    rintro d ps (⟨rfl, _⟩ | ⟨_, e, k, o, hq⟩) hs hr
    · exact hr
    · rw [hq] at hs
      exact .of_RPs (E := { E with me := d }) (hr.toPure hs)
  cases hn' : n with
  | some m =>
    subst hn'
    simp only [Option.isNone_some, Bool.false_and, Bool.false_eq_true, if_false] at h2
    obtain ⟨d, k, he, hd, _, hB, hcase⟩ := box_at hI hvx hb (st1 := st) rfl rfl h2
    refine store_core hI (.refl E τ) hop hdst hn he hcells (by rw [hul, hlen]) h1 (by omega) (new := dems vs) ?_ ?_ ?_ hB
    · exact (hrel hcase hso hus).dems
    · rw [ownSubs_dems]; exact hown hso
    · intro j z es hj; exact absurd hj dems_no
  | none =>
    subst hn'
    simp only [Option.isNone_none, Bool.true_and, if_true] at h2
    have hvs : vs = [st.rd y'] := by
      simp only [cellsOf] at hc
      split at hc
      · simpa using hc.symm
      · cases hc
    subst hvs
    obtain ⟨u, rfl⟩ : ∃ u, us = [u] := by
      cases hus with
      | cons h hs => cases hs; exact ⟨_, rfl⟩
    have hu : u = a.eval y := by
      simp only [cellsOf] at hc
      split at hc
      · rename_i hco
        have := (cellOK_one hco (chkO_RV hI hy)).2
        rw [this] at hcells
        have := congrArg Array.toList hcells
        simpa using this.symm
      · cases hc
    subst hu
    cases ho : isOwn (st.rd y') with
    | false =>
      rw [ho] at h2
      simp only [Bool.false_eq_true, if_false] at h2
      obtain ⟨d, k, he, hd, _, hB, hcase⟩ := box_at hI hvx hb (st1 := st) rfl rfl h2
      obtain ⟨hm1, hm2⟩ := moved_plain ho
      have hmno : isOwn (moved (st.rd y')) = false := by
        cases hq : isOwn (moved (st.rd y')) with
        | false => rfl
        | true => obtain ⟨z, es, e⟩ := isOwn_eq hq; rw [e] at hm1; cases hm1
      refine store_core hI (.refl E τ) hop hdst hn he hcells (by simp) h1 (by simpa using hl) (new := [moved (st.rd y')]) ?_ ?_ ?_ hB
      · have := hrel hcase hso hus
        cases this with
        | cons h hs => exact .cons h.moved .nil
      · have := hown hso
        simp only [ownSubs, Bool.and_true] at this ⊢
        rw [hm2]; exact this
      · intro j z es hj
        cases j with
        | zero => simp at hj; rw [hj] at hmno; cases hmno
        | succ j => simp at hj
    | true =>
      rw [ho] at h2
      simp only [if_true] at h2
      obtain ⟨t', rfl, rfl⟩ := chkO_own_t hy ho
      obtain ⟨z, es, hz⟩ := isOwn_eq ho
      have hz' : getS st.sl t' = .sl .own z es := hz
      obtain ⟨hL, hS, _⟩ := lose_LS st (.t t')
      obtain ⟨d, k, he, hd, _, hB, hcase⟩ := box_at hI hvx hb hL hS h2
      rw [lose_own hz'] at hB
      obtain ⟨k1, k2, k3⟩ := hI.lose hz' (.cell d k off)
      rw [hz] at hB hus
      refine store_core k1 k2 hop hdst hn he hcells (by simp) h1 (by simpa using hl) (new := [.sl .own z es]) ?_ rfl ?_ hB
      · cases hus with
        | cons h hs => exact .cons (.pure h.sl_inv) .nil
      · intro j z' es' hj
        cases j with
        | zero =>
          simp only [List.getElem?_cons_zero, Option.some.injEq] at hj
          injection hj with _ e1 e2
          subst e1 e2
          exact ⟨_, rfl, k3⟩
        | succ j => simp at hj
end Go.Fw
end
section
/- What one operation does, XI: new slices. -/
namespace Go.Fw
variable {Ω : Type} {O : OpqSem Ω} {N : Nat} {P : Program}

theorem RC.of_list {w : World} {σ : Seal} {b : Nat} : ∀ {o : Nat} {ps : List PV} {us : List Value}, RPs w σ ps us → (∀ j v, us[j]? = some v → w.cell? ⟨b, o + j, none⟩ = some v) → o + us.length ≤ σ b → RC w σ b o ps
  | o, _, _, .nil, _, _ => .nil b o
  | o, _, _, .cons (v := v) (vs := vs) hp hs, h, hl => by
    simp only [List.length_cons] at hl
    refine .cons (v := v) (by omega) (by have := h 0 v rfl; simpa using this) hp (RC.of_list hs (fun j u hj => ?_) (by omega))
    have := h (j + 1) u (by simpa using hj)
    rw [← this]; congr 2; omega

theorem RPs.append {w : World} {σ : Seal} : ∀ {ps qs : List PV} {vs us : List Value}, RPs w σ ps vs → RPs w σ qs us → RPs w σ (ps ++ qs) (vs ++ us)
  | _, _, _, _, .nil, h => h
  | _, _, _, _, .cons hp hs, h => .cons hp (hs.append h)
theorem RPs.mono' {w w' : World} {σ σ' : Seal} (h : SExt w σ w' σ') {ps : List PV} {vs : List Value} (hs : RPs w σ ps vs) : RPs w' σ' ps vs := RPs.mono h hs

theorem getD_flat {z : Nat} {l : List (List PV)} (h : ∀ e ∈ l, okEl z e) : l.flatten.length = l.length * z := flatten_len h

/-- The tag of what goes to 'dst'. -/
def tagOf : Option Nat → Tag
  | some d => .slot d
  | none => .ret

/-- A new block, with a slice of its own. -/
theorem newSlice_ok {st st' : FS Ω} {a : Act} {E : Env} {τ : Nat → Tag} (hI : Inv O N st a E τ) {dst : Option Nat} {z cap : Nat} {l : List (List PV)} {us pad : List Value} (hrel : RPs E.w E.σ l.flatten us) (hok : ∀ e ∈ l, okEl z e)
    (hcap : us.length + pad.length = cap * z) (hle : l.length ≤ cap) (hst : st.putR dst (.sl .own z l) = some st') (hd : ∀ d, dst = some d → d < N) (ty : TypeId) :
    ∃ E' τ', E'.w = E.w.alloc (.cells ⟨us ++ pad⟩ ty) ∧ Inv O N st' (a.put dst (.slice (some ⟨E.w.heap.size, 0, none⟩) l.length cap)) E' τ' ∧ Step E E' τ τ' := by
  have hC := calm_alloc hI.fresh (.cells ⟨us ++ pad⟩ ty) (l.length * z) (tagOf dst)
  have hI1 := hI.calm hC
  refine ⟨_, _, rfl, ?_, hC.step⟩
  have hul := hrel.length
  have hfl := flatten_len hok
  have hrc : RC (E.w.alloc (.cells ⟨us ++ pad⟩ ty)) (fun b => if b = E.w.heap.size then l.length * z else E.σ b) E.w.heap.size 0 l.flatten := by
    refine RC.of_list (RPs.mono hC.ext.sext hrel) ?_ ?_
    · intro j v hj
      rw [cell_of_row _ _ _ _ _ _ (heap_new E.w (.cells ⟨us ++ pad⟩ ty))]
      have hjl : j < us.length := (List.getElem?_eq_some_iff.1 hj).1
      simp [List.getElem?_append_left hjl, hj]
    · simp [hul, hfl]
  have hv : RV { E with w := E.w.alloc (.cells ⟨us ++ pad⟩ ty), σ := fun b => if b = E.w.heap.size then l.length * z else E.σ b } (.sl .own z l) (.slice (some ⟨E.w.heap.size, 0, none⟩) l.length cap) :=
    .pure (.sl (by simp) hle hok hrc)
  cases hdst : dst with
  | none =>
    subst hdst
    simp only [FS.putR, Option.some.injEq] at hst
    subst hst
    exact hI1
  | some d =>
    subst hdst
    simp only [FS.putR] at hst
    split at hst
    · rename_i hno
      simp only [Option.some.injEq] at hst
      subst hst
      refine hI1.putOwn (hd d rfl) hv ?_ (fun _ => by simpa [isOwn] using hno)
      exact .inr ⟨E.w.heap.size, cap, ⟨us ++ pad⟩, ty, rfl, by simp [tagOf], by simp, heap_new _ _, by simpa using hcap⟩
    · cases hst

-- slice literals
def chkIdx : Nat → List (Nat × Operand) → List Opd → Bool
  | _, [], [] => true
  | i, (j, x) :: ps, y :: ys => Nat.beq j i && chkO x y && chkIdx (i + 1) ps ys
  | _, _, _ => false

theorem fill_elems {E : Env} {z : Nat} {one : Bool} : ∀ (ps : List (Nat × Operand)) (ys : List Opd) (i : Nat) (rd : Opd → PV) (ev : Operand → Value) (cells : List Value) (l : List (List PV)),
    (∀ x y, chkO x y = true → RV E (rd y) (ev x)) → chkIdx i ps ys = true → elems z one (ys.map rd) = some l → cells.length = (i + ys.length) * z →
    ∃ us, Instr.fill (fun i => some (i * z, z)) ⟨cells⟩ (ps.map fun p => (p.1, ev p.2)) = some ⟨cells.take (i * z) ++ us⟩ ∧ RPs E.w E.σ l.flatten us ∧ l.length = ys.length ∧ ∀ e ∈ l, okEl z e
  | [], [], i, rd, ev, cells, l, _, _, h, hl => by
    simp only [List.map_nil, elems, Option.some.injEq] at h
    subst h
    refine ⟨[], ?_, .nil, rfl, by simp⟩
    simp only [List.length_nil, Nat.add_zero] at hl
    simp [Instr.fill, ← hl]
  | [], _ :: _, _, _, _, _, _, _, h, _, _ => by simp [chkIdx] at h
  | _ :: _, [], _, _, _, _, _, _, h, _, _ => by simp [chkIdx] at h
  | (j, x) :: ps, y :: ys, i, rd, ev, cells, l, hr, hk, h, hl => by
    simp only [chkIdx, Bool.and_eq_true] at hk
    obtain ⟨⟨hj, hx⟩, hk⟩ := hk
    have hj := Nat.eq_of_beq_eq_true hj
    subst hj
    simp only [List.map_cons, elems] at h
    split at h
    · rename_i c r hc hrr
      split at h
      · rename_i hcond
        simp only [Option.some.injEq] at h
        subst h
        simp only [Bool.and_eq_true] at hcond
        obtain ⟨hcl, hpf, hco⟩ := hcond
        have hcl := Nat.eq_of_beq_eq_true hcl
        have hxy := (hr x y hx).canon
        obtain ⟨⟨us, hus, hcells⟩, _⟩ := cellsOf_ok hc hxy
        have hul := hus.length
        simp only [List.length_cons] at hl
        have hmul : (j + (ys.length + 1)) * z = j * z + z + ys.length * z := by rw [Nat.add_mul, Nat.add_mul]; omega
        have hmul1 : (j + 1) * z = j * z + z := by rw [Nat.add_mul]; omega
        have hmul2 : (j + 1 + ys.length) * z = j * z + z + ys.length * z := by rw [Nat.add_mul, Nat.add_mul]; omega
        have hle : j * z + us.length ≤ cells.length := by rw [hl, hmul]; omega
        have hfold : ∀ (us : List Value) (off : Nat) (vs : List Value) (k : Nat), (us.zipIdx k).foldl (fun (cs : Array Value) (p : Value × Nat) => cs.setIfInBounds (off + p.2) p.1) (⟨vs⟩ : Array Value) = ⟨setVals (off + k) us vs⟩ := by
          intro us
          induction us with
          | nil => intro off vs k; rfl
          | cons u us ih =>
            intro off vs k
            simp only [List.zipIdx_cons, List.foldl_cons]
            rw [show (Array.mk vs).setIfInBounds (off + k) u = (⟨vs.set (off + k) u⟩ : Array Value) from by apply Array.toList_inj.1; simp]
            rw [ih off _ (k + 1)]
            rw [show off + (k + 1) = off + k + 1 from by omega]
            rfl
        have hsl := setVals_eq us (j * z) cells hle
        have hlen : (setVals (j * z) us cells).length = cells.length := by rw [hsl]; simp; omega
        obtain ⟨ws, hw1, hw2, hw3, hw4⟩ := fill_elems ps ys (j + 1) rd ev (setVals (j * z) us cells) r hr hk hrr (by rw [hlen, hl, hmul, hmul2])
        refine ⟨us ++ ws, ?_, ?_, by simp [hw3], ?_⟩
        · simp only [List.map_cons, Instr.fill]
          rw [hcells, if_neg]
          · rw [← Array.foldl_toList]
            simp only [Array.toList_zipIdx]
            rw [show (us.zipIdx).foldl (fun (cs : Array Value) (x : Value × Nat) => cs.setIfInBounds (j * z + x.2) x.1) (⟨cells⟩ : Array Value) = _ from hfold us (j * z) cells 0]
            rw [Nat.add_zero, hw1]
            congr 1
            rw [hmul1, hsl]
            have : List.take (j * z + z) (List.take (j * z) cells ++ us ++ List.drop (j * z + us.length) cells) = List.take (j * z) cells ++ us := by
              apply List.take_left'
              simp; omega
            rw [this, List.append_assoc]
          · simp only [ne_eq, Bool.or_eq_true, decide_eq_true_eq, not_or]
            constructor
            · simp [hul, hcl]
            · simp; omega
        · simp only [List.flatten_cons]
          have := hus.toPure hpf
          exact this.append hw2
        · intro e he
          cases he with
          | head => exact ⟨hcl, hco⟩
          | tail _ he => exact hw4 e he
      · cases h
    · cases h

theorem o_bslice {st st' : FS Ω} {a : Act} {E : Env} {τ : Nat → Tag} (hI : Inv O N st a E τ) {go : Oper} {t : TypeId} {n : Nat} {ps : Array (Nat × Operand)} {z : Nat} {one : Bool} {ys : List Opd} (hop : go.op = .buildSlice t n ps)
    {e : TypeId} {i : TypeInfo} {zv : Value} (ht : P.underlying t = some (.slice e)) (hi : P.info? e = some i) (hz : i.size = z) (hzero : i.zero = some zv) (hn : n = ys.length) (hbig : n * z ≤ 2 ^ 24) (hk : chkIdx 0 ps.toList ys = true)
    (hd : ∀ d, go.dst = some d → d < N) {l : List (List PV)} (hl : elems z one (ys.map st.rd) = some l) (hst : st.putR go.dst (.sl .own z l) = some st') : OpOK P O N st' a E τ go := by
  subst hn hz
  have hkey : ∀ (cells : List Value), cells.length = ys.length * i.size → ∃ us, Instr.fill (fun j => some (j * i.size, i.size)) ⟨cells⟩ (ps.toList.map fun p => (p.1, a.eval p.2)) = some ⟨us⟩ ∧ RPs E.w E.σ l.flatten us ∧ l.length = ys.length ∧ ∀ e ∈ l, okEl i.size e := by
    intro cells hc
    obtain ⟨us, h1, h2, h3, h4⟩ := fill_elems ps.toList ys 0 st.rd a.eval cells l (fun x y h => chkO_RV hI h) hk hl (by simpa using hc)
    exact ⟨us, by simpa using h1, h2, h3, h4⟩
  have hrow : ∃ us, (Instr.buildSlice t ys.length (ps.map fun p => (p.1, a.eval p.2))).run P E.w = .ok (.slice (some ⟨E.w.heap.size, 0, none⟩) ys.length ys.length) (E.w.alloc (.cells ⟨us⟩ e)) ∧ RPs E.w E.σ l.flatten us ∧ l.length = ys.length ∧ ∀ e ∈ l, okEl i.size e := by
    have hbig' : ¬ (ys.length * i.size > 2 ^ 24) := by omega
    by_cases h0 : ys.length * i.size = 0
    · obtain ⟨us, h1, h2, h3, h4⟩ := hkey [] (by simp [h0])
      refine ⟨us, ?_, h2, h3, h4⟩
      have h1 : Instr.fill (fun j => some (j * i.size, i.size)) #[] (List.map (fun p => (p.1, a.eval p.2)) ps.toList) = some ⟨us⟩ := h1
      unfold Instr.buildSlice
      simp only [Sem.run_bind, run_underlying' ht, Result.andThen_ok, run_sizeOf' hi, if_neg hbig']
      have he : Array.map (fun _ => (default : Value)) (Array.range 0) = #[] := by simp
      simp [h0, he, h1, newRow]
    · obtain ⟨us, h1, h2, h3, h4⟩ := hkey ((Array.range (ys.length * i.size)).map (zv.cells[· % zv.cells.size]!)).toList (by simp)
      refine ⟨us, ?_, h2, h3, h4⟩
      have h1 : Instr.fill (fun j => some (j * i.size, i.size)) ((Array.range (ys.length * i.size)).map (zv.cells[· % zv.cells.size]!)) (List.map (fun p => (p.1, a.eval p.2)) ps.toList) = some ⟨us⟩ := h1
      unfold Instr.buildSlice
      simp only [Sem.run_bind, run_underlying' ht, Result.andThen_ok, run_sizeOf' hi, if_neg hbig', if_neg h0]
      simp only [zeroValue, typeInfo, Sem.run_bind, run_program, Result.andThen_ok, hi, Sem.run_pure, hzero, Array.toList_map]
      rw [h1]
      simp [newRow]
  obtain ⟨us, h1, h2, h3, h4⟩ := hrow
  have hul := h2.length
  have hfl := flatten_len h4
  obtain ⟨E', τ', hw, hI', hs⟩ := newSlice_ok hI (us := us) (pad := []) (cap := l.length) h2 h4 (by simp [hul, hfl]) (Nat.le_refl _) hst hd e
  refine opOK_value (E' := E') (τ' := τ') (v := .slice (some ⟨E.w.heap.size, 0, none⟩) l.length l.length) ?_ hI' hs
  rw [hw, h3]
  simp [execOp, hop, h1]
end Go.Fw
end
