/- Part 7 of 11 of what the statement leans on. Proved: gatepostlaw02.ValueBags returns true for every input, and the input reads behind the call as it read before; condition: none but the row's own cells. -/
import Derived.Test.YtalkelaaimkhnaaFf
import Derived.Laws.Append
set_option linter.all false
section
/- What one operation does, XII: append. -/
namespace Go.Fw
variable {Ω : Type} {O : OpqSem Ω} {N : Nat} {P : Program}

theorem Calm.drew {E : Env} {τ : Nat → Tag} (hf : ∀ b, E.w.heap.size ≤ b → E.σ b = 0 ∧ τ b = .frn) : Calm E { E with w := E.w.drew } τ τ :=
  ⟨⟨Nat.le_refl _, ⟨fun _ => Nat.le_refl _, fun _ _ _ => rfl⟩, fun _ _ h => ⟨rfl, h, rfl⟩, rfl, rfl, rfl, Nat.le_succ _⟩, rfl, rfl, fun _ _ => rfl, fun _ _ _ => ⟨rfl, rfl, rfl⟩, hf⟩

/-- The elements of a slice, read. -/
theorem firstCells_ok {w : World} {σ : Seal} {f : Fl} {z : Nat} {fs : List (List PV)} {u : Value} (h : RP w σ (.sl f z fs) u) :
    ∃ us, RPs w σ fs.flatten us ∧ us.length = fs.length * z ∧ (∀ e ∈ fs, okEl z e) ∧ (∀ w', w'.heap = w.heap → (Builtin.firstCells z fs.length u).run P w' = .ok ⟨us⟩ w') ∧ (∀ w', (Builtin.lenOf u).run P w' = .ok fs.length w') ∧
      ∃ ao n c, u = .slice ao n c := by
  rcases h.sl_inv with ⟨rfl, rfl⟩ | ⟨b, o, cap, rfl, _, _, hok, hc⟩ | ⟨ad, cap, rfl, rfl, _⟩
  rotate_right
  · refine ⟨[], .nil, by simp, by simp, fun w' _ => by simp [Builtin.firstCells, loadCells, loadCellsFrom], fun w' => by simp [Builtin.lenOf], _, _, _, rfl⟩
  · refine ⟨[], .nil, by simp, by simp, fun w' _ => by simp [Builtin.firstCells], fun w' => by simp [Builtin.lenOf], _, _, _, rfl⟩
  · obtain ⟨us, h1, h2⟩ := hc.all
    have hl : us.length = fs.length * z := by rw [h1.length, flatten_len hok]
    refine ⟨us, h1, hl, hok, fun w' hw => ?_, fun w' => by simp [Builtin.lenOf], _, _, _, rfl⟩
    have hcell : ∀ j v, us[j]? = some v → w'.cell? ⟨b, o + j, none⟩ = some v := by
      intro j v hj
      rw [World.cell?_of_block (w := w) (by rw [hw])]
      exact h2 j v hj
    simp only [Builtin.firstCells]
    exact run_loadCells' hcell hl

/-- How much room a new row has. -/
theorem grownCap_ge (w : World) (need old : Nat) (e : TypeId) : need ≤ grownCap w need old e := by
  simp only [grownCap, Question.cut]; omega

theorem zeroCells_len (zc : Array Value) (n : Nat) : (Builtin.zeroCells zc n).toList.length = n * zc.size := by simp [Builtin.zeroCells]
theorem zeroCells_size (zc : Array Value) (n : Nat) : (Builtin.zeroCells zc n).size = n * zc.size := by simp [Builtin.zeroCells]

section
variable {st1 st' : FS Ω} {a : Act} {E : Env} {τ : Nat → Tag}

theorem run_app {go : Oper} {ts : Array TypeId} {args : Array Operand} {x y : Operand} (hop : go.op = .call { callee := .builtin .append, args := args, argTypes := ts }) (ha : args.toList = [x, y]) {w' : World} {r : Value}
    (hr : (Builtin.append_ ts go.type #[a.eval x, a.eval y]).run P E.w = .ok r w') : (execOp a.eval go).run P E.w = .ok (.value r) w' := by
  have : args = #[x, y] := by apply Array.toList_inj.1; simpa using ha
  subst this
  simp [execOp, hop, resolve, invoke, Go.builtin, hr]

/-- Growing: 'X' covers the old row's tag. -/
theorem app_core (hI : Inv O N st1 a E τ) {X : Tag → Prop} (hfree : Free X st1 E.me) {go : Oper} {ts : Array TypeId} {args : Array Operand} {x y : Operand} (hop : go.op = .call { callee := .builtin .append, args := args, argTypes := ts })
    (ha : args.toList = [x, y]) {t u e e2 : TypeId} {i : TypeInfo} {zv : Value} {z bytes : Nat} (hts : ts[0]? = some t) (htu : ts[1]? = some u) (ht : P.underlying t = some (.slice e)) (hu : P.underlying u = some (.slice e2))
    (hi : P.info? e = some i) (hz : i.size = z) (hb : i.bytes = bytes) (hbp : 1 ≤ bytes) (hzero : i.zero = some zv) (hzs : zv.cells.size = z)
    {es fs : List (List PV)} {f g : Fl} (hx : RP E.w E.σ (.sl f z es) (a.eval x)) (hy : RP E.w E.σ (.sl g z fs) (a.eval y))
    (hR : (a.eval x = .slice none 0 0 ∧ es = []) ∨ ∃ b cap c ty, a.eval x = .slice (some ⟨b, 0, none⟩) es.length cap ∧ X (τ b) ∧ τ b ≠ .frn ∧ E.σ b = es.length * z ∧ E.w.heap[b]? = some (.cells c ty (0, 0)) ∧ c.size = cap * z)
    (hbig : (es.length + fs.length) * bytes ≤ maxBytes) (hst : st1.putR go.dst (.sl .own z (es ++ fs)) = some st') (hd : ∀ d, go.dst = some d → d < N) : OpOK P O N st' a E τ go := by
  obtain ⟨us, hus, hul, hokf, hfc, hlen, ao, n', c', hyv⟩ := firstCells_ok (P := P) hy
  obtain ⟨vs, hvs, hvl, hoke, hfx, _, _⟩ := firstCells_ok (P := P) hx
  have hok : ∀ c ∈ es ++ fs, okEl z c := by
    intro c hc
    rcases List.mem_append.1 hc with h | h
    · exact hoke c h
    · exact hokf c h
  have hmaxB : maxBytes = 2 ^ 46 := rfl
  have hle : es.length + fs.length ≤ 2 ^ 46 := by
    have : (es.length + fs.length) * 1 ≤ (es.length + fs.length) * bytes := Nat.mul_le_mul_left _ hbp
    omega
  subst hz hb
  -- the result, put
  have hput : ∀ {E' : Env} {τ' : Nat → Tag} {v : Value}, Inv O N st1 a E' τ' → RV E' (.sl .own i.size (es ++ fs)) v → (∀ d, go.dst = some d → Right E'.w E'.σ τ' (.slot d) i.size (es ++ fs) v) → Inv O N st' (a.put go.dst v) E' τ' := by
    intro E' τ' v hI' hv hr
    cases hdst : go.dst with
    | none =>
      rw [hdst] at hst
      simp only [FS.putR, Option.some.injEq] at hst
      subst hst
      exact hI'
    | some d =>
      rw [hdst] at hst
      simp only [FS.putR] at hst
      split at hst
      · rename_i hno
        simp only [Option.some.injEq] at hst
        subst hst
        exact hI'.putOwn (hd d hdst) hv (hr d hdst) (fun _ => by simpa [isOwn] using hno)
      · cases hst
  have hgrow : ∀ {base : Option Addr} {cap : Nat}, a.eval x = .slice base es.length cap → cap < es.length + fs.length → OpOK P O N st' a E τ go := by
    intro base cap hxv hcap
    have hC := Calm.drew (E := E) (τ := τ) hI.fresh
    have hI1 := hI.calm hC
    have hcg := grownCap_ge E.w (es.length + fs.length) cap e
    have hfit := growslice_fits (need := es.length + fs.length) (old := cap) (bytes := i.bytes) hcap (by omega)
    have hfit' : ¬ (281474976710656 < Builtin.nextslicecap (es.length + fs.length) cap * i.bytes) := by omega
    have hrun : (Builtin.append_ ts go.type #[a.eval x, a.eval y]).run P E.w =
        .ok (.slice (some ⟨E.w.heap.size, 0, none⟩) (es.length + fs.length) (grownCap E.w (es.length + fs.length) cap e))
          (E.w.drew.alloc (.cells ⟨(vs ++ us) ++ (Builtin.zeroCells zv.cells (grownCap E.w (es.length + fs.length) cap e - (es.length + fs.length))).toList⟩ e)) := by
      have h1 := hfx E.w.drew rfl
      have h2 := hfc E.w.drew rfl
      have h3 := hlen E.w
      rw [hyv] at h2 h3
      rw [hxv] at h1
      have hn : ¬ (es.length + fs.length ≤ cap) := by omega
      have hbz : ¬ (i.bytes = 0) := by omega
      rw [hxv, hyv]
      simp [Builtin.append_, hts, htu, run_underlying ht, run_underlying hu, sizeOf, typeInfo, zeroValue, hi, hzero, h3, hn, hbz, hfit', Question.forced, h1, h2, newRow, grownCap]
      congr 2
      apply Array.ext'
      simp
    obtain ⟨E', τ', hw, hI', hs⟩ := newSlice_ok hI1 (us := vs ++ us) (pad := (Builtin.zeroCells zv.cells (grownCap E.w (es.length + fs.length) cap e - (es.length + fs.length))).toList)
      (cap := grownCap E.w (es.length + fs.length) cap e) (by rw [List.flatten_append]; exact RPs.mono hC.ext.sext (hvs.append hus)) hok (by
        rw [List.length_append, hvl, hul, zeroCells_len, hzs, ← Nat.add_mul, ← Nat.add_mul]
        congr 1; omega) (by rw [List.length_append]; exact hcg) hst hd e
    refine opOK_value (E' := E') (τ' := τ') (v := .slice (some ⟨E.w.heap.size, 0, none⟩) (es ++ fs).length (grownCap E.w (es.length + fs.length) cap e)) ?_ hI' (hC.step.trans hs)
    rw [hw, List.length_append]
    exact run_app hop ha hrun
  rcases hR with ⟨hxv, hes⟩ | ⟨b, cap, c, ty, hxv, hX, hτ, hσ, hh, hcs⟩
  · -- a nil slice
    by_cases h0 : fs.length = 0
    · have hf0 : fs = [] := by simpa using h0
      have hrun : (Builtin.append_ ts go.type #[a.eval x, a.eval y]).run P E.w = .ok (.slice none 0 0) E.w := by
        have h2 := hfc E.w rfl
        have h3 := hlen E.w
        rw [hyv] at h2 h3
        rw [hxv, hyv]
        rw [h0] at h2 h3
        simp [Builtin.append_, hts, htu, run_underlying ht, run_underlying hu, sizeOf, typeInfo, hi, h3, h2]
      refine opOK_value (E' := E) (τ' := τ) (run_app hop ha hrun) (hput hI ?_ ?_) (.refl E τ)
      · rw [hes, hf0]; exact .pure (.nil _ _)
      · intro d _; exact .inl ⟨rfl, by simp [hes, hf0]⟩
    · exact hgrow (base := none) (cap := 0) (by rw [hxv, hes]; rfl) (by omega)
  · by_cases hroom : es.length + fs.length ≤ cap
    · -- in place
      have hbl := lt_of_some hh
      have hcl : es.length * i.size + us.length ≤ c.size := by
        rw [hcs, hul, ← Nat.add_mul]; exact Nat.mul_le_mul_right _ hroom
      have h1cell : ∀ v ∈ us, v.oneCell' = true := by
        have hco : cellsOK fs.flatten = true := by
          have : ∀ {l : List (List PV)}, (∀ e ∈ l, okEl i.size e) → cellsOK l.flatten = true := by
            intro l
            induction l with
            | nil => intro _; rfl
            | cons e l ih =>
              intro h
              have h1 := (h e (by simp)).2
              have h2 := ih (fun c hc => h c (by simp [hc]))
              rw [List.flatten_cons]
              generalize l.flatten = m at h2
              clear ih h
              induction e with
              | nil => exact h2
              | cons p ps ihp =>
                simp only [cellsOK, Bool.and_eq_true, List.cons_append] at h1 ⊢
                exact ⟨h1.1, ihp h1.2⟩
          exact this hokf
        exact cellsOK_one hco (RVs.of_RPs (E := E) hus)
      let row : Array Value := ⟨c.toList.take (es.length * i.size) ++ us ++ c.toList.drop (es.length * i.size + us.length)⟩
      have hrow : ∀ j : Nat, row[j]? = (c.toList.take (es.length * i.size) ++ us ++ c.toList.drop (es.length * i.size + us.length))[j]? := fun j => (Array.getElem?_toList (xs := row) (i := j)).symm
      have hrun : (Builtin.append_ ts go.type #[a.eval x, a.eval y]).run P E.w = .ok (.slice (some ⟨b, 0, none⟩) (es.length + fs.length) cap) (E.w.setRow b row) := by
        have h2 := hfc E.w rfl
        have h3 := hlen E.w
        rw [hyv] at h2 h3
        have hstc := run_storeCells_at (P := P) b (es.length * i.size) ty us 0 c E.w hh (by simpa using hcl) h1cell
        simp only [Nat.add_zero] at hstc
        have hadd : (⟨b, 0, none⟩ : Addr).add (es.length * i.size) = ⟨b, es.length * i.size, none⟩ := by rw [addr_add, Nat.zero_add]
        rw [hxv, hyv]
        simp [Builtin.append_, hts, htu, run_underlying ht, run_underlying hu, sizeOf, typeInfo, hi, h3, hroom, h2, hadd, hstc, row]
      let E' : Env := { E with w := E.w.setRow b row, σ := fun k => if k = b then (es.length + fs.length) * i.size else E.σ k }
      let τ' : Nat → Tag := fun k => if k = b then tagOf go.dst else τ k
      have hσle : E.σ b ≤ (es.length + fs.length) * i.size := by rw [hσ]; exact Nat.mul_le_mul_right _ (by omega)
      have hrowlen : row.size = cap * i.size := by
        show (c.toList.take (es.length * i.size) ++ us ++ c.toList.drop (es.length * i.size + us.length)).length = _
        simp
        omega
      have hsext : SExt E.w E.σ E'.w E'.σ := by
        constructor
        · intro k
          show E.σ k ≤ if k = b then _ else _
          by_cases hk : k = b
          · rw [if_pos hk, hk]; exact hσle
          · rw [if_neg hk]; exact Nat.le_refl _
        · intro k o ho
          by_cases hk : k = b
          · subst hk
            show (E.w.setRow k row).cell? _ = _
            rw [cell_setRow_same E.w k o c row ty (0, 0) hh, cell_of_row E.w k o c ty (0, 0) hh]
            rw [hσ] at ho
            rw [hrow, List.append_assoc, List.getElem?_append_left (by simp; omega), List.getElem?_take, if_pos ho]
            simp
          · exact cell_setRow_other E.w b row _ hk
      have hC : CalmX X E E' τ τ' := by
        refine ⟨⟨Nat.le_of_eq (setRow_size _ _ _).symm, hsext, ?_, rfl, rfl, rfl, Nat.le_refl _⟩, rfl, rfl, fun _ _ => rfl, ?_, ?_⟩
        · intro k hk hkτ
          have hkb : k ≠ b := by rintro rfl; exact hτ hkτ
          exact ⟨setRow_other _ _ _ _ hkb, by show (if k = b then _ else _) = _; rw [if_neg hkb]; exact hkτ, by show (if k = b then _ else _) = _; rw [if_neg hkb]⟩
        · intro k hk hkτ hkX
          have hkb : k ≠ b := by rintro rfl; exact hkX hX
          exact ⟨setRow_other _ _ _ _ hkb, by show (if k = b then _ else _) = _; rw [if_neg hkb], by show (if k = b then _ else _) = _; rw [if_neg hkb]⟩
        · intro k hk
          have hk : E.w.heap.size ≤ k := by rw [← setRow_size E.w b row]; exact hk
          have hkb : k ≠ b := by omega
          have := hI.fresh k hk
          exact ⟨by show (if k = b then _ else _) = _; rw [if_neg hkb]; exact this.1, by show (if k = b then _ else _) = _; rw [if_neg hkb]; exact this.2⟩
      have hnew : E'.w.heap[b]? = some (.cells row ty (0, 0)) := setRow_heap E.w b c row ty (0, 0) hh
      have hrc : RC E'.w E'.σ b 0 (es ++ fs).flatten := by
        rw [List.flatten_append]
        refine RC.of_list (RPs.mono hsext (hvs.append hus)) ?_ ?_
        · intro j v hj
          rw [Nat.zero_add, cell_of_row _ _ _ _ _ _ hnew]
          rw [hrow]
          have hold : c.toList.take (es.length * i.size) = vs := by
            have h4 := hfx E.w rfl
            rw [hxv] at h4
            have h5 : (loadCells ⟨b, 0, none⟩ (es.length * i.size)).run P E.w = .ok ⟨c.toList.take (es.length * i.size)⟩ E.w := by
              refine run_loadCells' ?_ (by simp; omega)
              intro j v hj
              rw [Nat.zero_add, cell_of_row _ _ _ _ _ _ hh]
              rw [List.getElem?_take] at hj
              split at hj
              · simpa using hj
              · cases hj
            simp only [Builtin.firstCells] at h4
            rw [h4] at h5
            injection h5 with h5
            exact (congrArg Array.toList h5).symm
          rw [hold, List.getElem?_append_left]
          · exact hj
          · exact (List.getElem?_eq_some_iff.1 hj).1
        · show 0 + _ ≤ if b = b then _ else _
          rw [if_pos rfl, List.length_append, hvl, hul, Nat.add_mul]; omega
      refine opOK_value (E' := E') (τ' := τ') (v := .slice (some ⟨b, 0, none⟩) (es.length + fs.length) cap) (run_app hop ha hrun) (hput (hI.calmX hfree hC) ?_ ?_) hC.step
      · have := RP.sl (w := E'.w) (σ := E'.σ) (f := .own) (z := i.size) (es := es ++ fs) (b := b) (o := 0) (cap := cap) (by simp) (by simpa using hroom) hok hrc
        rw [List.length_append] at this
        exact .pure this
      · intro d hdst
        refine .inr ⟨b, cap, row, ty, by rw [List.length_append], ?_, ?_, hnew, hrowlen⟩
        · show (if b = b then _ else _) = _
          rw [if_pos rfl, hdst]; rfl
        · show (if b = b then _ else _) = _
          rw [if_pos rfl, List.length_append]
    · exact hgrow hxv (by omega)
end
end Go.Fw
end
section
/- What one operation does, XIII: append, whole. -/
namespace Go.Fw
variable {Ω : Type} {O : OpqSem Ω} {N : Nat} {P : Program}

theorem RVs.reflag {E : Env} {cs : List PV} {vs : List Value} (h : RVs E cs vs) {off z : Nat} {es : List (List PV)} {f : Fl} (ho : cs[off]? = some (.sl f z es)) : RVs E (cs.set off (.sl .no z es)) vs := by
  obtain ⟨v, hv, hr⟩ := h.get ho
  have h2 := h.set off (RV.pure (hr.sl_inv.reflag (g := .no) (by simp)))
  have : vs.set off v = vs := by
    apply List.ext_getElem?
    intro i
    rw [List.getElem?_set]
    by_cases e : off = i
    · subst e
      rw [if_pos rfl, if_pos (List.getElem?_eq_some_iff.1 hv).1, hv]
    · rw [if_neg e]
  rw [this] at h2
  exact h2

/-- A cell's right ends. -/
theorem Inv.demoteCell {st st' : FS Ω} {a : Act} {E : Env} {τ : Nat → Tag} (hI : Inv O N st a E τ) {d k off z : Nat} {cs : List PV} {es : List (List PV)} {f : Fl} (ho : cs[off]? = some (.sl f z es))
    (hB : BoxAt st st' E.me d k cs (cs.set off (.sl .no z es))) : Inv O N st' a E τ := by
  have hset : ∀ {off' z' es'}, (cs.set off (.sl .no z es))[off']? = some (PV.sl .own z' es') → off' ≠ off ∧ cs[off']? = some (PV.sl .own z' es') := by
    intro off' z' es' h
    rw [List.getElem?_set] at h
    by_cases e : off = off'
    · rw [if_pos e] at h
      split at h <;> cases h
    · rw [if_neg e] at h
      exact ⟨fun h => e h.symm, h⟩
  have hnew : CelRel O E τ d k (.box (cs.set off (.sl .no z es))) := by
    obtain ⟨h1, h2, h3, vs, ty, h4, h5, h6⟩ := hB.cel hI
    exact ⟨h1, h2, ownSubs_set off h3 rfl, vs, ty, h4, h5.reflag ho, fun off' z' es' h => h6 off' z' es' (hset h).2⟩
  have hsl : st'.sl = st.sl := by rcases hB with ⟨_, _, rfl⟩ | ⟨F, _, _, _, rfl⟩ <;> rfl
  have hdi : st'.dirty = st.dirty := by rcases hB with ⟨_, _, rfl⟩ | ⟨F, _, _, _, rfl⟩ <;> rfl
  constructor
  · rcases hB with ⟨_, _, rfl⟩ | ⟨F, _, _, _, rfl⟩
    · exact hI.me
    · show E.me = (st.S.set d _).length
      rw [List.length_set]; exact hI.me
  · exact hI.defers
  · exact hI.size
  · intro t; rw [hsl]; exact hI.slots t
  · intro d' F' hF' k' c hc
    rcases hB with ⟨rfl, _, rfl⟩ | ⟨F, hd, hF, _, rfl⟩
    · exact hI.frames d' F' hF' k' c hc
    · have hF' : (st.S.set d (ins F k (.box (cs.set off (.sl .no z es)))))[d']? = some F' := hF'
      rw [List.getElem?_set] at hF'
      by_cases hdd : d = d'
      · rw [if_pos hdd] at hF'
        split at hF'
        · injection hF' with hF'
          subst hF' hdd
          rw [look_ins] at hc
          by_cases hk : k' = k
          · rw [if_pos hk] at hc; injection hc with hc; subst hc hk; exact hnew
          · rw [if_neg hk] at hc; exact hI.frames d F hF k' c hc
        · cases hF'
      · rw [if_neg hdd] at hF'; exact hI.frames d' F' hF' k' c hc
  · intro k' c hc
    rcases hB with ⟨rfl, _, rfl⟩ | ⟨F, hd, hF, _, rfl⟩
    · have hc : look (ins st.L k (.box (cs.set off (.sl .no z es)))) k' = some c := hc
      rw [look_ins] at hc
      by_cases hk : k' = k
      · rw [if_pos hk] at hc; injection hc with hc; subst hc hk; exact hnew
      · rw [if_neg hk] at hc; exact hI.mine k' c hc
    · exact hI.mine k' c hc
  · intro t
    rcases hB with ⟨rfl, _, rfl⟩ | ⟨F, hd, hF, _, rfl⟩
    · exact ownSub_mono (fun j hj => (hasN_ins st.L k _ j).2 (.inr hj)) _ (hI.wfs t)
    · exact hI.wfs t
  · intro t z' es' hp; rw [hsl] at hp; exact hI.rights t z' es' hp
  · intro hdirty t x z' es' hp hx
    rw [hdi] at hdirty
    rw [hsl] at hp hx
    exact hI.alSlot hdirty t x z' es' hp hx
  · intro hdirty t k' off' z' es' cs' z'' es'' hp hl hcs
    rw [hdi] at hdirty
    rw [hsl] at hp
    rcases hB with ⟨rfl, hl0, rfl⟩ | ⟨F, hd, hF, _, rfl⟩
    · have hl : look (ins st.L k (.box (cs.set off (.sl .no z es)))) k' = some (.box cs') := hl
      rw [look_ins] at hl
      by_cases hk : k' = k
      · rw [if_pos hk] at hl; injection hl with hl; injection hl with hl; subst hl hk
        exact hI.alCell hdirty t k' off' z' es' cs z'' es'' hp hl0 (hset hcs).2
      · rw [if_neg hk] at hl; exact hI.alCell hdirty t k' off' z' es' cs' z'' es'' hp hl hcs
    · exact hI.alCell hdirty t k' off' z' es' cs' z'' es'' hp hl hcs
  · intro hdirty t d' k' off' z' es' F' cs' z'' es'' hp hF' hl hcs
    rw [hdi] at hdirty
    rw [hsl] at hp
    rcases hB with ⟨rfl, hl0, rfl⟩ | ⟨F, hd, hF, hl0, rfl⟩
    · exact hI.alOut hdirty t d' k' off' z' es' F' cs' z'' es'' hp hF' hl hcs
    · have hF' : (st.S.set d (ins F k (.box (cs.set off (.sl .no z es)))))[d']? = some F' := hF'
      rw [List.getElem?_set] at hF'
      by_cases hdd : d = d'
      · rw [if_pos hdd] at hF'
        split at hF'
        · injection hF' with hF'
          subst hF' hdd
          rw [look_ins] at hl
          by_cases hk : k' = k
          · rw [if_pos hk] at hl; injection hl with hl; injection hl with hl; subst hl hk
            exact hI.alOut hdirty t d k' off' z' es' F cs z'' es'' hp hF hl0 (hset hcs).2
          · rw [if_neg hk] at hl; exact hI.alOut hdirty t d k' off' z' es' F cs' z'' es'' hp hF hl hcs
        · cases hF'
      · rw [if_neg hdd] at hF'; exact hI.alOut hdirty t d' k' off' z' es' F' cs' z'' es'' hp hF' hl hcs
  · exact hI.fresh
  · rw [hsl]; exact hI.alP

theorem free_none {st : FS Ω} {me : Nat} : Free (fun _ => False) st me :=
  ⟨fun _ h => h.elim, fun _ _ _ _ _ _ _ h => h, fun _ _ _ _ _ _ _ _ _ _ h => h, fun _ _ h => h, fun _ _ h => h⟩

theorem free_cell {st st' : FS Ω} {me d k off z : Nat} {cs : List PV} {es : List (List PV)} (hme : me = st.S.length) (hB : BoxAt st st' me d k cs (cs.set off (.sl .no z es))) : Free (· = .cell d k off) st' me := by
  have hset : ∀ {z' es'}, (cs.set off (PV.sl .no z es))[off]? ≠ some (PV.sl .own z' es') := by
    intro z' es' h
    rw [List.getElem?_set, if_pos rfl] at h
    split at h <;> cases h
  refine ⟨fun _ h => (by cases h), ?_, ?_, fun _ _ h => (by cases h), fun _ _ h => (by cases h)⟩
  · intro k' cs' hl off' z' es' hcs h
    injection h with h1 h2 h3
    subst h2 h3
    rcases hB with ⟨_, _, rfl⟩ | ⟨F, hd, _, _, rfl⟩
    · have hl : look (ins st.L k' _) k' = some (.box cs') := hl
      rw [look_ins, if_pos rfl] at hl
      injection hl with hl; injection hl with hl
      subst hl
      exact hset hcs
    · omega
  · intro d' F' hF' k' cs' hl off' z' es' hcs h
    injection h with h1 h2 h3
    subst h1 h2 h3
    rcases hB with ⟨h0, _, rfl⟩ | ⟨F, hd, hF, _, rfl⟩
    · have := (List.getElem?_eq_some_iff.1 hF').1
      have : d' < st.S.length := this
      omega
    · have hF' : (st.S.set d' _)[d']? = some F' := hF'
      rw [List.getElem?_set, if_pos rfl] at hF'
      split at hF'
      · injection hF' with hF'
        subst hF'
        rw [look_ins, if_pos rfl] at hl
        injection hl with hl; injection hl with hl
        subst hl
        exact hset hcs
      · cases hF'

theorem lose_any {st : FS Ω} {t : Nat} {z : Nat} {es : List (List PV)} {f : Fl} (h : getS st.sl t = .sl f z es) : st.lose (.t t) = { st with sl := ins st.sl t (.sl .no z es) } := by
  unfold FS.lose; simp only [h]

theorem ownZ_eq {z : Nat} {p : PV} (h : ownZ z p = true) : ∃ es, p = .sl .own z es := by
  cases p with
  | sl f z' es => cases f with
    | own => rw [← Nat.eq_of_beq_eq_true h]; exact ⟨es, rfl⟩
    | _ => cases h
  | _ => cases h

theorem o_app {st st' : FS Ω} {a : Act} {E : Env} {τ : Nat → Tag} (hI : Inv O N st a E τ) {go : Oper} {ts : Array TypeId} {args : Array Operand} {x y : Operand} (hop : go.op = .call { callee := .builtin .append, args := args, argTypes := ts })
    (ha : args.toList = [x, y]) {t u e e2 : TypeId} {i : TypeInfo} {zv : Value} {z bytes : Nat} (hts : ts[0]? = some t) (htu : ts[1]? = some u) (ht : P.underlying t = some (.slice e)) (hu : P.underlying u = some (.slice e2))
    (hi : P.info? e = some i) (hz : i.size = z) (hb : i.bytes = bytes) (hbp : 1 ≤ bytes) (hzero : i.zero = some zv) (hzs : zv.cells.size = z) {x' y' : Opd} (hx : chkO x x' = true) (hy : chkO y y' = true)
    (hd : ∀ d, go.dst = some d → d < N) {src : Option Src} {Γ : Orc Ω} {g : Option (Nat × Bool)} (h : stepOp Γ ⟨go.dst, .app src z bytes x' y', g⟩ st = some st') : OpOK P O N st' a E τ go := by
  have hvx := chkO_RV hI hx
  have hvy := chkO_RV hI hy
  simp only [stepOp] at h
  split at h
  · rename_i f z1 es g z2 fs e1 e2
    rw [e1] at hvx
    rw [e2] at hvy
    split at h
    · rename_i hc
      simp only [Bool.and_eq_true] at hc
      obtain ⟨⟨hc1, hc2⟩, hc3⟩ := hc
      have hc1 := Nat.eq_of_beq_eq_true hc1
      have hc2 := Nat.eq_of_beq_eq_true hc2
      subst hc1 hc2
      have hbig : (es.length + fs.length) * bytes ≤ maxBytes := by rw [nLe_def] at hc3; exact of_decide_eq_true hc3
      have core : ∀ {st1 : FS Ω} {X : Tag → Prop}, Inv O N st1 a E τ → Free X st1 E.me → _ := fun {st1} {X} h1 h2 =>
        app_core (st1 := st1) (X := X) (st' := st') (τ := τ) h1 h2 hop ha hts htu ht hu hi hz hb hbp hzero hzs hvx.sl_inv hvy.sl_inv (hbig := hbig) (hd := hd)
      have hnil : f = .nil → a.eval x = .slice none 0 0 ∧ es = [] := by
        rintro rfl
        rcases hvx.sl_inv.sl_inv with h | ⟨b, o, cap, _, hf, _⟩ | ⟨_, _, _, _, hf⟩
        · exact h
        · exact absurd rfl hf
        · exact absurd rfl hf
      have hright : ∀ {g : Tag} {es' : List (List PV)}, g ≠ .frn → Right E.w E.σ τ g z2 es' (a.eval x) → (a.eval x = .slice none 0 0 ∧ es = []) ∨
          ∃ b cap c ty, a.eval x = .slice (some ⟨b, 0, none⟩) es.length cap ∧ τ b = g ∧ τ b ≠ .frn ∧ E.σ b = es.length * z2 ∧ E.w.heap[b]? = some (.cells c ty (0, 0)) ∧ c.size = cap * z2 := by
        intro g es' hg hR
        rcases hR with ⟨h1, h2⟩ | ⟨b, cap, c, ty, h1, h2, h3, h4, h5⟩
        · rcases hvx.sl_inv.sl_inv with h | ⟨b, o, cap, hv, _⟩ | ⟨_, _, hv, _⟩
          · exact .inl h
          · rw [h1] at hv; cases hv
          · rw [h1] at hv; cases hv
        · rcases hvx.sl_inv.sl_inv with ⟨hv, _⟩ | ⟨b', o, cap', hv, _⟩ | ⟨ad, cap', hv, e0, _⟩
          rotate_right
          · rw [h1] at hv
            injection hv with hv1 hv2 hv3
            subst e0
            rw [hv2] at h1 h3
            exact .inr ⟨b, cap, c, ty, h1, h2, by rw [h2]; exact hg, h3, h4, h5⟩
          · rw [h1] at hv; cases hv
          · rw [h1] at hv
            injection hv with hv1 hv2 hv3
            rw [hv2] at h1 h3
            exact .inr ⟨b, cap, c, ty, h1, h2, by rw [h2]; exact hg, h3, h4, h5⟩
      split at h
      · -- nil, no source
        obtain ⟨k1, k2⟩ := hnil rfl
        exact core (X := fun _ => False) hI free_none (.inl ⟨k1, k2⟩) h
      · split at h
        · cases h
        · obtain ⟨k1, k2⟩ := hnil rfl
          exact core (X := fun _ => False) hI free_none (.inl ⟨k1, k2⟩) h
      · -- own
        obtain ⟨t', rfl, rfl⟩ := chkO_own_t hx (by rw [e1]; rfl)
        have e1' : getS st.sl t' = .sl .own z2 es := e1
        rw [lose_own e1'] at h
        refine core (X := (· = .slot t')) (hI.demote e1') (free_slot (by show isOwn (getS (ins _ _ _) _) = false; rw [getS_ins, if_pos rfl]; rfl)) ?_ h
        exact hright (by intro h; cases h) (hI.rights t' z2 es e1')
      · -- alias of a slot
        rename_i t1 t2
        split at h
        · rename_i hcond
          simp only [Bool.and_eq_true, Bool.not_eq_true'] at hcond
          obtain ⟨⟨_, hdirty⟩, hoz⟩ := hcond
          obtain ⟨es', hes'⟩ := ownZ_eq hoz
          have hes' : getS st.sl t1 = .sl .own z2 es' := hes'
          rw [lose_own hes'] at h
          obtain ⟨tx, rfl, rfl⟩ : ∃ tx, x = .tmp tx ∧ x' = .t tx := by
            unfold chkO at hx
            split at hx
            · rw [Nat.eq_of_beq_eq_true hx]; exact ⟨_, rfl, rfl⟩
            · cases e1
            · have := (chkV_flag hx).1
              rename_i p
              have e1 : p = _ := e1
              rw [e1] at this; cases this
            · cases hx
          have e1' : getS st.sl tx = .sl (.al (.slot t1)) z2 es := e1
          have hsame := hI.alSlot hdirty tx t1 z2 es e1' (by rw [hes']; rfl)
          refine core (X := (· = .slot t1)) (hI.demote hes') (free_slot (by show isOwn (getS (ins _ _ _) _) = false; rw [getS_ins, if_pos rfl]; rfl)) ?_ h
          have := hI.rights t1 z2 es' hes'
          rw [hsame] at this
          exact hright (by intro h; cases h) this
        · cases h
      · -- alias of a cell of an own box
        rename_i k off _ _
        split at h
        · cases h
        · rename_i hdirty
          have hdirty : st.dirty = false := by cases hq : st.dirty with | false => rfl | true => exact absurd hq hdirty
          split at h
          · rename_i cs hl
            split at h
            · rename_i z' es' hcs
              split at h
              · rename_i hzz
                have hzz := Nat.eq_of_beq_eq_true hzz
                subst hzz
                obtain ⟨tx, rfl, rfl⟩ : ∃ tx, x = .tmp tx ∧ x' = .t tx := by
                  unfold chkO at hx
                  split at hx
                  · rw [Nat.eq_of_beq_eq_true hx]; exact ⟨_, rfl, rfl⟩
                  · cases e1
                  · have := (chkV_flag hx).1
                    rename_i p
                    have e1 : p = _ := e1
                    rw [e1] at this; cases this
                  · cases hx
                have e1' : getS st.sl tx = .sl (.al (.cell k off)) z' es := e1
                have hcell := hI.alCell hdirty tx k off z' es cs z' es' e1' hl hcs
                obtain ⟨_, _, _, vs, ty, h4, _, h6⟩ := hI.mine k _ hl
                obtain ⟨v, hv, hR⟩ := h6 off z' es' hcs
                have hvx : v = a.eval (.tmp tx) := by
                  rw [cell_of_row _ _ _ _ _ _ h4] at hcell
                  have : vs[off]? = some (a.tmps.getD tx Go.undef) := by simpa using hcell
                  rw [hv] at this
                  injection this
                rw [hvx] at hR
                have hB : BoxAt st { st with L := ins st.L k (.box (cs.set off (.sl .no z' es'))) } E.me E.me k cs (cs.set off (.sl .no z' es')) := .inl ⟨rfl, hl, rfl⟩
                exact core (X := (· = .cell E.me k off)) (hI.demoteCell hcs hB) (free_cell hI.me hB) (hright (by intro h; cases h) hR) h
              · cases h
            · cases h
          · cases h
      · -- alias of a cell of an outer frame's box
        rename_i d k off _ _
        split at h
        · cases h
        · rename_i hdirty
          have hdirty : st.dirty = false := by cases hq : st.dirty with | false => rfl | true => exact absurd hq hdirty
          split at h
          · rename_i F hF
            split at h
            · rename_i cs hl
              split at h
              · rename_i z' es' hcs
                split at h
                · rename_i hzz
                  have hzz := Nat.eq_of_beq_eq_true hzz
                  subst hzz
                  obtain ⟨tx, rfl, rfl⟩ : ∃ tx, x = .tmp tx ∧ x' = .t tx := by
                    unfold chkO at hx
                    split at hx
                    · rw [Nat.eq_of_beq_eq_true hx]; exact ⟨_, rfl, rfl⟩
                    · cases e1
                    · have := (chkV_flag hx).1
                      rename_i p
                      have e1 : p = _ := e1
                      rw [e1] at this; cases this
                    · cases hx
                  have e1' : getS st.sl tx = .sl (.al (.gcell d k off)) z' es := e1
                  have hcell := hI.alOut hdirty tx d k off z' es F cs z' es' e1' hF hl hcs
                  obtain ⟨_, _, _, vs, ty, h4, _, h6⟩ := hI.frames d F hF k _ hl
                  obtain ⟨v, hv, hR⟩ := h6 off z' es' hcs
                  have hvx : v = a.eval (.tmp tx) := by
                    rw [cell_of_row _ _ _ _ _ _ h4] at hcell
                    have : vs[off]? = some (a.tmps.getD tx Go.undef) := by simpa using hcell
                    rw [hv] at this
                    injection this
                  rw [hvx] at hR
                  have hdm : d < E.me := by rw [hI.me]; exact (List.getElem?_eq_some_iff.1 hF).1
                  have hB : BoxAt st { st with S := st.S.set d (ins F k (.box (cs.set off (.sl .no z' es')))) } E.me d k cs (cs.set off (.sl .no z' es')) := .inr ⟨F, hdm, hF, hl, rfl⟩
                  exact core (X := (· = .cell d k off)) (hI.demoteCell hcs hB) (free_cell hI.me hB) (hright (by intro h; cases h) hR) h
                · cases h
              · cases h
            · cases h
          · cases h
      · cases h
    · cases h
  · cases h
end Go.Fw
end
section
/- Calls. -/
namespace Go.Fw
variable {Ω : Type} {O : OpqSem Ω} {N : Nat} {P : Program}

/-- What a call of 'f' does: a function with a body, or one that the model has. -/
def Runs (P : Program) (f : FuncId) (args : Array Value) (w : World) (R : Value → World → Prop) : Prop :=
  match (callFunc f args).run P w with
  | .ok (.value v) w' => R v w'
  | .ok (.enter g as) w' => Calls P g as w' fun
    | .returned v, w'' => R v w''
    | _, _ => False
  | _ => False

def okTag (m : Nat) : Tag → Bool
  | .frn => true
  | .box d _ | .opq d _ | .cell d _ _ => Nat.blt d m
  | _ => false
def okTagR (m : Nat) : Tag → Bool
  | .ret => true
  | t => okTag m t

def noFlags : List PV → Bool
  | [] => true
  | p :: ps => noFlag p && noFlags ps

/-- The thing that a call made. -/
def NewCel (O : OpqSem Ω) (w : World) (σ : Seal) (τ : Nat → Tag) (b : Nat) : Cel Ω → Prop
  | .box cs => τ b = .ret ∧ σ b = 0 ∧ (∀ (off z : Nat) (es : List (List PV)), cs[off]? ≠ some (PV.sl .own z es)) ∧ ∃ vs ty, w.heap[b]? = some (.cells ⟨vs⟩ ty (0, 0)) ∧ RPs w σ cs vs
  | .opq x => ∃ foot, O.holds x w σ b foot ∧ ∀ k, foot k → τ k = .ret ∧ σ k = 0

/-- What a call leaves. -/
structure RetOK (O : OpqSem Ω) (r : Ret Ω) (E : Env) (τ : Nat → Tag) (v : Value) (E' : Env) (τ' : Nat → Tag) : Prop where
  ext : FExt E.w E.σ τ E'.w E'.σ τ'
  me : E'.me = E.me
  μ : E'.μ = E.μ
  frames : ∀ d F, r.2.2[d]? = some F → d < E.me → ∀ k c, look F k = some c → CelRel O E' τ' d k c
  val : RV E' r.1 v
  plain : pfr r.1 = true
  flag : ∀ s z es, r.1 ≠ .sl (.al s) z es
  right : ∀ z es, r.1 = .sl .own z es → Right E'.w E'.σ τ' .ret z es v
  new : ∀ c, r.2.1 = some c → noFlag r.1 = true ∧ NewCel O E'.w E'.σ τ' E'.fr c
  tags : ∀ b, okTagR E.me (τ' b) = true
  fresh : ∀ b, E'.w.heap.size ≤ b → E'.σ b = 0 ∧ τ' b = .frn

/-- A call may be handed these. -/
structure CallIn (O : OpqSem Ω) (vs : List PV) (S : List (Fr Ω)) (E : Env) (τ : Nat → Tag) (args : List Value) : Prop where
  me : E.me = S.length
  vals : RVs E vs args
  own : ownSubs [] vs = true
  flags : noFlags vs = true
  frames : ∀ d F, S[d]? = some F → ∀ k c, look F k = some c → CelRel O E τ d k c
  tags : ∀ b, okTag E.me (τ b) = true
  fresh : ∀ b, E.w.heap.size ≤ b → E.σ b = 0 ∧ τ b = .frn

/-- The functions do what 'Γ' says. -/
def Sound (P : Program) (O : OpqSem Ω) (Γ : Orc Ω) : Prop :=
  ∀ f vs S r, Γ f vs S = some r → ∀ (E : Env) (τ : Nat → Tag) (args : List Value), CallIn O vs S E τ args →
    Runs P f ⟨args⟩ E.w fun v w' => ∃ E' τ', E'.w = w' ∧ RetOK O r E τ v E' τ'

theorem Runs.mono {f : FuncId} {args : Array Value} {w : World} {R R' : Value → World → Prop} (h : Runs P f args w R) (hr : ∀ v w', R v w' → R' v w') : Runs P f args w R' := by
  unfold Runs at h ⊢
  split at h
  · exact hr _ _ h
  · refine Calls.mono h fun e w' he => ?_
    cases e with
    | returned v => exact hr _ _ he
    | _ => exact he
  · exact h.elim

theorem RV.clo_args {E : Env} {f : Nat} {a b : List PV} {v : Value} (h : RV E (.clo f a b) v) : ∃ va vb, v = .func (.func f) ⟨va⟩ ⟨vb⟩ ∧ RVs E a va ∧ RVs E b vb := h.clo_inv

/-- A call, from what is called. -/
theorem opOK_call {st' : FS Ω} {a : Act} {E : Env} {τ : Nat → Tag} {go : Oper} {c : Call} {x : Operand} {f : Nat} {first caps : List Value} (hop : go.op = .call c) (hc : c.callee = .value x) (hx : a.eval x = .func (.func f) ⟨first⟩ ⟨caps⟩)
    (h : Runs P f ⟨first ++ (c.args.toList.map a.eval) ++ caps⟩ E.w fun v w' => ∃ E' τ', E'.w = w' ∧ Inv O N st' (a.put go.dst v) E' τ' ∧ Step E E' τ τ') : OpOK P O N st' a E τ go := by
  intro K Q hK
  have hrun : (execOp a.eval go).run P E.w = (callFunc f ⟨first ++ (c.args.toList.map a.eval) ++ caps⟩).run P E.w := by
    have : (Array.mk first ++ c.args.map a.eval) ++ Array.mk caps = (⟨first ++ (c.args.toList.map a.eval) ++ caps⟩ : Array Value) := by
      apply Array.ext'
      simp
    simp only [execOp, hop, resolve, hc, Deferred.ofValue, hx, invoke, Sem.run_bind, Sem.run_pure, Result.andThen_ok]
    rw [this]
  unfold Oper.wp
  rw [hrun]
  unfold Runs at h
  split at h
  · rename_i v w' he
    rw [he]
    obtain ⟨E', τ', rfl, hI, hs⟩ := h
    exact hK _ E' τ' hI hs
  · rename_i g as w' he
    rw [he, Oper.upon_enter]
    refine Calls.mono h fun e w'' he => ?_
    cases e with
    | returned v =>
      obtain ⟨E', τ', rfl, hI, hs⟩ := he
      exact hK _ E' τ' hI hs
    | _ => exact he.elim
  · exact h.elim

mutual
theorem RV.homed {E E1 : Env} {d : Nat} (h : SExt E.w E.σ E1.w E1.σ) (hμ : E1.μ E1.me d = E.fr) : ∀ {p : PV} {v : Value}, RV E p v → pfr p = true → RV E1 (home d p) v ∧ ownSub [d] (home d p) = true
  | _, _, .pure (p := p) hp, hf => by
    have hpf := hp.pf
    have he : ∀ p : PV, pf p = true → home d p = p := home_pf d
    rw [he p hpf]
    exact ⟨.pure (hp.mono h), ownSub_pf p hpf⟩
  | _, _, .agg hs, hf => by
    simp only [pfr] at hf
    obtain ⟨h1, h2⟩ := RVs.homed h hμ hs hf
    exact ⟨.agg h1, h2⟩
  | _, _, .tup hs, hf => by
    simp only [pfr] at hf
    obtain ⟨h1, h2⟩ := RVs.homed h hμ hs hf
    exact ⟨.tup h1, h2⟩
  | _, _, .clo ha hb, hf => by
    simp only [pfr, Bool.and_eq_true] at hf
    refine ⟨.pure (.clo (RPs.mono h (ha.toPure hf.1)) (RPs.mono h (hb.toPure hf.2))), ?_⟩
    simp only [home, ownSub, Bool.and_eq_true]
    exact ⟨ownSubs_pfs _ hf.1, ownSubs_pfs _ hf.2⟩
  | _, _, .own k off, hf => by simp [pfr] at hf
  | _, _, .ptr _ k off, hf => by simp [pfr] at hf
  | _, _, .fresh off, hf => by
    refine ⟨?_, by simp [home, ownSub, hasN]⟩
    rw [← hμ]
    exact .own d off
  | _, _, .elp .., hf => by simp [pfr] at hf
theorem RVs.homed {E E1 : Env} {d : Nat} (h : SExt E.w E.σ E1.w E1.σ) (hμ : E1.μ E1.me d = E.fr) : ∀ {ps : List PV} {vs : List Value}, RVs E ps vs → pfrs ps = true → RVs E1 (homes d ps) vs ∧ ownSubs [d] (homes d ps) = true
  | _, _, .nil, _ => ⟨.nil, rfl⟩
  | _, _, .cons hp hs, hf => by
    simp only [pfrs, Bool.and_eq_true] at hf
    obtain ⟨h1, h2⟩ := RV.homed h hμ hp hf.1
    obtain ⟨h3, h4⟩ := RVs.homed h hμ hs hf.2
    exact ⟨.cons h1 h3, by simp only [homes, ownSubs, Bool.and_eq_true]; exact ⟨h2, h4⟩⟩
theorem home_pf (d : Nat) : ∀ p : PV, pf p = true → home d p = p
  | .agg cs, h => by simp only [pf] at h; simp only [home]; rw [homes_pfs d cs h]
  | .tup cs, h => by simp only [pf] at h; simp only [home]; rw [homes_pfs d cs h]
  | .fresh _, h => by simp [pf] at h
  | .undef, _ | .sc _, _ | .sl .., _ | .own .., _ | .ptr .., _ | .elp .., _ | .clo .., _ => rfl
theorem homes_pfs (d : Nat) : ∀ ps : List PV, pfs ps = true → homes d ps = ps
  | [], _ => rfl
  | p :: ps, h => by
    simp only [pfs, Bool.and_eq_true] at h
    simp only [homes]
    rw [home_pf d p h.1, homes_pfs d ps h.2]
end
end Go.Fw
end
section
/- Calls, II: what a call's answer leaves in the frame. -/
namespace Go.Fw
variable {Ω : Type} {O : OpqSem Ω} {N : Nat} {P : Program}

def newTag (me : Nat) (dst : Option Nat) (o : Option (Cel Ω)) : Tag :=
  match dst, o with
  | some d, none => .slot d
  | some d, some (.box _) => .box me d
  | some d, some (.opq _) => .opq me d
  | none, _ => .frn

theorem SExt.of_eq {w w' : World} {σ σ' : Seal} (hw : w' = w) (hs : σ' = σ) : SExt w σ w' σ' := by subst hw hs; exact .refl _ _

theorem land {st1 st' : FS Ω} {a : Act} {E0 E1 E2 : Env} {τ0 τ1 τ2 : Nat → Tag} (hI : Inv O N st1 a E1 τ1) {r : Ret Ω} {v : Value} (hR : RetOK O r E0 τ0 v E2 τ2) (hw : E1.w = E2.w) (hσ : E1.σ = E2.σ) {dst : Option Nat}
    (hτ : ∀ b, τ2 b = .ret → τ1 b = newTag E1.me dst r.2.1) (hst : st1.homed dst r.1 r.2.1 = some st') (hd : ∀ d, dst = some d → d < N) :
    ∃ E3, Inv O N st' (a.put dst v) E3 τ1 ∧ Step E1 E3 τ1 τ1 ∧ E3.w = E1.w := by
  have hs : SExt E2.w E2.σ E1.w E1.σ := .of_eq hw hσ
  generalize ho : r.2.1 = o at hst hτ
  cases o with
  | none =>
    refine ⟨E1, ?_, .refl E1 τ1, rfl⟩
    simp only [FS.homed] at hst
    split at hst
    · rename_i hpf
      have hv : RV E1 r.1 v := .pure ((hR.val.toPure hpf).mono hs)
      have hown : ownSub (keys st1.L) r.1 = true := ownSub_pf _ hpf
      cases ho' : isOwn r.1 with
      | false =>
        have hput : st1.put dst r.1 = st' := by
          cases dst with
          | none => simp only [FS.putR, Option.some.injEq] at hst; exact hst
          | some d => simp only [FS.putR, ho', Bool.not_false, Bool.true_or, if_true, Option.some.injEq] at hst; exact hst
        rw [← hput]
        refine hI.putPlain hd hv hown ?_
        have hfl := hR.flag
        generalize r.1 = p at ho' hfl
        cases p with
        | sl f z es => cases f <;> first | rfl | exact absurd rfl (hfl _ _ _) | cases ho'
        | _ => rfl
      | true =>
        obtain ⟨z, es, hz⟩ := isOwn_eq ho'
        cases dst with
        | none =>
          simp only [FS.putR, Option.some.injEq] at hst
          subst hst
          exact hI
        | some d =>
          simp only [FS.putR] at hst
          split at hst
          · rename_i hno
            simp only [Option.some.injEq] at hst
            rw [hz] at hst hv hno
            rw [← hst]
            refine hI.putOwn (hd d rfl) hv ?_ (fun _ => by simpa [isOwn] using hno)
            rcases hR.right z es hz with h | ⟨b, cap, c, ty, h1, h2, h3, h4, h5⟩
            · exact .inl h
            · exact .inr ⟨b, cap, c, ty, h1, hτ b h2, by rw [hσ]; exact h3, by rw [hw]; exact h4, h5⟩
          · cases hst
    · cases hst
  | some c =>
    cases dst with
    | none => simp [FS.homed] at hst
    | some d =>
      simp only [FS.homed] at hst
      split at hst
      · rename_i hL
        simp only [Option.some.injEq] at hst
        subst hst
        obtain ⟨hnf, hnc⟩ := hR.new c ho
        refine ⟨{ E1 with μ := fun e k => if e = E1.me ∧ k = d then E2.fr else E1.μ e k }, ?_, ⟨.refl _ _ _, rfl, rfl, fun e k he => by show (if _ then _ else _) = _; rw [if_neg]; rintro ⟨h, _⟩; omega⟩, rfl⟩
        have hhome := RV.homed (E := E2) (E1 := { E1 with μ := fun e k => if e = E1.me ∧ k = d then E2.fr else E1.μ e k }) (d := d) hs (by simp) hR.val hR.plain
        refine hI.newBox (hd d rfl) hL ?_ ?_ hhome.1 hhome.2 ?_
        · cases c with
          | box cs =>
            obtain ⟨h1, h2, h3, vs, ty, h4, h5⟩ := hnc
            refine ⟨?_, ?_, ownSubs_pfs _ h5.pfs, vs, ty, ?_, .of_RPs (RPs.mono hs h5), ?_⟩
            · simp only [and_self, if_true]; exact hτ _ h1
            · simp only [and_self, if_true]; rw [hσ]; exact h2
            · simp only [and_self, if_true]; rw [hw]; exact h4
            · intro off z es h; exact absurd h (h3 off z es)
          | opq x =>
            obtain ⟨foot, h1, h2⟩ := hnc
            refine ⟨foot, ?_, fun b hb => ?_⟩
            · simp only [and_self, if_true]; rw [hw, hσ]; exact h1
            · exact ⟨hτ b (h2 b hb).1, by show E1.σ b = 0; rw [hσ]; exact (h2 b hb).2⟩
        · rintro cs rfl off z es h
          obtain ⟨_, _, h3, _⟩ := hnc
          exact h3 off z es h
        · generalize r.1 = p at hnf
          cases p with
          | sl f z es => cases f <;> first | rfl | cases hnf
          | _ => rfl
      · cases hst

/-- A frame, seen by one that knows nothing of it. -/
theorem calm_quiet {E E2 : Env} {τ τ2 : Nat → Tag} {r : Ret Ω} {v : Value} (h : RetOK O r { E with me := 0 } (fun _ => .frn) v E2 τ2) (g : Tag) :
    Calm E { E with w := E2.w, σ := E2.σ } τ (fun b => if b < E.w.heap.size then τ b else match τ2 b with | .ret => g | _ => .frn) := by
  have hk : ∀ b, b < E.w.heap.size → E2.w.heap[b]? = E.w.heap[b]? ∧ τ2 b = .frn ∧ E2.σ b = E.σ b := fun b hb => h.ext.keep b hb rfl
  refine ⟨⟨h.ext.size, h.ext.sext, ?_, h.ext.os, h.ext.tape, h.ext.output, h.ext.drawn⟩, rfl, rfl, fun _ _ => rfl, ?_, ?_⟩
  · intro b hb hτ
    exact ⟨(hk b hb).1, by rw [if_pos hb]; exact hτ, (hk b hb).2.2⟩
  · intro b hb _
    exact ⟨(hk b hb).1, by rw [if_pos hb], (hk b hb).2.2⟩
  · intro b hb
    obtain ⟨h1, h2⟩ := h.fresh b hb
    have : ¬ b < E.w.heap.size := by have := h.ext.size; have : E.w.heap.size ≤ E2.w.heap.size := this; have hb : E2.w.heap.size ≤ b := hb; omega
    exact ⟨h1, by rw [if_neg this, h2]⟩

theorem noFlags_canons : ∀ ps : List PV, noFlags (canons ps) = true
  | [] => rfl
  | p :: ps => by simp only [canons, noFlags, Bool.and_eq_true]; exact ⟨noFlag_canon p, noFlags_canons ps⟩

/-- A call that is handed no box. -/
theorem o_qcall {Γ : Orc Ω} (hΓ : Sound P O Γ) {st st' : FS Ω} {a : Act} {E : Env} {τ : Nat → Tag} (hI : Inv O N st a E τ) {go : Oper} {c : Call} {x : Operand} {f : Nat} {first caps : List Value} (hop : go.op = .call c) (hc : c.callee = .value x)
    (hx : a.eval x = .func (.func f) ⟨first⟩ ⟨caps⟩) (hd : ∀ d, go.dst = some d → d < N) {vs : List PV} (hvs : RVs E (canons vs) (first ++ (c.args.toList.map a.eval) ++ caps)) (h : st.qcall Γ go.dst f (canons vs) = some st') :
    OpOK P O N st' a E τ go := by
  simp only [FS.qcall] at h
  split at h
  · rename_i hpf
    rw [Option.bind_eq_some_iff] at h
    obtain ⟨r, hr, h⟩ := h
    refine opOK_call hop hc hx (Runs.mono (hΓ f _ [] r hr { E with me := 0 } (fun _ => .frn) _ ⟨rfl, .of_RPs (E := { E with me := 0 }) (hvs.toPure hpf), ownSubs_pfs _ hpf, noFlags_canons vs, fun d F h => by simp at h, fun b => rfl, fun b hb => ⟨(hI.fresh b hb).1, rfl⟩⟩) ?_)
    rintro v w' ⟨E2, τ2, rfl, hR⟩
    have hC := calm_quiet (τ := τ) hR (newTag E.me go.dst r.2.1)
    obtain ⟨E3, h1, h2, h3⟩ := land (hI.calm hC) hR rfl rfl (dst := go.dst) (by
      intro b hb
      have : ¬ b < E.w.heap.size := by
        intro hlt
        have := (hR.ext.keep b hlt rfl).2.1
        rw [hb] at this; cases this
      show (if _ then _ else _) = _
      rw [if_neg this, hb]) h hd
    exact ⟨E3, _, h3, h1, hC.step.trans h2⟩
  · cases h
end Go.Fw
end
section
/- Calls, III: calls that may be handed boxes. -/
namespace Go.Fw
variable {Ω : Type} {O : OpqSem Ω} {N : Nat} {P : Program}

theorem CelRel.convμ {E E' : Env} {τ τ' : Nat → Tag} {d k : Nat} {c : Cel Ω} (hw : E'.w = E.w) (hσ : E'.σ = E.σ) (hμ : ∀ e j, e ≤ d → E'.μ e j = E.μ e j)
    (hτ : ∀ b t, τ b = t → (t = .box d k ∨ t = .opq d k ∨ ∃ off, t = .cell d k off) → τ' b = t) (h : CelRel O E τ d k c) : CelRel O E' τ' d k c := by
  have hμd := hμ d k (Nat.le_refl _)
  cases c with
  | box cs =>
    obtain ⟨h1, h2, h3, vs, ty, h4, h5, h6⟩ := h
    refine ⟨by rw [hμd]; exact hτ _ _ h1 (.inl rfl), by rw [hμd, hσ]; exact h2, h3, vs, ty, by rw [hμd, hw]; exact h4, ?_, ?_⟩
    · exact RVs.move (E := { E with me := d }) (E' := { E' with me := d }) (D := []) (.of_eq hw hσ) (fun k hk => by cases hk) (fun e j he => hμ e j (Nat.le_of_lt he)) rfl h5 h3
    · intro off z es ho
      obtain ⟨v, hv, hr⟩ := h6 off z es ho
      refine ⟨v, hv, ?_⟩
      rcases hr with h | ⟨b, cap, c, ty, k1, k2, k3, k4, k5⟩
      · exact .inl h
      · exact .inr ⟨b, cap, c, ty, k1, hτ b _ k2 (.inr (.inr ⟨off, rfl⟩)), by rw [hσ]; exact k3, by rw [hw]; exact k4, k5⟩
  | opq x =>
    obtain ⟨foot, hx, hf⟩ := h
    exact ⟨foot, by rw [hw, hσ, hμd]; exact hx, fun b hb => ⟨hτ b _ (hf b hb).1 (.inr (.inl rfl)), by rw [hσ]; exact (hf b hb).2⟩⟩
theorem CelRel.conv {E E' : Env} {τ τ' : Nat → Tag} {d k : Nat} {c : Cel Ω} (hw : E'.w = E.w) (hσ : E'.σ = E.σ) (hμ : E'.μ = E.μ)
    (hτ : ∀ b t, τ b = t → (t = .box d k ∨ t = .opq d k ∨ ∃ off, t = .cell d k off) → τ' b = t) (h : CelRel O E τ d k c) : CelRel O E' τ' d k c :=
  h.convμ hw hσ (fun e j _ => by rw [hμ]) hτ

mutual
theorem outw_pf (m : Nat) : ∀ p : PV, pf p = true → outw m p = p
  | .agg cs, h => by simp only [pf] at h; simp only [outw]; rw [outws_pfs m cs h]
  | .tup cs, h => by simp only [pf] at h; simp only [outw]; rw [outws_pfs m cs h]
  | .clo _ a b, h => by
    simp only [pf, Bool.and_eq_true] at h
    simp only [outw]; rw [outws_pfs m a h.1, outws_pfs m b h.2]
  | .own .., h => by simp [pf] at h
  | .undef, _ | .sc _, _ | .sl .., _ | .ptr .., _ | .elp .., _ | .fresh _, _ => rfl
theorem outws_pfs (m : Nat) : ∀ ps : List PV, pfs ps = true → outws m ps = ps
  | [], _ => rfl
  | p :: ps, h => by
    simp only [pfs, Bool.and_eq_true] at h
    simp only [outws]
    rw [outw_pf m p h.1, outws_pfs m ps h.2]
end
mutual
theorem RV.outw {E : Env} : ∀ {p : PV} {v : Value}, RV E p v → RV { E with me := E.me + 1 } (outw E.me p) v
  | _, _, .pure (p := p) hp => by rw [outw_pf E.me p hp.pf]; exact .pure hp
  | _, _, .agg hs => .agg (RVs.outw hs)
  | _, _, .tup hs => .tup (RVs.outw hs)
  | _, _, .clo ha hb => .clo (RVs.outw ha) (RVs.outw hb)
  | _, _, .own k off => .ptr (E := { E with me := E.me + 1 }) (Nat.lt_succ_self _) k off
  | _, _, .ptr hd k off => .ptr (E := { E with me := E.me + 1 }) (Nat.lt_succ_of_lt hd) k off
  | _, _, .fresh off => .fresh off
  | _, _, .elp hi he hc => .elp hi he hc
theorem RVs.outw {E : Env} : ∀ {ps : List PV} {vs : List Value}, RVs E ps vs → RVs { E with me := E.me + 1 } (outws E.me ps) vs
  | _, _, .nil => .nil
  | _, _, .cons hp hs => .cons (RV.outw hp) (RVs.outw hs)
end
mutual
theorem ownSub_outw {D : List Nat} (m : Nat) : ∀ p : PV, ownSub D p = true → ownSub [] (outw m p) = true
  | .agg cs, h => by simp only [ownSub] at h; simp only [outw, ownSub]; exact ownSubs_outws m cs h
  | .tup cs, h => by simp only [ownSub] at h; simp only [outw, ownSub]; exact ownSubs_outws m cs h
  | .clo _ a b, h => by
    simp only [ownSub, Bool.and_eq_true] at h
    simp only [outw, ownSub, Bool.and_eq_true]
    exact ⟨ownSubs_outws m a h.1, ownSubs_outws m b h.2⟩
  | .fresh _, h => by simp [ownSub] at h
  | .undef, _ | .sc _, _ | .sl .., _ | .ptr .., _ | .elp .., _ | .own .., _ => rfl
theorem ownSubs_outws {D : List Nat} (m : Nat) : ∀ ps : List PV, ownSubs D ps = true → ownSubs [] (outws m ps) = true
  | [], _ => rfl
  | p :: ps, h => by
    simp only [ownSubs, Bool.and_eq_true] at h
    simp only [outws, ownSubs, Bool.and_eq_true]
    exact ⟨ownSub_outw m p h.1, ownSubs_outws m ps h.2⟩
end
theorem noFlag_outw (m : Nat) (p : PV) : noFlag (outw m p) = noFlag p := by cases p <;> rfl
theorem noFlags_outws (m : Nat) : ∀ ps : List PV, noFlags (outws m ps) = noFlags ps
  | [] => rfl
  | p :: ps => by simp only [outws, noFlags]; rw [noFlag_outw, noFlags_outws m ps]

theorem sameKeys_keys : ∀ {a b : Fr Ω}, sameKeys a b = true → keys b = keys a
  | [], [], _ => rfl
  | (j, _) :: a, (k, _) :: b, h => by
    simp only [sameKeys, Bool.and_eq_true] at h
    have := Nat.eq_of_beq_eq_true h.1
    simp only [keys, List.map_cons]
    rw [this]
    have := sameKeys_keys h.2
    simp only [keys] at this
    rw [this]
  | [], _ :: _, h => by cases h
  | _ :: _, [], h => by cases h

/-- What a callee sees of the tags; and what they are behind it. -/
def seen (m : Nat) (τ : Nat → Tag) : Nat → Tag := fun b => if okTag (m + 1) (τ b) then τ b else .frn
def behind (m size : Nat) (τ τ2 : Nat → Tag) (g : Tag) : Nat → Tag := fun b => if b < size ∧ okTag (m + 1) (τ b) = false then τ b else match τ2 b with | .ret => g | t => t

theorem seen_of {m : Nat} {τ : Nat → Tag} {b : Nat} {t : Tag} (h : τ b = t) (ht : okTag (m + 1) t = true) : seen m τ b = t := by unfold seen; rw [h, if_pos ht]

theorem behind_of {m size : Nat} {τ τ2 : Nat → Tag} {g : Tag} (hk : ∀ b, b < size → seen m τ b = .frn → τ2 b = .frn) {b : Nat} {t : Tag} (h : τ2 b = t) (h1 : t ≠ .ret) (h2 : t ≠ .frn) : behind m size τ τ2 g b = t := by
  unfold behind
  rw [if_neg]
  · rw [h]; cases t <;> first | rfl | exact absurd rfl h1
  · rintro ⟨hb, hf⟩
    have := hk b hb (by unfold seen; rw [hf]; rfl)
    rw [h] at this
    exact h2 this

theorem o_xcall {Γ : Orc Ω} (hΓ : Sound P O Γ) {st st' : FS Ω} {a : Act} {E : Env} {τ : Nat → Tag} (hI : Inv O N st a E τ) {go : Oper} {c : Call} {x : Operand} {f : Nat} {first caps : List Value} (hop : go.op = .call c) (hc : c.callee = .value x)
    (hx : a.eval x = .func (.func f) ⟨first⟩ ⟨caps⟩) (hd : ∀ d, go.dst = some d → d < N) {vs : List PV} (hvs : RVs E (canons vs) (first ++ (c.args.toList.map a.eval) ++ caps)) (hown : ownSubs (keys st.L) vs = true) (h : st.xcall Γ go.dst f (canons vs) = some st') :
    OpOK P O N st' a E τ go := by
  simp only [FS.xcall] at h
  rw [Option.bind_eq_some_iff] at h
  obtain ⟨r, hr, h⟩ := h
  rw [Option.bind_eq_some_iff] at h
  obtain ⟨L', hL', h⟩ := h
  split at h
  · rename_i hck
    simp only [Bool.and_eq_true] at hck
    obtain ⟨hkeys, hlen⟩ := hck
    have hlen := Nat.eq_of_beq_eq_true hlen
    have hkeys := sameKeys_keys hkeys
    have hme := hI.me
    rw [← hme] at hr hL' h hlen
    have hin : CallIn O (outws E.me (canons vs)) (st.S ++ [st.L]) { E with me := E.me + 1 } (seen E.me τ) (first ++ (c.args.toList.map a.eval) ++ caps) := by
      refine ⟨by simp [hme], hvs.outw, ownSubs_outws _ _ (by rw [ownSubs_canons]; exact hown), by rw [noFlags_outws]; exact noFlags_canons vs, ?_, ?_, ?_⟩
      · intro d F hF k c hc
        have hcel : d ≤ E.me ∧ CelRel O E τ d k c := by
          rw [List.getElem?_append] at hF
          split at hF
          · rename_i hlt
            exact ⟨by omega, hI.frames d F hF k c hc⟩
          · rename_i hge
            have hd0 : d - st.S.length = 0 := by
              rcases Nat.eq_zero_or_pos (d - st.S.length) with h | h
              · exact h
              · rw [List.getElem?_cons, if_neg (by omega)] at hF; simp at hF
            rw [hd0] at hF
            simp only [List.getElem?_cons_zero, Option.some.injEq] at hF
            subst hF
            have : d = E.me := by omega
            rw [this]
            exact ⟨Nat.le_refl _, hI.mine k c hc⟩
        refine hcel.2.conv (E' := { E with me := E.me + 1 }) rfl rfl rfl ?_
        rintro b t hb (rfl | rfl | ⟨off, rfl⟩)
        all_goals exact seen_of hb (by simp only [okTag]; rw [Nat.blt_eq]; omega)
      · intro b
        show okTag (E.me + 1) (seen E.me τ b) = true
        unfold seen
        split
        · assumption
        · rfl
      · intro b hb
        obtain ⟨h1, h2⟩ := hI.fresh b hb
        exact ⟨h1, seen_of h2 rfl⟩
    refine opOK_call hop hc hx (Runs.mono (hΓ f _ _ r hr { E with me := E.me + 1 } (seen E.me τ) _ hin) ?_)
    rintro v w' ⟨E2, τ2, rfl, hR⟩
    have hk : ∀ b, b < E.w.heap.size → seen E.me τ b = .frn → E2.w.heap[b]? = E.w.heap[b]? ∧ τ2 b = .frn ∧ E2.σ b = E.σ b := fun b hb h => hR.ext.keep b hb h
    have hsize : E.w.heap.size ≤ E2.w.heap.size := hR.ext.size
    let g := newTag E.me go.dst r.2.1
    let τ1 := behind E.me E.w.heap.size τ τ2 g
    let E1 : Env := { E with w := E2.w, σ := E2.σ }
    have hhid : ∀ b, b < E.w.heap.size → okTag (E.me + 1) (τ b) = false → E2.w.heap[b]? = E.w.heap[b]? ∧ τ1 b = τ b ∧ E2.σ b = E.σ b := by
      intro b hb hf
      obtain ⟨h1, _, h3⟩ := hk b hb (by unfold seen; rw [hf]; rfl)
      exact ⟨h1, by show behind _ _ _ _ _ b = _; unfold behind; rw [if_pos ⟨hb, hf⟩], h3⟩
    have hcel : ∀ d F, r.2.2[d]? = some F → d ≤ E.me → ∀ k c, look F k = some c → CelRel O E1 τ1 d k c := by
      intro d F hF hd k c hc
      refine (hR.frames d F hF (Nat.lt_succ_of_le hd) k c hc).conv (E := E2) (E' := E1) rfl rfl hR.μ.symm ?_
      rintro b t hb (rfl | rfl | ⟨off, rfl⟩)
      all_goals exact behind_of (fun b hb h => (hk b hb h).2.1) hb (by intro h; cases h) (by intro h; cases h)
    have hstep : Step E E1 τ τ1 := by
      refine ⟨⟨hsize, hR.ext.sext, ?_, hR.ext.os, hR.ext.tape, hR.ext.output, hR.ext.drawn⟩, rfl, rfl, fun _ _ _ => rfl⟩
      intro b hb hτ
      obtain ⟨h1, h2, h3⟩ := hk b hb (seen_of hτ rfl)
      refine ⟨h1, ?_, h3⟩
      show behind _ _ _ _ _ b = _
      unfold behind
      rw [if_neg (by rw [hτ]; rintro ⟨_, h⟩; cases h), h2]
    have hI1 : Inv O N { st with S := r.2.2.take E.me, L := L', dirty := true } a E1 τ1 := by
      constructor
      · show E.me = (r.2.2.take E.me).length
        rw [List.length_take, hlen]; omega
      · exact hI.defers
      · exact hI.size
      · intro t; exact RV.mono (E := E) (E' := E1) hR.ext.sext (fun _ _ _ => rfl) rfl rfl (hI.slots t)
      · intro d F hF k c hc
        have hF : (r.2.2.take E.me)[d]? = some F := hF
        rw [List.getElem?_take] at hF
        split at hF
        · exact hcel d F hF (by omega) k c hc
        · cases hF
      · intro k c hc
        exact hcel E.me L' hL' (Nat.le_refl _) k c hc
      · intro t
        show ownSub (keys L') _ = true
        rw [hkeys]; exact hI.wfs t
      · intro t z es hp
        rcases hI.rights t z es hp with h | ⟨b, cap, c, ty, k1, k2, k3, k4, k5⟩
        · exact .inl h
        · obtain ⟨m1, m2, m3⟩ := hhid b (lt_of_some k4) (by rw [k2]; rfl)
          exact .inr ⟨b, cap, c, ty, k1, m2.trans k2, m3.trans k3, m1.trans k4, k5⟩
      · intro h; cases h
      · intro h; cases h
      · intro h; cases h
      · intro b hb
        obtain ⟨h1, h2⟩ := hR.fresh b hb
        have hb : E2.w.heap.size ≤ b := hb
        refine ⟨h1, ?_⟩
        show behind _ _ _ _ _ b = _
        unfold behind
        rw [if_neg (by rintro ⟨h, _⟩; omega), h2]
      · exact hI.alP
    obtain ⟨E3, h1, h2, h3⟩ := land hI1 hR rfl rfl (dst := go.dst) (by
      intro b hb
      show behind _ _ _ _ _ b = _
      unfold behind
      rw [if_neg, hb]
      rintro ⟨hlt, hf⟩
      have := (hk b hlt (by unfold seen; rw [hf]; rfl)).2.1
      rw [hb] at this; cases this) h hd
    exact ⟨E3, _, h3, h1, hstep.trans h2⟩
  · cases h
end Go.Fw
end
section
/- One operation, whole. -/
namespace Go.Fw
variable {Ω : Type} {O : OpqSem Ω} {N : Nat} {P : Program}

def sameD : Option Nat → Option Nat → Bool
  | some a, some b => Nat.beq a b
  | none, none => true
  | _, _ => false
theorem sameD_eq {a b : Option Nat} (h : sameD a b = true) : a = b := by
  cases a <;> cases b <;> first | rfl | cases h | (rw [Nat.eq_of_beq_eq_true h])

def dstOK (N : Nat) : Option Nat → Bool
  | some d => Nat.blt d N
  | none => true
theorem dstOK_lt {N : Nat} {o : Option Nat} (h : dstOK N o = true) : ∀ d, o = some d → d < N := by
  rintro d rfl
  exact Nat.blt_eq ▸ h

def isSome' {α : Type} : Option α → Bool
  | some _ => true
  | none => false

/-- The operation, but its guard. -/
def chkMem (P : Program) (RO : Nat → Bool) (d : Option Nat) : Op → IOp → Bool
  | .assign x, .asg y => chkO x y
  | .alloc t, .zalloc cs => isSome' d && (match P.info? t with
    | some i => (match i.zero with | some z => chkVs z.cells.toList cs | none => false)
    | none => false)
  | .box _ x, .box _ y => isSome' d && chkO x y
  | .load t x, .load n y => isN (shapeOf P t) n && chkO x y
  | .load t x, .loadx _ n y => isN (shapeOf P t) n && chkO x y
  | .store t x y, .storek _ n x' y' => !isSome' d && (isN (shapeOf P t) n && (chkO x x' && chkO y y'))
  | .store t x y, .store n x' y' => !isSome' d && (isN (shapeOf P t) n && (chkO x x' && chkO y y'))
  | .buildSlice t len ps, .bslice z _ ys => (match P.underlying t with
    | some (.slice e) => (match P.info? e with
      | some i => Nat.beq i.size z && (isSome' i.zero && (Nat.beq len ys.length && (Nat.ble (len * z) (2 ^ 24) && chkIdx 0 ps.toList ys)))
      | none => false)
    | _ => false)
  | .call { callee := .builtin .append, args, argTypes }, .app _ z bytes x' y' => (match argTypes[0]?, argTypes[1]?, args.toList with
    | some t, some u, [x, y] => (match P.underlying t with
      | some (.slice e) => (match P.info? e with
        | some i => Nat.beq i.size z && (Nat.beq i.bytes bytes && (Nat.ble 1 bytes && ((match i.zero with | some zv => Nat.beq zv.cells.size z | none => false) && (isSl P u && (chkO x x' && chkO y y')))))
        | none => false)
      | _ => false)
    | _, _, _ => false)
  | .call { callee := .value x, args, argTypes := _ }, .call f ys => chkO x (.f f) && chkOs args.toList ys
  | .call { callee := .value x, args, argTypes := _ }, .callx f ys => chkO x (.f f) && chkOs args.toList ys
  | .call { callee := .value x, args, argTypes := _ }, .callr f ys => RO f && (chkO x (.f f) && chkOs args.toList ys)
  | .call { callee := .value x, args, argTypes := _ }, .callv y ys => chkO x y && chkOs args.toList ys
  | .call { callee := .value x, args, argTypes := _ }, .callvx y ys => chkO x y && chkOs args.toList ys
  | _, _ => false

def chkOp (P : Program) (RO : Nat → Bool) (N : Nat) (o : Oper) (io : IOper) : Bool :=
  sameD o.dst io.dst && (dstOK N o.dst && (chkMem P RO o.dst o.op io.op || chkPure P o.op io.op))

theorem isSome'_of {α : Type} {o : Option α} (h : isSome' o = true) : ∃ a, o = some a := by cases o with | some a => exact ⟨a, rfl⟩ | none => cases h

/-- What 'RO' says writes no box, writes none. -/
def ROok (RO : Nat → Bool) (Γ : Orc Ω) : Prop := ∀ f, RO f = true → ∀ vs S r, Γ f vs S = some r → r.2.2 = S

theorem sameKeys_refl : ∀ a : Fr Ω, sameKeys a a = true
  | [] => rfl
  | (j, _) :: a => by simp only [sameKeys, Bool.and_eq_true]; exact ⟨Nat.beq_refl j, sameKeys_refl a⟩

theorem rcall_xcall {Γ : Orc Ω} {st st' : FS Ω} {d : Option Nat} {f : Nat} {vs : List PV} (hro : ∀ vs S r, Γ f vs S = some r → r.2.2 = S) (h : st.rcall Γ d f vs = some st') : st.xcall Γ d f vs = some st' := by
  unfold FS.rcall at h
  unfold FS.xcall
  rw [Option.bind_eq_some_iff] at h ⊢
  obtain ⟨r, hr, h⟩ := h
  refine ⟨r, hr, ?_⟩
  have hS := hro _ _ _ hr
  split at h
  · rename_i ho
    rw [hS, ho]
    rw [List.getElem?_append_right (Nat.le_refl _), Nat.sub_self, List.getElem?_cons_zero, Option.bind_some, if_pos]
    · rw [List.take_left' rfl]
      exact h
    · simp [sameKeys_refl, Nat.beq_refl]
  · cases h

theorem storeV_ok {st st' : FS Ω} {a : Act} {E : Env} {τ : Nat → Tag} (hI : Inv O N st a E τ) {go : Oper} {t : TypeId} {x y : Operand} {x' y' : Opd} {n : Option Nat} (hop : go.op = .store t x y) (hs : isSome' go.dst = false)
    (hn : isN (shapeOf P t) n = true) (hx : chkO x x' = true) (hy : chkO y y' = true) (h : st.storeV n x' y' = some st') : OpOK P O N st' a E τ go := by
  have hds : go.dst = none := by cases hq : go.dst with | none => rfl | some d => rw [hq] at hs; cases hs
  simp only [FS.storeV] at h
  split at h
  · rename_i cs off src vs hb hc
    split at h
    · rename_i hcond
      simp only [Bool.and_eq_true] at hcond
      obtain ⟨hl, hso, hok⟩ := hcond
      split at h
      · rename_i st2 h2
        simp only [Option.some.injEq] at h
        rw [← h]
        exact o_store hI hop hds hn hx hy hb hc (Nat.le_of_ble_eq_true hl) hso hok h2
      · cases h
    · cases h
  · cases h

theorem mem_ok {RO : Nat → Bool} {Γ : Orc Ω} (hΓ : Sound P O Γ) (hRO : ROok RO Γ) {st st' : FS Ω} {a : Act} {E : Env} {τ : Nat → Tag} (hI : Inv O N st a E τ) {go : Oper} {io : IOper} (hdst : go.dst = io.dst) (hd : ∀ d, go.dst = some d → d < N)
    (hk : chkMem P RO go.dst go.op io.op = true) (h : stepOp Γ io st = some st') : OpOK P O N st' a E τ go := by
  obtain ⟨idst, iop, ig⟩ := io
  simp only at hdst hk
  subst hdst
  generalize hop : go.op = op at hk
  unfold chkMem at hk
  split at hk
  · -- assign
    simp only [stepOp, Option.some.injEq] at h
    rw [← h]
    exact o_asg hI hop hk hd
  · -- alloc
    simp only [Bool.and_eq_true] at hk
    obtain ⟨hs, hk⟩ := hk
    obtain ⟨d, hds⟩ := isSome'_of hs
    split at hk
    · rename_i i hi
      split at hk
      · rename_i z hz
        simp only [stepOp, hds] at h
        split at h
        · rename_i hL
          split at h
          · simp only [Option.some.injEq] at h
            exact o_alloc hI hop hds (hd d hds) hi hz hk hL h.symm
          · cases h
        · cases h
      · cases hk
    · cases hk
  · -- box
    simp only [Bool.and_eq_true] at hk
    obtain ⟨hs, hk⟩ := hk
    obtain ⟨d, hds⟩ := isSome'_of hs
    simp only [stepOp, hds] at h
    split at h
    · rename_i d' cs hdd hc
      injection hdd with hdd
      subst hdd
      split at h
      · rename_i hL
        split at h
        · rename_i ho
          simp only [Option.some.injEq] at h
          exact o_box hI hop hds (hd _ hds) hk hc hL ho h.symm
        · cases h
      · cases h
    · cases h
  · -- load
    simp only [Bool.and_eq_true] at hk
    simp only [stepOp, Option.map_eq_some_iff] at h
    obtain ⟨p, hp, h⟩ := h
    exact o_load hI hop hd hk.1 hk.2 hp h.symm
  · -- loadx
    simp only [Bool.and_eq_true] at hk
    simp only [stepOp] at h
    split at h
    · rw [Option.map_eq_some_iff] at h
      obtain ⟨p, hp, h⟩ := h
      exact o_load hI hop hd hk.1 hk.2 hp h.symm
    · cases h
  · -- storek
    simp only [Bool.and_eq_true, Bool.not_eq_true'] at hk
    obtain ⟨hs, hn, hx, hy⟩ := hk
    simp only [stepOp] at h
    split at h
    · exact storeV_ok hI hop hs hn hx hy h
    · cases h
  · -- store
    simp only [Bool.and_eq_true, Bool.not_eq_true'] at hk
    obtain ⟨hs, hn, hx, hy⟩ := hk
    exact storeV_ok hI hop hs hn hx hy h
  · -- slice literal
    split at hk
    · rename_i e ht
      split at hk
      · rename_i i hi
        simp only [Bool.and_eq_true] at hk
        obtain ⟨hz, hzero, hn, hbig, hk⟩ := hk
        obtain ⟨zv, hzv⟩ := isSome'_of hzero
        simp only [stepOp] at h
        rw [Option.bind_eq_some_iff] at h
        obtain ⟨l, hl, h⟩ := h
        exact o_bslice hI hop ht hi (Nat.eq_of_beq_eq_true hz) hzv (Nat.eq_of_beq_eq_true hn) (Nat.le_of_ble_eq_true hbig) hk hd hl h
      · cases hk
    · cases hk
  · -- append
    split at hk
    · rename_i t u x y hts htu ha
      split at hk
      · rename_i e ht
        split at hk
        · rename_i i hi
          simp only [Bool.and_eq_true] at hk
          obtain ⟨hz, hb, hbp, hzero, hu, hx, hy⟩ := hk
          split at hzero
          · rename_i zv hzv
            obtain ⟨e2, hu⟩ := isSl_of hu
            exact o_app hI hop ha hts htu ht hu hi (Nat.eq_of_beq_eq_true hz) (Nat.eq_of_beq_eq_true hb) (Nat.le_of_ble_eq_true hbp) hzv (Nat.eq_of_beq_eq_true hzero) hx hy hd h
          · cases hzero
        · cases hk
      · cases hk
    · cases hk
  · -- call
    simp only [Bool.and_eq_true] at hk
    obtain ⟨hx, hys⟩ := hk
    have hv := chkO_RV hI hx
    obtain ⟨va, vb, he, hva, hvb⟩ := hv.clo_inv
    cases hva; cases hvb
    simp only [stepOp] at h
    refine o_qcall hΓ hI hop rfl he hd ?_ h
    simp only [List.nil_append, List.append_nil]
    exact (chkOs_RVs hI hys).canons
  · simp only [Bool.and_eq_true] at hk
    obtain ⟨hx, hys⟩ := hk
    have hv := chkO_RV hI hx
    obtain ⟨va, vb, he, hva, hvb⟩ := hv.clo_inv
    cases hva; cases hvb
    simp only [stepOp] at h
    refine o_xcall hΓ hI hop rfl he hd ?_ (chkOs_own hI hys) h
    simp only [List.nil_append, List.append_nil]
    exact (chkOs_RVs hI hys).canons
  · simp only [Bool.and_eq_true] at hk
    obtain ⟨hro, hx, hys⟩ := hk
    have hv := chkO_RV hI hx
    obtain ⟨va, vb, he, hva, hvb⟩ := hv.clo_inv
    cases hva; cases hvb
    simp only [stepOp] at h
    refine o_xcall hΓ hI hop rfl he hd ?_ (chkOs_own hI hys) (rcall_xcall (hRO _ hro) h)
    simp only [List.nil_append, List.append_nil]
    exact (chkOs_RVs hI hys).canons
  · simp only [Bool.and_eq_true] at hk
    obtain ⟨hx, hys⟩ := hk
    have hv := chkO_RV hI hx
    simp only [stepOp] at h
    split at h
    · rename_i f first caps hq
      rw [hq] at hv
      obtain ⟨va, vb, he, hva, hvb⟩ := hv.clo_inv
      exact o_qcall hΓ hI hop rfl he hd ((hva.append (chkOs_RVs hI hys)).append hvb).canons h
    · cases h
  · simp only [Bool.and_eq_true] at hk
    obtain ⟨hx, hys⟩ := hk
    have hv := chkO_RV hI hx
    have ho := chkO_own hI hx
    simp only [stepOp] at h
    split at h
    · rename_i f first caps hq
      rw [hq] at hv ho
      simp only [ownSub, Bool.and_eq_true] at ho
      obtain ⟨va, vb, he, hva, hvb⟩ := hv.clo_inv
      exact o_xcall hΓ hI hop rfl he hd ((hva.append (chkOs_RVs hI hys)).append hvb).canons (ownSubs_append (ownSubs_append ho.1 (chkOs_own hI hys)) ho.2) h
    · cases h
  · cases hk

theorem stepOp_pure {Γ : Orc Ω} {st st' : FS Ω} {d : Option Nat} {op : Op} {iop : IOp} {g : Option (Nat × Bool)} (hk : chkPure P op iop = true) (h : stepOp Γ ⟨d, iop, g⟩ st = some st') : ∃ p, pureVal st.rd iop = some p ∧ st' = st.put d p := by
  have : stepOp Γ ⟨d, iop, g⟩ st = (pureVal st.rd iop).map (st.put d ·) ∨ chkPure P op iop = false := by
    cases iop <;> first
      | exact .inl rfl
      | (right; unfold chkPure; split <;> first | rfl | (rename_i he; cases he) | skip)
  rcases this with e | e
  · rw [e, Option.map_eq_some_iff] at h
    obtain ⟨p, hp, hq⟩ := h
    exact ⟨p, hp, hq.symm⟩
  · rw [e] at hk; cases hk

theorem op_ok {RO : Nat → Bool} {Γ : Orc Ω} (hΓ : Sound P O Γ) (hRO : ROok RO Γ) {st st' : FS Ω} {a : Act} {E : Env} {τ : Nat → Tag} (hI : Inv O N st a E τ) {go : Oper} {io : IOper} (hk : chkOp P RO N go io = true) (h : stepOp Γ io st = some st') : OpOK P O N st' a E τ go := by
  simp only [chkOp, Bool.and_eq_true, Bool.or_eq_true] at hk
  obtain ⟨hs, hdo, hk⟩ := hk
  have hs := sameD_eq hs
  have hd := dstOK_lt hdo
  rcases hk with hk | hk
  · exact mem_ok hΓ hRO hI hs hd hk h
  · obtain ⟨idst, iop, ig⟩ := io
    simp only at hs hk
    subst hs
    obtain ⟨p, hp, rfl⟩ := stepOp_pure hk h
    by_cases hmv : ∃ x, iop = .mv (.t x)
    · obtain ⟨x, rfl⟩ := hmv
      have hk' := hk
      generalize hop : go.op = op at hk
      unfold chkPure at hk
      split at hk <;> first | (rename_i he; cases he; done) | skip
      · rename_i x0 y0 he
        cases he
        have hx : ∃ t, x0 = .tmp t ∧ t = x := by
          unfold chkO at hk
          split at hk
          · rename_i he; injection he with he; subst he; exact ⟨_, rfl, Nat.eq_of_beq_eq_true hk⟩
          · rename_i he; cases he
          · rename_i he; cases he
          · cases hk
        obtain ⟨t, rfl, rfl⟩ := hx
        simp only [pureVal, Option.some.injEq] at hp
        exact o_mv hI hop rfl hd (by rw [← hp])
      all_goals cases hk
    · obtain ⟨v, h1, h2, h3, h4⟩ := pure_ok hI hk (fun x e => hmv ⟨x, e⟩) hp
      exact opOK_yields h1 (hI.putPlain hd h2 h3 h4)
end Go.Fw
end
section
/- Which operations may change places. -/
namespace Go.Fw
variable {Ω : Type}

theorem ins_comm {α : Type} {k l : Nat} (h : k ≠ l) (v u : α) : ∀ s : List (Nat × α), ins (ins s k v) l u = ins (ins s l u) k v := by
  have beqT : ∀ {a b : Nat}, a = b → Nat.beq a b = true := by rintro a _ rfl; exact Nat.beq_refl a
  have beqF : ∀ {a b : Nat}, a ≠ b → Nat.beq a b = false := by
    intro a b hab
    cases e : Nat.beq a b with
    | false => rfl
    | true => exact absurd (Nat.eq_of_beq_eq_true e) hab
  have bltT : ∀ {a b : Nat}, a < b → Nat.blt a b = true := by intro a b hab; rw [Nat.blt_eq]; exact hab
  have bltF : ∀ {a b : Nat}, ¬ a < b → Nat.blt a b = false := by
    intro a b hab
    cases e : Nat.blt a b with
    | false => rfl
    | true => rw [Nat.blt_eq] at e; exact absurd e hab
  intro s
  induction s with
  | nil =>
    simp only [ins]
    rcases Nat.lt_trichotomy k l with hkl | hkl | hkl
    · simp [beqF h, beqF (Ne.symm h), bltT hkl, bltF (show ¬ l < k by omega)]
    · exact absurd hkl h
    · simp [beqF h, beqF (Ne.symm h), bltT hkl, bltF (show ¬ k < l by omega)]
  | cons x r ih =>
    obtain ⟨j, w⟩ := x
    rcases Nat.lt_trichotomy k j with h1 | h1 | h1 <;> rcases Nat.lt_trichotomy l j with h2 | h2 | h2
    · rcases Nat.lt_trichotomy k l with h3 | h3 | h3
      · simp [ins, beqF (show k ≠ j by omega), beqF (show l ≠ j by omega), bltT h1, bltT h2, beqF h, beqF (Ne.symm h), bltT h3, bltF (show ¬ l < k by omega)]
      · exact absurd h3 h
      · simp [ins, beqF (show k ≠ j by omega), beqF (show l ≠ j by omega), bltT h1, bltT h2, beqF h, beqF (Ne.symm h), bltT h3, bltF (show ¬ k < l by omega)]
    · subst h2
      simp [ins, beqF (show k ≠ l by omega), bltT h1, Nat.beq_refl, beqF (Ne.symm h), bltF (show ¬ l < k by omega)]
    · simp [ins, beqF (show k ≠ j by omega), beqF (show l ≠ j by omega), bltT h1, bltF (show ¬ l < j by omega), beqF (Ne.symm h), bltF (show ¬ l < k by omega)]
    · subst h1
      simp [ins, beqF (show l ≠ k by omega), bltT h2, Nat.beq_refl, beqF h, bltF (show ¬ k < l by omega)]
    · exact absurd (h1.trans h2.symm) h
    · subst h1
      simp [ins, Nat.beq_refl, beqF (show l ≠ k by omega), bltF (show ¬ l < k by omega)]
    · simp [ins, beqF (show k ≠ j by omega), beqF (show l ≠ j by omega), bltT h2, bltF (show ¬ k < j by omega), beqF h, bltF (show ¬ k < l by omega)]
    · subst h2
      simp [ins, Nat.beq_refl, beqF (show k ≠ l by omega), bltF (show ¬ k < l by omega)]
    · simp [ins, beqF (show k ≠ j by omega), beqF (show l ≠ j by omega), bltF (show ¬ k < j by omega), bltF (show ¬ l < j by omega), ih]

def insAll : List (Nat × PV) → List (Nat × PV) → List (Nat × PV)
  | [], s => s
  | (k, v) :: r, s => insAll r (ins s k v)

theorem insAll_ins {k : Nat} {v : PV} : ∀ {ws : List (Nat × PV)} {s : List (Nat × PV)}, (∀ p ∈ ws, p.1 ≠ k) → insAll ws (ins s k v) = ins (insAll ws s) k v
  | [], _, _ => rfl
  | (j, u) :: r, s, h => by
    simp only [insAll]
    rw [ins_comm (h (j, u) (by simp)).symm, insAll_ins (fun p hp => h p (by simp [hp]))]
theorem insAll_comm : ∀ {ws us s : List (Nat × PV)}, (∀ p ∈ ws, ∀ q ∈ us, p.1 ≠ q.1) → insAll ws (insAll us s) = insAll us (insAll ws s)
  | ws, [], s, _ => rfl
  | ws, (k, v) :: us, s, h => by
    simp only [insAll]
    rw [insAll_comm (fun p hp q hq => h p hp q (by simp [hq])), insAll_ins (fun p hp => h p hp (k, v) (by simp))]
theorem look_insAll {k : Nat} : ∀ {ws s : List (Nat × PV)}, (∀ p ∈ ws, p.1 ≠ k) → look (insAll ws s) k = look s k
  | [], _, _ => rfl
  | (j, u) :: r, s, h => by
    simp only [insAll]
    rw [look_insAll (fun p hp => h p (by simp [hp])), look_ins, if_neg (h (j, u) (by simp)).symm]

/-- What an operation does to a frame. -/
inductive MEff (Ω : Type) where
  | keep
  | put (k : Nat) (c : Cel Ω)
  | all (L : Fr Ω) (S : List (Fr Ω))
structure Eff (Ω : Type) where
  ws : List (Nat × PV)
  m : MEff Ω
  d : Bool
def MEff.L (m : MEff Ω) (L : Fr Ω) : Fr Ω :=
  match m with
  | .keep => L
  | .put k c => ins L k c
  | .all L' _ => L'
def MEff.S (m : MEff Ω) (S : List (Fr Ω)) : List (Fr Ω) :=
  match m with
  | .all _ S' => S'
  | _ => S
def Eff.app (e : Eff Ω) (st : FS Ω) : FS Ω := { sl := insAll e.ws st.sl, L := e.m.L st.L, S := e.m.S st.S, dirty := st.dirty || e.d }

/-- What of the boxes it reads and writes. -/
inductive MC where
  | no
  | rd (av : List Nat)
  | rdall
  | add (d : Nat)
  | wr (k : Nat)
  | any

def opdsOf : IOp → List Opd
  | .mv x | .asg x | .box _ x | .load _ x | .loadx _ _ x | .eqnil _ x | .eqnils _ x | .un _ x | .cvi _ x | .same x | .s2b x | .b2s x | .faddr _ x | .fld _ _ x | .nilchk x | .extr x _ | .len x | .slen x => [x]
  | .pick c a b => [c, a, b]
  | .zalloc _ => []
  | .build _ ps => ps.map (·.2.2)
  | .bslice _ _ es => es
  | .store _ a x | .storek _ _ a x => [a, x]
  | .bin _ x y | .eqs _ _ x y | .beq _ x y | .iaddr _ x y | .aaddr _ _ x y | .istr x y | .iarr _ _ _ x y | .mm _ x y => [x, y]
  | .app (some (.slot t)) _ _ x y => [x, y, .t t]
  | .app _ _ _ x y => [x, y]
  | .slice _ x lo hi | .sslice x lo hi => x :: (lo.toList ++ hi.toList)
  | .mkfn _ a b => a ++ b
  | .call _ as | .callx _ as | .callr _ as => as
  | .callv x as | .callvx x as => x :: as

def slotsOf : List Opd → List Nat
  | [] => []
  | .t n :: r => n :: slotsOf r
  | _ :: r => slotsOf r

/-- The slots that lose a right. -/
def losesOf : IOp → List Opd
  | .asg x | .store _ _ x | .storek _ _ _ x => [x]
  | .app (some (.slot t)) _ _ _ _ => [.t t]
  | .app none _ _ x _ => [x]
  | _ => []

def footW (o : IOper) : List Nat := o.dst.toList ++ slotsOf (losesOf o.op)
def footR (o : IOper) : List Nat := o.dst.toList ++ ((match o.g with | some (j, _) => [j] | none => []) ++ slotsOf (opdsOf o.op))

def clsOf (o : IOper) : MC :=
  match o.op with
  | .load .. => .rd []
  | .loadx av _ _ => .rd av
  | .callr .. => .rdall
  | .box .. | .zalloc _ | .call .. | .callv .. => (match o.dst with | some d => .add d | none => .no)
  | .storek k _ _ _ => .wr k
  | .store .. | .callx .. | .callvx .. | .app (some _) .. => .any
  | _ => .no

/-- It may set 'dirty'. -/
def dwOf (o : IOper) : Bool :=
  match o.op with
  | .asg _ | .store .. | .storek .. | .callr .. | .callx .. | .callvx .. => true
  | _ => false
def drOf (o : IOper) : Bool :=
  match o.op with
  | .app (some _) .. => true
  | _ => false

def Fits (o : IOper) (e : Eff Ω) : Prop :=
  (∀ p ∈ e.ws, p.1 ∈ footW o) ∧ (e.d = true → dwOf o = true) ∧
  match clsOf o with
  | .no | .rd _ | .rdall => e.m = .keep
  | .add d => e.m = .keep ∨ ∃ c, e.m = .put d c
  | .wr k => e.m = .keep ∨ ∃ c, e.m = .put k c
  | .any => True

def Agree (o : IOper) (st st2 : FS Ω) : Prop :=
  (∀ k ∈ footR o, look st.sl k = look st2.sl k) ∧ (drOf o = true → st.dirty = st2.dirty) ∧
  match clsOf o with
  | .no => True
  | .rd av => st.S = st2.S ∧ ∀ k, hasN av k = false → look st.L k = look st2.L k
  | .rdall | .any => st.L = st2.L ∧ st.S = st2.S
  | .add d => look st.L d = look st2.L d
  | .wr k => look st.L k = look st2.L k

/-- An operation's effect, which hangs on what it reads alone. -/
def Local (Γ : Orc Ω) (o : IOper) : Prop :=
  ∀ st st', stepG Γ o st = some st' → ∃ e : Eff Ω, Fits o e ∧ st' = e.app st ∧ ∀ st2, Agree o st st2 → stepG Γ o st2 = some (e.app st2)

def disj : List Nat → List Nat → Bool
  | [], _ => true
  | k :: r, l => !hasN l k && disj r l
theorem hasN_mem {l : List Nat} {k : Nat} : hasN l k = true ↔ k ∈ l := by
  induction l with
  | nil => simp [hasN]
  | cons j r ih =>
    simp only [hasN, Bool.or_eq_true, ih, List.mem_cons]
    constructor
    · rintro (h | h)
      · exact .inl (Nat.eq_of_beq_eq_true h)
      · exact .inr h
    · rintro (h | h)
      · exact .inl (by rw [h]; exact Nat.beq_refl j)
      · exact .inr h
theorem disj_spec {a b : List Nat} (h : disj a b = true) : ∀ k ∈ a, k ∉ b := by
  induction a with
  | nil => simp
  | cons j r ih =>
    simp only [disj, Bool.and_eq_true, Bool.not_eq_true'] at h
    intro k hk
    cases hk with
    | head => intro hb; rw [← hasN_mem, h.1] at hb; cases hb
    | tail _ hk => exact ih h.2 k hk

def compat : MC → MC → Bool
  | .no, _ | _, .no => true
  | .rd _, .rd _ | .rd _, .rdall | .rdall, .rd _ | .rdall, .rdall => true
  | .rd av, .add d | .add d, .rd av => hasN av d
  | .rd av, .wr k | .wr k, .rd av => hasN av k
  | .add d, .add e => !Nat.beq d e
  | .add d, .wr k | .wr k, .add d => !Nat.beq d k
  | _, _ => false

def indep (a b : IOper) : Bool :=
  disj (footW a) (footR b) && (disj (footW b) (footR a) && (compat (clsOf a) (clsOf b) && (!(dwOf a && drOf b) && !(dwOf b && drOf a))))

theorem footW_R (o : IOper) : ∀ k ∈ footW o, k ∈ footR o := by
  obtain ⟨d, op, g⟩ := o
  have hs : ∀ {xs ys : List Opd} {k : Nat}, (∀ x ∈ xs, x ∈ ys) → k ∈ slotsOf xs → k ∈ slotsOf ys := by
    intro xs ys k h hk
    have hm : ∀ {l : List Opd}, k ∈ slotsOf l ↔ Opd.t k ∈ l := by
      intro l
      induction l with
      | nil => simp [slotsOf]
      | cons x r ih => cases x <;> simp [slotsOf, ih]
    rw [hm] at hk ⊢
    exact h _ hk
  intro k hk
  simp only [footW, footR, List.mem_append] at hk ⊢
  rcases hk with h | h
  · exact .inl h
  · refine .inr (.inr (hs (fun x hx => ?_) h))
    cases op <;> simp only [losesOf, opdsOf] at hx ⊢ <;> try (cases hx; done)
    · exact hx
    · simp at hx ⊢; exact .inr hx
    · rename_i src z b x y
      cases src with
      | none => simp [losesOf] at hx; simp [opdsOf, hx]
      | some s => cases s <;> simp [losesOf] at hx <;> simp [opdsOf, hx]
    · simp at hx ⊢; exact .inr hx
end Go.Fw
end
section
/- Which operations may change places, II. -/
namespace Go.Fw
variable {Ω : Type}

/-- How a class writes. -/
def mfits : MC → MEff Ω → Prop
  | .no, m | .rd _, m | .rdall, m => m = .keep
  | .add d, m => m = .keep ∨ ∃ c, m = .put d c
  | .wr k, m => m = .keep ∨ ∃ c, m = .put k c
  | .any, _ => True
/-- How a class reads. -/
def magree : MC → Fr Ω → List (Fr Ω) → Fr Ω → List (Fr Ω) → Prop
  | .no, _, _, _, _ => True
  | .rd av, L, S, L2, S2 => S = S2 ∧ ∀ k, hasN av k = false → look L k = look L2 k
  | .rdall, L, S, L2, S2 | .any, L, S, L2, S2 => L = L2 ∧ S = S2
  | .add d, L, _, L2, _ => look L d = look L2 d
  | .wr k, L, _, L2, _ => look L k = look L2 k

theorem fits_iff {o : IOper} {e : Eff Ω} : Fits o e ↔ (∀ p ∈ e.ws, p.1 ∈ footW o) ∧ (e.d = true → dwOf o = true) ∧ mfits (clsOf o) e.m := by
  unfold Fits mfits; cases clsOf o <;> exact Iff.rfl
theorem agree_iff {o : IOper} {st st2 : FS Ω} : Agree o st st2 ↔ (∀ k ∈ footR o, look st.sl k = look st2.sl k) ∧ (drOf o = true → st.dirty = st2.dirty) ∧ magree (clsOf o) st.L st.S st2.L st2.S := by
  unfold Agree magree; cases clsOf o <;> exact Iff.rfl

theorem magree_symm {c : MC} {L L2 : Fr Ω} {S S2 : List (Fr Ω)} (h : magree c L S L2 S2) : magree c L2 S2 L S := by
  cases c <;> simp only [magree] at h ⊢
  · exact ⟨h.1.symm, fun k hk => (h.2 k hk).symm⟩
  · exact ⟨h.1.symm, h.2.symm⟩
  · exact h.symm
  · exact h.symm
  · exact ⟨h.1.symm, h.2.symm⟩
theorem Agree.symm {o : IOper} {st st2 : FS Ω} (h : Agree o st st2) : Agree o st2 st := by
  rw [agree_iff] at h ⊢
  exact ⟨fun k hk => (h.1 k hk).symm, fun hd => (h.2.1 hd).symm, magree_symm h.2.2⟩

theorem beq_ne {a b : Nat} (h : Nat.beq a b = false) : a ≠ b := by rintro rfl; rw [Nat.beq_refl] at h; cases h

theorem magree_eff {a b : MC} {m : MEff Ω} (hf : mfits a m) (hc : compat a b = true) (L : Fr Ω) (S : List (Fr Ω)) : magree b L S (m.L L) (m.S S) := by
  have hkeep : ∀ c : MC, m = .keep → magree c L S (m.L L) (m.S S) := by
    rintro c rfl
    cases c <;> simp [magree, MEff.L, MEff.S]
  have hput : ∀ {d : Nat} {c : Cel Ω}, m = .put d c → (∀ av, b = .rd av → hasN av d = true) → (∀ e, b = .add e → d ≠ e) → (∀ e, b = .wr e → d ≠ e) → (b ≠ .rdall) → b ≠ .any → magree b L S (m.L L) (m.S S) := by
    rintro d c rfl h1 h2 h3 h4 h5
    cases b with
    | no => trivial
    | rd av =>
      refine ⟨rfl, fun k hk => ?_⟩
      simp only [MEff.L]
      rw [look_ins, if_neg]
      rintro rfl
      rw [h1 av rfl] at hk; cases hk
    | rdall => exact absurd rfl h4
    | any => exact absurd rfl h5
    | add e =>
      simp only [magree, MEff.L]
      rw [look_ins, if_neg (h2 e rfl).symm]
    | wr e =>
      simp only [magree, MEff.L]
      rw [look_ins, if_neg (h3 e rfl).symm]
  cases a with
  | no => exact hkeep b hf
  | rd av => exact hkeep b hf
  | rdall => exact hkeep b hf
  | add d =>
    rcases hf with h | ⟨c, h⟩
    · exact hkeep b h
    · refine hput h ?_ ?_ ?_ ?_ ?_
      · rintro av rfl; exact hc
      · rintro e rfl; simp only [compat, Bool.not_eq_true'] at hc; exact beq_ne hc
      · rintro e rfl; simp only [compat, Bool.not_eq_true'] at hc; exact beq_ne hc
      · rintro rfl; cases hc
      · rintro rfl; cases hc
  | wr k =>
    rcases hf with h | ⟨c, h⟩
    · exact hkeep b h
    · refine hput h ?_ ?_ ?_ ?_ ?_
      · rintro av rfl; exact hc
      · rintro e rfl; simp only [compat, Bool.not_eq_true'] at hc; exact (beq_ne hc).symm
      · rintro e rfl; cases hc
      · rintro rfl; cases hc
      · rintro rfl; cases hc
  | any =>
    cases b with
    | no => trivial
    | _ => cases hc

theorem meff_comm {a b : MC} {m m' : MEff Ω} (hf : mfits a m) (hf' : mfits b m') (hc : compat a b = true) (L : Fr Ω) (S : List (Fr Ω)) : m.L (m'.L L) = m'.L (m.L L) ∧ m.S (m'.S S) = m'.S (m.S S) := by
  have hk1 : m = .keep → m.L (m'.L L) = m'.L (m.L L) ∧ m.S (m'.S S) = m'.S (m.S S) := by rintro rfl; exact ⟨rfl, rfl⟩
  have hk2 : m' = .keep → m.L (m'.L L) = m'.L (m.L L) ∧ m.S (m'.S S) = m'.S (m.S S) := by rintro rfl; exact ⟨rfl, rfl⟩
  have hpp : ∀ {d e : Nat} {c c' : Cel Ω}, m = .put d c → m' = .put e c' → d ≠ e → m.L (m'.L L) = m'.L (m.L L) ∧ m.S (m'.S S) = m'.S (m.S S) := by
    rintro d e c c' rfl rfl hde
    exact ⟨(ins_comm hde c c' L).symm, rfl⟩
  cases a <;> cases b <;> simp only [mfits] at hf hf' <;> first
    | exact hk1 hf
    | exact hk2 hf'
    | (cases hc; done)
    | skip
  · rcases hf with h | ⟨c, h⟩
    · exact hk1 h
    · rcases hf' with h' | ⟨c', h'⟩
      · exact hk2 h'
      · simp only [compat, Bool.not_eq_true'] at hc; exact hpp h h' (beq_ne hc)
  · rcases hf with h | ⟨c, h⟩
    · exact hk1 h
    · rcases hf' with h' | ⟨c', h'⟩
      · exact hk2 h'
      · simp only [compat, Bool.not_eq_true'] at hc; exact hpp h h' (beq_ne hc)
  · rcases hf' with h' | ⟨c', h'⟩
    · exact hk2 h'
    · rcases hf with h | ⟨c, h⟩
      · exact hk1 h
      · simp only [compat, Bool.not_eq_true'] at hc; exact hpp h h' (beq_ne hc).symm

theorem compat_symm (a b : MC) : compat a b = compat b a := by
  cases a <;> cases b <;> try rfl
  rename_i d e
  show (!Nat.beq d e) = (!Nat.beq e d)
  congr 1
  cases h : Nat.beq d e with
  | true => rw [Nat.eq_of_beq_eq_true h, Nat.beq_refl]
  | false =>
    cases h2 : Nat.beq e d with
    | false => rfl
    | true => rw [Nat.eq_of_beq_eq_true h2, Nat.beq_refl] at h; cases h

theorem indep_spec {a b : IOper} (h : indep a b = true) : (∀ k ∈ footW a, k ∉ footR b) ∧ (∀ k ∈ footW b, k ∉ footR a) ∧ compat (clsOf a) (clsOf b) = true ∧ (dwOf a = true → drOf b = false) ∧ (dwOf b = true → drOf a = false) := by
  simp only [indep, Bool.and_eq_true, Bool.not_eq_true', Bool.and_eq_false_iff] at h
  obtain ⟨h1, h2, h3, h4, h5⟩ := h
  refine ⟨disj_spec h1, disj_spec h2, h3, fun hd => ?_, fun hd => ?_⟩
  · rcases h4 with h | h
    · rw [hd] at h; cases h
    · exact h
  · rcases h5 with h | h
    · rw [hd] at h; cases h
    · exact h

theorem agree_app {a b : IOper} {e : Eff Ω} (hf : Fits a e) (hw : ∀ k ∈ footW a, k ∉ footR b) (hc : compat (clsOf a) (clsOf b) = true) (hd : dwOf a = true → drOf b = false) (st : FS Ω) : Agree b st (e.app st) := by
  rw [fits_iff] at hf
  rw [agree_iff]
  refine ⟨fun k hk => ?_, fun hdr => ?_, magree_eff hf.2.2 hc st.L st.S⟩
  · show look st.sl k = look (insAll e.ws st.sl) k
    rw [look_insAll]
    intro p hp hpk
    exact hw p.1 (hf.1 p hp) (by rw [hpk]; exact hk)
  · show st.dirty = (st.dirty || e.d)
    cases he : e.d with
    | false => simp
    | true => rw [hd (hf.2.1 he)] at hdr; cases hdr

/-- Two neighbours change places. -/
theorem swap {Γ : Orc Ω} {a b : IOper} (ha : Local Γ a) (hb : Local Γ b) (hi : indep a b = true) {st st' : FS Ω} (h : (stepG Γ a st).bind (stepG Γ b) = some st') : (stepG Γ b st).bind (stepG Γ a) = some st' := by
  obtain ⟨h1, h2, h3, h4, h5⟩ := indep_spec hi
  rw [Option.bind_eq_some_iff] at h
  obtain ⟨s1, hs1, h⟩ := h
  obtain ⟨eA, fA, rfl, gA⟩ := ha st s1 hs1
  obtain ⟨eB, fB, rfl, gB⟩ := hb _ st' h
  rw [gB st (agree_app fA h1 h3 h4 st).symm, Option.bind_some, gA (eB.app st) (agree_app fB h2 (by rw [compat_symm]; exact h3) h5 st)]
  congr 1
  rw [fits_iff] at fA fB
  obtain ⟨m1, m2⟩ := meff_comm fA.2.2 fB.2.2 h3 st.L st.S
  have hws : insAll eA.ws (insAll eB.ws st.sl) = insAll eB.ws (insAll eA.ws st.sl) := by
    refine insAll_comm fun p hp q hq e => ?_
    exact h1 p.1 (fA.1 p hp) (by rw [e]; exact footW_R b _ (fB.1 q hq))
  have hd : (st.dirty || eB.d || eA.d) = (st.dirty || eA.d || eB.d) := by cases st.dirty <;> cases eA.d <;> cases eB.d <;> rfl
  show ({ sl := insAll eA.ws (insAll eB.ws st.sl), L := eA.m.L (eB.m.L st.L), S := eA.m.S (eB.m.S st.S), dirty := (st.dirty || eB.d || eA.d) } : FS Ω) = { sl := insAll eB.ws (insAll eA.ws st.sl), L := eB.m.L (eA.m.L st.L), S := eB.m.S (eA.m.S st.S), dirty := (st.dirty || eA.d || eB.d) }
  rw [hws, m1, m2, hd]
end Go.Fw
end
section
/- Which operations may change places, III: each operation. -/
namespace Go.Fw
variable {Ω : Type}

theorem slotsOf_mem {l : List Opd} {k : Nat} : k ∈ slotsOf l ↔ Opd.t k ∈ l := by
  induction l with
  | nil => simp [slotsOf]
  | cons x r ih => cases x <;> simp [slotsOf, ih]

theorem getS_look {s s2 : List (Nat × PV)} {k : Nat} (h : look s k = look s2 k) : getS s k = getS s2 k := by unfold getS; rw [h]

theorem rd_congr {st st2 : FS Ω} {x : Opd} (h : ∀ k, x = .t k → look st.sl k = look st2.sl k) : st.rd x = st2.rd x := by
  cases x with
  | t k => exact getS_look (h k rfl)
  | _ => rfl

theorem noAl_look {d : Nat} : ∀ s : List (Nat × PV), noAl d s = true ↔ look s d = none
  | [] => by simp [noAl, look]
  | (j, v) :: r => by
    simp only [noAl, look, Bool.and_eq_true, Bool.not_eq_true']
    cases h : Nat.beq d j with
    | true => simp
    | false => simp [noAl_look r]
theorem noAl_congr {d : Nat} {s s2 : List (Nat × PV)} (h : look s d = look s2 d) : noAl d s = noAl d s2 := by
  rw [Bool.eq_iff_iff, noAl_look, noAl_look, h]

theorem pureVal_congr {rd rd' : Opd → PV} {op : IOp} (h : ∀ x ∈ opdsOf op, rd x = rd' x) : pureVal rd op = pureVal rd' op := by
  have hm : ∀ {l : List Opd}, (∀ x ∈ l, rd x = rd' x) → l.map rd = l.map rd' := fun h => List.map_congr_left h
  cases op <;> simp only [opdsOf, List.mem_cons, List.not_mem_nil, or_false, forall_eq, forall_eq_or_imp] at h <;> simp only [pureVal] <;> try (first | rfl | rw [h] | (rw [h.1, h.2]) | (rw [h.1, h.2.1, h.2.2]))
  · rename_i x
    cases x <;> simp only [h]
  · rename_i zero parts
    congr 2
    apply List.map_congr_left
    intro p hp
    rw [h p.2.2 (List.mem_map.2 ⟨p, hp, rfl⟩)]
  · rename_i z x lo hi
    have h1 := h.1
    have h2 : lo.map rd = lo.map rd' := by cases lo with | none => rfl | some l => simp [h.2 l (by simp)]
    have h3 : hi.map rd = hi.map rd' := by cases hi with | none => rfl | some l => simp [h.2 l (by simp)]
    rw [h1, h2, h3]
  · rename_i x lo hi
    have h1 := h.1
    have h2 : lo.map rd = lo.map rd' := by cases lo with | none => rfl | some l => simp [h.2 l (by simp)]
    have h3 : hi.map rd = hi.map rd' := by cases hi with | none => rfl | some l => simp [h.2 l (by simp)]
    rw [h1, h2, h3]
  · rename_i f a b
    rw [hm fun x hx => h x (List.mem_append.2 (.inl hx)), hm fun x hx => h x (List.mem_append.2 (.inr hx))]

def wput (d : Option Nat) (v : PV) : List (Nat × PV) :=
  match d with
  | some d => [(d, v)]
  | none => []

theorem app_eq {e : Eff Ω} {st st' : FS Ω} (h1 : st'.sl = insAll e.ws st.sl) (h2 : st'.L = e.m.L st.L) (h3 : st'.S = e.m.S st.S) (h4 : st'.dirty = (st.dirty || e.d)) : st' = e.app st := by
  cases st'; simp only at h1 h2 h3 h4; subst h1 h2 h3 h4; rfl

theorem put_app (d : Option Nat) (v : PV) (st : FS Ω) : st.put d v = (⟨wput d v, .keep, false⟩ : Eff Ω).app st := by
  apply app_eq
  · cases d <;> rfl
  · cases d <;> rfl
  · cases d <;> rfl
  · cases d <;> simp [FS.put]

theorem wput_foot {d : Option Nat} {v : PV} {op : IOp} {g : Option (Nat × Bool)} : ∀ p ∈ wput d v, p.1 ∈ footW ⟨d, op, g⟩ := by
  intro p hp
  cases d with
  | none => cases hp
  | some d => simp only [wput, List.mem_singleton] at hp; subst hp; simp [footW]

theorem agree_rd {d : Option Nat} {op : IOp} {g : Option (Nat × Bool)} {st st2 : FS Ω} (h : Agree ⟨d, op, g⟩ st st2) : ∀ x ∈ opdsOf op, st.rd x = st2.rd x := by
  intro x hx
  refine rd_congr fun k hk => ?_
  subst hk
  exact h.1 k (by simp only [footR, List.mem_append]; exact .inr (.inr (slotsOf_mem.2 hx)))
theorem agree_dst {d : Nat} {op : IOp} {g : Option (Nat × Bool)} {st st2 : FS Ω} (h : Agree ⟨some d, op, g⟩ st st2) : look st.sl d = look st2.sl d :=
  h.1 d (by simp [footR])

def LocalOp (Γ : Orc Ω) (d : Option Nat) (op : IOp) (g : Option (Nat × Bool)) : Prop :=
  ∀ st st', stepOp Γ ⟨d, op, g⟩ st = some st' → ∃ e : Eff Ω, Fits ⟨d, op, g⟩ e ∧ st' = e.app st ∧ ∀ st2, Agree ⟨d, op, g⟩ st st2 → stepOp Γ ⟨d, op, g⟩ st2 = some (e.app st2)

/-- What puts a value that hangs on the operands alone. -/
theorem local_put {Γ : Orc Ω} {d : Option Nat} {op : IOp} {g : Option (Nat × Bool)} {F : FS Ω → Option PV} (he : ∀ st, stepOp Γ ⟨d, op, g⟩ st = (F st).map (st.put d ·)) (hF : ∀ st st2, Agree ⟨d, op, g⟩ st st2 → F st2 = F st)
    (hc : ∀ m : MEff Ω, m = .keep → mfits (clsOf ⟨d, op, g⟩) m) : LocalOp Γ d op g := by
  intro st st' h
  rw [he, Option.map_eq_some_iff] at h
  obtain ⟨v, hv, rfl⟩ := h
  refine ⟨⟨wput d v, .keep, false⟩, fits_iff.2 ⟨wput_foot, by simp, hc _ rfl⟩, put_app d v st, fun st2 ha => ?_⟩
  rw [he, hF st st2 ha, hv, Option.map_some, put_app]

theorem local_pure {Γ : Orc Ω} {d : Option Nat} {op : IOp} {g : Option (Nat × Bool)} (he : ∀ st : FS Ω, stepOp Γ ⟨d, op, g⟩ st = (pureVal st.rd op).map (st.put d ·)) (hc : clsOf ⟨d, op, g⟩ = .no) : LocalOp Γ d op g :=
  local_put he (fun st st2 ha => (pureVal_congr (agree_rd ha)).symm) (by rw [hc]; exact fun m h => h)

/-- As 'local_put', where the value may bear a right. -/
theorem local_putR {Γ : Orc Ω} {d : Option Nat} {op : IOp} {g : Option (Nat × Bool)} {F : FS Ω → Option PV} (he : ∀ st, stepOp Γ ⟨d, op, g⟩ st = (F st).bind (st.putR d ·)) (hF : ∀ st st2, Agree ⟨d, op, g⟩ st st2 → F st2 = F st)
    (hc : ∀ m : MEff Ω, m = .keep → mfits (clsOf ⟨d, op, g⟩) m) : LocalOp Γ d op g := by
  intro st st' h
  rw [he, Option.bind_eq_some_iff] at h
  obtain ⟨v, hv, h⟩ := h
  have hp : st' = st.put d v := by
    cases d with
    | none => simp only [FS.putR, Option.some.injEq] at h; exact h.symm
    | some d =>
      simp only [FS.putR] at h
      split at h
      · simp only [Option.some.injEq] at h; exact h.symm
      · cases h
  refine ⟨⟨wput d v, .keep, false⟩, fits_iff.2 ⟨wput_foot, by simp, hc _ rfl⟩, by rw [hp]; exact put_app d v st, fun st2 ha => ?_⟩
  rw [he, hF st st2 ha, hv, Option.bind_some, ← put_app]
  cases d with
  | none => rfl
  | some d =>
    simp only [FS.putR] at h ⊢
    rw [← noAl_congr (agree_dst ha)]
    split at h
    · rename_i hcond; rw [if_pos hcond]; rfl
    · cases h
end Go.Fw
end
section
/- Which operations may change places, IV: each operation. -/
namespace Go.Fw
variable {Ω : Type} {Γ : Orc Ω} {d : Option Nat} {g : Option (Nat × Bool)}

theorem map_rd {st st2 : FS Ω} {l : List Opd} (h : ∀ x ∈ l, st.rd x = st2.rd x) : l.map st.rd = l.map st2.rd := List.map_congr_left h

theorem boxq_congr {st st2 : FS Ω} {p : PV} (hS : st.S = st2.S) (hL : ∀ k off, p = .own k off → look st.L k = look st2.L k) : st2.box? p = st.box? p := by
  cases p <;> simp only [FS.box?]
  · rw [hL _ _ rfl]
  · rw [hS]
theorem loadV_congr {st st2 : FS Ω} {n : Option Nat} {p : PV} (hS : st.S = st2.S) (hL : ∀ k off, p = .own k off → look st.L k = look st2.L k) : st2.loadV n p = st.loadV n p := by
  cases p <;> simp only [FS.loadV] <;> first | rfl | rw [boxq_congr hS hL]

theorem l_load {n : Option Nat} {a : Opd} : LocalOp Γ d (.load n a) g := by
  refine local_put (F := fun st => st.loadV n (st.rd a)) (fun st => rfl) (fun st st2 ha => ?_) (fun m h => h)
  have hr := agree_rd ha a (by simp [opdsOf])
  obtain ⟨_, _, hS, hL⟩ := ha
  show st2.loadV n (st2.rd a) = _
  rw [← hr]
  exact loadV_congr hS (fun k off _ => hL k rfl)

theorem l_loadx {av : List Nat} {n : Option Nat} {a : Opd} : LocalOp Γ d (.loadx av n a) g := by
  refine local_put (F := fun st => if offBox av (st.rd a) then st.loadV n (st.rd a) else none) (fun st => ?_) (fun st st2 ha => ?_) (fun m h => h)
  · simp only [stepOp]; split <;> rfl
  · have hr := agree_rd ha a (by simp [opdsOf])
    obtain ⟨_, _, hS, hL⟩ := ha
    show (if offBox av (st2.rd a) = true then st2.loadV n (st2.rd a) else none) = _
    rw [← hr]
    split
    · rename_i ho
      exact loadV_congr hS (fun k off e => hL k (by rw [e] at ho; simpa [offBox] using ho))
    · rfl

theorem l_bslice {z : Nat} {one : Bool} {es : List Opd} : LocalOp Γ d (.bslice z one es) g := by
  refine local_putR (F := fun st => (elems z one (es.map st.rd)).map (.sl .own z ·)) (fun st => ?_) (fun st st2 ha => ?_) (fun m h => h)
  · simp only [stepOp]
    cases elems z one (es.map st.rd) <;> rfl
  · show (elems z one (es.map st2.rd)).map _ = _
    rw [← map_rd (l := es) (agree_rd ha)]

theorem l_s2b {x : Opd} : LocalOp Γ d (.s2b x) g :=
  local_put (F := fun st => s2bP (st.rd x)) (fun st => rfl) (fun st st2 ha => by show s2bP (st2.rd x) = _; rw [agree_rd ha x (by simp [opdsOf])]) (fun m h => h)

/-- A new box. -/
theorem l_new {op : IOp} {F : FS Ω → Option (List PV)} (he : ∀ d st, stepOp Γ ⟨some d, op, g⟩ st = (F st).bind fun cs => match look st.L d with
      | none => if ownSubs [] cs then some { st with sl := ins st.sl d (.own d 0), L := ins st.L d (.box (dems cs)) } else none
      | _ => none) (hn : ∀ st, stepOp Γ ⟨none, op, g⟩ st = none)
    (hF : ∀ st st2, (∀ x ∈ opdsOf op, st.rd x = st2.rd x) → F st2 = F st) (hc : ∀ d, clsOf ⟨some d, op, g⟩ = .add d) : LocalOp Γ d op g := by
  intro st st' h
  cases d with
  | none => rw [hn] at h; cases h
  | some d =>
    rw [he, Option.bind_eq_some_iff] at h
    obtain ⟨cs, hcs, h⟩ := h
    split at h
    · rename_i hL
      split at h
      · rename_i ho
        simp only [Option.some.injEq] at h
        subst h
        refine ⟨⟨wput (some d) (.own d 0), .put d (.box (dems cs)), false⟩, fits_iff.2 ⟨wput_foot (d := some d), by simp, by rw [hc]; exact .inr ⟨_, rfl⟩⟩, app_eq rfl rfl rfl (by simp), fun st2 ha => ?_⟩
        have hd := ha.2.2
        rw [hc] at hd
        rw [he, hF st st2 (agree_rd ha), hcs, Option.bind_some]
        have hd : look st.L d = look st2.L d := hd
        rw [← hd, hL]
        simp only [if_pos ho, Option.some.injEq]
        exact app_eq rfl rfl rfl (by simp)
      · cases h
    · cases h

theorem l_box {n : Option Nat} {x : Opd} : LocalOp Γ d (.box n x) g := by
  refine l_new (F := fun st => cellsOf n (st.rd x)) (fun d st => ?_) (fun st => ?_) (fun st st2 h => ?_) (fun d => rfl)
  · simp only [stepOp]; cases cellsOf n (st.rd x) <;> rfl
  · simp only [stepOp]
  · show cellsOf n (st2.rd x) = _
    rw [h x (by simp [opdsOf])]
theorem l_zalloc {cs : List PV} : LocalOp Γ d (.zalloc cs) g := by
  refine l_new (F := fun _ => some cs) (fun d st => ?_) (fun st => ?_) (fun st st2 h => rfl) (fun d => rfl)
  · simp only [stepOp]; rfl
  · simp only [stepOp]

def wlose (st : FS Ω) : Opd → List (Nat × PV)
  | .t n => match getS st.sl n with
    | .sl _ z es => [(n, .sl .no z es)]
    | _ => []
  | _ => []
theorem lose_app (st : FS Ω) (x : Opd) : st.lose x = { st with sl := insAll (wlose st x) st.sl } := by
  cases x with
  | t n =>
    simp only [FS.lose, wlose]
    cases getS st.sl n <;> rfl
  | _ => rfl
theorem wlose_congr {st st2 : FS Ω} {x : Opd} (h : ∀ k, x = .t k → look st.sl k = look st2.sl k) : wlose st2 x = wlose st x := by
  unfold wlose
  split
  · rename_i n; rw [getS_look (h n rfl)]
  · rfl
theorem wlose_key {st : FS Ω} {x : Opd} : ∀ p ∈ wlose st x, x = .t p.1 := by
  unfold wlose
  split
  · split
    · simp
    · simp
  · simp
theorem wlose_foot {st : FS Ω} {x : Opd} {op : IOp} (hx : x ∈ losesOf op) : ∀ p ∈ wlose st x, p.1 ∈ footW ⟨d, op, g⟩ := by
  intro p hp
  simp only [footW, List.mem_append]
  refine .inr (slotsOf_mem.2 ?_)
  rw [← wlose_key p hp]; exact hx
theorem insAll_append : ∀ (a b s : List (Nat × PV)), insAll (a ++ b) s = insAll b (insAll a s)
  | [], _, _ => rfl
  | (k, v) :: a, b, s => insAll_append a b (ins s k v)
theorem agree_look {op : IOp} {st st2 : FS Ω} (h : Agree ⟨d, op, g⟩ st st2) {x : Opd} (hx : x ∈ opdsOf op) : ∀ k, x = .t k → look st.sl k = look st2.sl k := by
  rintro k rfl
  exact h.1 k (by simp only [footR, List.mem_append]; exact .inr (.inr (slotsOf_mem.2 hx)))

theorem l_asg {x : Opd} : LocalOp Γ d (.asg x) g := by
  have key : ∀ st : FS Ω, stepOp Γ ⟨d, .asg x, g⟩ st = some ((⟨(if isOwn (st.rd x) then wlose st x else []) ++ wput d (moved (st.rd x)), .keep, true⟩ : Eff Ω).app st) := by
    intro st
    simp only [stepOp]
    congr 1
    apply app_eq
    · show ((if isOwn (st.rd x) = true then st.lose x else st).put d (moved (st.rd x))).sl = _
      rw [put_app]
      show insAll (wput d _) _ = _
      rw [insAll_append]
      congr 1
      split
      · rw [lose_app]
      · rfl
    · show ((if isOwn (st.rd x) = true then st.lose x else st).put d (moved (st.rd x))).L = _
      rw [put_app]
      show (if isOwn (st.rd x) = true then st.lose x else st).L = st.L
      split
      · exact (lose_LS st x).1
      · rfl
    · show ((if isOwn (st.rd x) = true then st.lose x else st).put d (moved (st.rd x))).S = _
      rw [put_app]
      show (if isOwn (st.rd x) = true then st.lose x else st).S = st.S
      split
      · exact (lose_LS st x).2.1
      · rfl
    · simp
  intro st st' h
  rw [key] at h
  simp only [Option.some.injEq] at h
  refine ⟨⟨(if isOwn (st.rd x) then wlose st x else []) ++ wput d (moved (st.rd x)), .keep, true⟩, fits_iff.2 ⟨?_, fun _ => rfl, rfl⟩, h.symm, fun st2 ha => ?_⟩
  · intro p hp
    rcases List.mem_append.1 hp with hp | hp
    · split at hp
      · exact wlose_foot (by simp [losesOf]) p hp
      · cases hp
    · exact wput_foot p hp
  · rw [key, ← agree_rd ha x (by simp [opdsOf]), wlose_congr (agree_look ha (by simp [opdsOf]))]

/-- What a call's answer does. -/
theorem homed_eff {st st' : FS Ω} {r : PV} {o : Option (Cel Ω)} (h : st.homed d r o = some st') :
    ∃ v m, (m = .keep ∨ ∃ k c, d = some k ∧ m = .put k c) ∧ st' = (⟨wput d v, m, false⟩ : Eff Ω).app st ∧
      ∀ st2 : FS Ω, (∀ k, d = some k → look st.sl k = look st2.sl k ∧ look st.L k = look st2.L k) → st2.homed d r o = some ((⟨wput d v, m, false⟩ : Eff Ω).app st2) := by
  cases o with
  | none =>
    simp only [FS.homed] at h
    split at h
    · rename_i hpf
      have hp : st' = st.put d r := by
        cases d with
        | none => simp only [FS.putR, Option.some.injEq] at h; exact h.symm
        | some d =>
          simp only [FS.putR] at h
          split at h
          · simp only [Option.some.injEq] at h; exact h.symm
          · cases h
      refine ⟨r, .keep, .inl rfl, by rw [hp]; exact put_app d r st, fun st2 ha => ?_⟩
      simp only [FS.homed, if_pos hpf]
      rw [← put_app]
      cases d with
      | none => rfl
      | some d =>
        simp only [FS.putR] at h ⊢
        rw [← noAl_congr (ha d rfl).1]
        split at h
        · rename_i hcond; rw [if_pos hcond]; rfl
        · cases h
    · cases h
  | some c =>
    cases d with
    | none => simp [FS.homed] at h
    | some d =>
      simp only [FS.homed] at h
      split at h
      · rename_i hL
        simp only [Option.some.injEq] at h
        refine ⟨home d r, .put d c, .inr ⟨d, c, rfl, rfl⟩, ?_, fun st2 ha => ?_⟩
        · rw [← h]; exact app_eq rfl rfl rfl (by simp)
        · simp only [FS.homed, ← (ha d rfl).2, hL, Option.some.injEq]
          exact app_eq rfl rfl rfl (by simp)
      · cases h

theorem l_qcall {op : IOp} {F : FS Ω → Option (Nat × List PV)} (he : ∀ st, stepOp Γ ⟨d, op, g⟩ st = (F st).bind fun p => st.qcall Γ d p.1 p.2) (hF : ∀ st st2, (∀ x ∈ opdsOf op, st.rd x = st2.rd x) → F st2 = F st)
    (hc : clsOf ⟨d, op, g⟩ = match d with | some d => .add d | none => .no) : LocalOp Γ d op g := by
  intro st st' h
  rw [he, Option.bind_eq_some_iff] at h
  obtain ⟨⟨f, vs⟩, hp, h⟩ := h
  simp only [FS.qcall] at h
  split at h
  · rename_i hpf
    rw [Option.bind_eq_some_iff] at h
    obtain ⟨r, hr, h⟩ := h
    obtain ⟨v, m, hm, h1, h2⟩ := homed_eff h
    refine ⟨_, fits_iff.2 ⟨wput_foot, by simp, ?_⟩, h1, fun st2 ha => ?_⟩
    · rw [hc]
      rcases hm with rfl | ⟨k, c, rfl, rfl⟩
      · cases d with
        | none => rfl
        | some d => exact .inl rfl
      · exact .inr ⟨c, rfl⟩
    · rw [he, hF st st2 (agree_rd ha), hp, Option.bind_some]
      simp only [FS.qcall, if_pos hpf, hr, Option.bind_some]
      refine h2 st2 ?_
      rintro k rfl
      refine ⟨agree_dst ha, ?_⟩
      have := ha.2.2
      rw [hc] at this
      exact this
  · cases h
end Go.Fw
end
